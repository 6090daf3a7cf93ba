import Derived.Test.YtckklclehofddaaGreatDoorW2
import Derived.Test.YtckklclehofddaaGreatDoorW3
import Derived.Test.YtckklclehofddaaGreatDoorW7
import Derived.Test.YtckklclehofddaaGreatDoorW8
import Derived.Test.YtckklclehofddaaGreatDoorW9
set_option linter.unusedVariables false
set_option linter.unusedSimpArgs false
set_option linter.unusedSectionVars false
namespace Go.Proofs.YtckklclehofddaaGreatDoor.Q
open Go.Ax Go.Proofs.YtckklclehofddaaGreatDoor Go.Proofs.YtckklclehofddaaGreatDoor.H Go.Proofs.YtckklclehofddaaGreatDoor.D
set_option maxRecDepth 1000000
structure PbV (a b:List P.Producer) (ta tb:List Int) (ps:List P.Producer) (e:Int):Prop where
 i:PbIn a b ta tb
 v:P.bothE a b ta tb=e
 l:P.bothL a b ta tb=ps
structure CbV (a b:List Con) (ta tb:List Int) (cs:List Con) (e:Int):Prop where
 i:CbIn a b ta tb
 v:bothE a b ta tb=e
 l:boU a b ta tb (a++b).length=cs
noncomputable def rpN (b1 b2 b3 b4:Bool) (a b:List P.Producer) (ta tb:List Int) (ps:List P.Producer) (e:Int):Ctr Tryz.prog:=⟨37,[P.encPs b1 a,P.encPs b2 b,encUs b3 ta,encUs b4 tb],[],.need (PbV a b ta tb ps e) (P.rowE ps e),T.Sat.need fun h=>by
 obtain ⟨⟨h1,h2,h3,h4,h5,h6⟩,rfl,rfl⟩:=h
 exact P.rboth_c b1 b2 b3 b4 a b ta tb h1 h2 h3 h4 h5 h6⟩
noncomputable def rcN (b1 b2 b3 b4:Bool) (a b:List Con) (ta tb:List Int) (cs:List Con) (e:Int):Ctr Tryz.prog:=⟨38,[encCs b1 a,encCs b2 b,encUs b3 ta,encUs b4 tb],[],.need (CbV a b ta tb cs e) (rowE cs e),T.Sat.need fun h=>by
 obtain ⟨⟨h1,h2,h3,h4,h5,h6⟩,rfl,rfl⟩:=h
 exact rb_c b1 b2 b3 b4 a b ta tb h1 h2 h3 h4 h5 h6⟩
def moT (x:Mgv):T An:=.ite (x.e==0) (.ret (.tup [.agg (ptW x.m 0 1 2),.s (.int .i64 0)],ptO x.m,[])) (.ret (.tup [.agg (encPt true default),.y (.int .i64 x.e)],[],[]))
noncomputable def moH (x:Mgv) (ca cb:Bool):HintsT Tryz.prog:=withSh (hh _ noLp (cs1 14 2 1 (ckN true x.a ca) (cs1 14 2 5 (ckN true x.b cb) (cs1 14 6 4 (km2N x.a.rng x.b.rng x.e1) (cs1 14 9 4 (jrNC true true x.a.recs x.b.recs x.e2 x.out x.ta x.tb) (cs1 14 12 6 (rpN true true false false x.a.prods x.b.prods x.ta x.tb x.ps x.e3) (cs1 14 15 6 (rcN true true false false x.a.cons x.b.cons x.ta x.tb x.cs x.e4) (cs1 14 19 1 (ckN false x.m x.c) noCs))))))) noOp) noSh
def vcMo_q3 (x:Mgv):Prop:=({ data:=#[]:ByteArray }=x.a.rng.lo/\{ data:=#[]:ByteArray }=x.b.rng.hi/\0=Mgv.ep x/\(0:Int)=0/\False/\False/\False/\True)
def vcMo_q16 (x:Mgv):Prop:=((x.e==0)=true->((vcMo_q3 x)/\(172:Int)=0/\True)/\False)
def vcMo_q2:Prop:=({ data:=#[]:ByteArray }=ByteArray.empty/\{ data:=#[]:ByteArray }=ByteArray.empty/\(0:Int)=0/\(0:Int)=0/\0=0/\0=0/\0=0/\True)
def vcMo_q1 (x:Mgv):Prop:=(x.c=false->true=true/\True/\(vcMo_q16 x)/\((x.e==0)=false->((vcMo_q2)/\172=x.e/\True)/\True))
def vcMo_q4 (x:Mgv):Prop:=((true=true/\x.a.cons.length=x.a.cons.length/\contLe x.a.cons.length 2 (cellsOf' encC x.a.cons) (cellsOf' encC x.a.cons))/\(true=true/\x.b.cons.length=x.b.cons.length/\contLe x.b.cons.length 2 (cellsOf' encC x.b.cons) (cellsOf' encC x.b.cons))/\(false=false/\x.ta.length=x.ta.length/\contLe x.ta.length 1 (Ax.rowAt 0 (cellsOf' encU x.ta)) (cellsOf' encU x.ta))/\(false=false/\x.tb.length=x.tb.length/\contLe x.tb.length 1 (Ax.rowAt 0 (cellsOf' encU x.tb)) (cellsOf' encU x.tb))/\True)
def vcMo_q5 (x:Mgv):Prop:=((x.e4 != 0)=true->((x.e==0)=true->((vcMo_q3 x)/\x.e4=0/\True)/\False)/\((x.e==0)=false->((vcMo_q2)/\x.e4=x.e/\True)/\True))
def vcMo_q6 (x:Mgv):Prop:=((true=true/\x.a.cons.length=x.a.cons.length/\contLe x.a.cons.length 2 (cellsOf' encC x.a.cons) (cellsOf' encC x.a.cons))/\(true=true/\x.b.cons.length=x.b.cons.length/\contLe x.b.cons.length 2 (cellsOf' encC x.b.cons) (cellsOf' encC x.b.cons))/\x.ta.length=0/\x.tb.length=0/\True)
def vcMo_q7 (x:Mgv):Prop:=(false=false/\x.out.length=x.out.length/\contLe x.out.length 5 (Ax.rowAt 0 (cellsOf' encR x.out)) (cellsOf' encR x.out))
def vcMo_q8 (x:Mgv):Prop:=(false=false/\x.ps.length=x.ps.length/\contLe x.ps.length 4 (Ax.rowAt 0 (cellsOf' P.encP x.ps)) (cellsOf' P.encP x.ps))
def vcMo_q9 (x:Mgv):Prop:=(false=false/\x.cs.length=x.cs.length/\contLe x.cs.length 2 (Ax.rowAt 0 (cellsOf' encC x.cs)) (cellsOf' encC x.cs))
def vcMo_q10 (x:Mgv):Prop:=((ByteArray.empty=x.a.rng.lo/\ByteArray.empty=x.b.rng.hi/\IntKind.u64.wrap ((if x.b.epoch > x.a.epoch then x.b.epoch else x.a.epoch)+1)=Mgv.ep x/\(0:Int)=0/\False/\False/\False/\True)/\(0:Int)=0/\True)
def vcMo_q11 (x:Mgv):Prop:=(x.out.length=x.out.length/\contLe x.out.length 5 (cellsOf' encR x.out) (cellsOf' encR x.out))
def vcMo_q12 (x:Mgv):Prop:=((x.a.rng.lo=x.a.rng.lo/\x.b.rng.hi=x.b.rng.hi/\IntKind.u64.wrap ((if x.b.epoch > x.a.epoch then x.b.epoch else x.a.epoch)+1)=Mgv.ep x/\(0:Int)=0/\False/\False/\False/\True)/\(0:Int)=0/\True)
def vcMo_q13 (x:Mgv):Prop:=((true=true/\x.a.prods.length=x.a.prods.length/\contLe x.a.prods.length 4 (cellsOf' P.encP x.a.prods) (cellsOf' P.encP x.a.prods))/\(true=true/\x.b.prods.length=x.b.prods.length/\contLe x.b.prods.length 4 (cellsOf' P.encP x.b.prods) (cellsOf' P.encP x.b.prods))/\(false=false/\x.ta.length=x.ta.length/\contLe x.ta.length 1 (Ax.rowAt 0 (cellsOf' encU x.ta)) (cellsOf' encU x.ta))/\(false=false/\x.tb.length=x.tb.length/\contLe x.tb.length 1 (Ax.rowAt 0 (cellsOf' encU x.tb)) (cellsOf' encU x.tb))/\True)
def vcMo_q14 (x:Mgv):Prop:=((x.e3 != 0)=true->((x.e==0)=true->((vcMo_q3 x)/\x.e3=0/\True)/\False)/\((x.e==0)=false->((vcMo_q2)/\x.e3=x.e/\True)/\True))
def vcMo_q15 (x:Mgv):Prop:=((true=true/\x.a.prods.length=x.a.prods.length/\contLe x.a.prods.length 4 (cellsOf' P.encP x.a.prods) (cellsOf' P.encP x.a.prods))/\(true=true/\x.b.prods.length=x.b.prods.length/\contLe x.b.prods.length 4 (cellsOf' P.encP x.b.prods) (cellsOf' P.encP x.b.prods))/\x.ta.length=0/\x.tb.length=0/\True)
def vcMo (x:Mgv) (ca:Bool) (cb:Bool):Prop :=
 ((ptLe true true x.a x.a)/\True)/\True/\(CkIn x.a/\partOk x.a=ca)/\(ca=true->((ptLe true true x.b x.b)/\True)/\True/\(CkIn x.b/\partOk x.b=cb)/\(cb=true->((IntKind.u64.wrap ((if x.b.epoch > x.a.epoch then x.b.epoch else x.a.epoch)+1)==0)=true->(vcMo_q16 x)/\((x.e==0)=false->((vcMo_q2)/\172=x.e/\True)/\True))/\((IntKind.u64.wrap ((if x.b.epoch > x.a.epoch then x.b.epoch else x.a.epoch)+1)==0)=false->((x.a.frozen==0)=true->((x.e==0)=true->((vcMo_q3 x)/\(171:Int)=0/\True)/\False)/\((x.e==0)=false->((vcMo_q2)/\171=x.e/\True)/\True))/\((x.a.frozen==0)=false->((x.b.frozen==0)=true->((x.e==0)=true->((vcMo_q3 x)/\(171:Int)=0/\True)/\False)/\((x.e==0)=false->((vcMo_q2)/\171=x.e/\True)/\True))/\((x.b.frozen==0)=false->((x.a.rng.lo=x.a.rng.lo/\x.a.rng.hi=x.a.rng.hi/\True)/\(x.b.rng.lo=x.b.rng.lo/\x.b.rng.hi=x.b.rng.hi/\True)/\True)/\True/\kmE x.a.rng x.b.rng=x.e1/\((x.e1==0)=true->((true=true/\x.a.recs.length=x.a.recs.length/\contLe x.a.recs.length 5 (cellsOf' encR x.a.recs) (cellsOf' encR x.a.recs))/\(true=true/\x.b.recs.length=x.b.recs.length/\contLe x.b.recs.length 5 (cellsOf' encR x.b.recs) (cellsOf' encR x.b.recs))/\True)/\True/\JnN x.a.recs x.b.recs x.e2 x.out x.ta x.tb/\((x.e2==0)=true->(vcMo_q13 x)/\True/\PbV x.a.prods x.b.prods x.ta x.tb x.ps x.e3/\((x.e3==0)=true->true=true/\((∀ k,k<x.ps.length->∀ j,j<4->tagT (cellsOf' P.encP x.ps k j)=true)/\True)/\(vcMo_q4 x)/\True/\CbV x.a.cons x.b.cons x.ta x.tb x.cs x.e4/\((x.e4==0)=true->true=true/\((∀ k,k<x.cs.length->∀ j,j<2->tagT (cellsOf' encC x.cs k j)=true)/\True)/\((x.a.rng.lo=x.a.rng.lo/\x.b.rng.hi=x.b.rng.hi/\IntKind.u64.wrap ((if x.b.epoch > x.a.epoch then x.b.epoch else x.a.epoch)+1)=Mgv.ep x/\(0:Int)=0/\(vcMo_q7 x)/\(vcMo_q8 x)/\(vcMo_q9 x)/\True)/\True)/\True/\(CkIn (Mgv.m x)/\partOk (Mgv.m x)=x.c)/\(x.c=true->true=true/\True/\((x.e==0)=true->((x.a.rng.lo=x.a.rng.lo/\x.b.rng.hi=x.b.rng.hi/\IntKind.u64.wrap ((if x.b.epoch > x.a.epoch then x.b.epoch else x.a.epoch)+1)=Mgv.ep x/\(0:Int)=0/\(0=0/\x.out.length=x.out.length)/\(0=0/\x.ps.length=x.ps.length)/\(0=0/\x.cs.length=x.cs.length)/\True)/\(0:Int)=0/\True)/\(vcMo_q11 x)/\(x.ps.length=x.ps.length/\contLe x.ps.length 4 (cellsOf' P.encP x.ps) (cellsOf' P.encP x.ps))/\(x.cs.length=x.cs.length/\contLe x.cs.length 2 (cellsOf' encC x.cs) (cellsOf' encC x.cs))/\True)/\((x.e==0)=false->False))/\(vcMo_q1 x))/\((x.e4==0)=false->true=true/\True/\(vcMo_q5 x)/\((x.e4 != 0)=false->((x.a.rng.lo=x.a.rng.lo/\x.b.rng.hi=x.b.rng.hi/\IntKind.u64.wrap ((if x.b.epoch > x.a.epoch then x.b.epoch else x.a.epoch)+1)=Mgv.ep x/\(0:Int)=0/\(vcMo_q7 x)/\(vcMo_q8 x)/\x.cs.length=0/\True)/\True)/\True/\(CkIn (Mgv.m x)/\partOk (Mgv.m x)=x.c)/\(x.c=true->true=true/\True/\((x.e==0)=true->((x.a.rng.lo=x.a.rng.lo/\x.b.rng.hi=x.b.rng.hi/\IntKind.u64.wrap ((if x.b.epoch > x.a.epoch then x.b.epoch else x.a.epoch)+1)=Mgv.ep x/\(0:Int)=0/\(0=0/\x.out.length=x.out.length)/\(0=0/\x.ps.length=x.ps.length)/\False/\True)/\(0:Int)=0/\True)/\(vcMo_q11 x)/\(x.ps.length=x.ps.length/\contLe x.ps.length 4 (cellsOf' P.encP x.ps) (cellsOf' P.encP x.ps))/\False)/\((x.e==0)=false->False))/\(vcMo_q1 x))))/\((x.e3==0)=false->true=true/\True/\(vcMo_q14 x)/\((x.e3 != 0)=false->(vcMo_q4 x)/\True/\CbV x.a.cons x.b.cons x.ta x.tb x.cs x.e4/\((x.e4==0)=true->true=true/\((∀ k,k<x.cs.length->∀ j,j<2->tagT (cellsOf' encC x.cs k j)=true)/\True)/\((x.a.rng.lo=x.a.rng.lo/\x.b.rng.hi=x.b.rng.hi/\IntKind.u64.wrap ((if x.b.epoch > x.a.epoch then x.b.epoch else x.a.epoch)+1)=Mgv.ep x/\(0:Int)=0/\(vcMo_q7 x)/\x.ps.length=0/\(vcMo_q9 x)/\True)/\True)/\True/\(CkIn (Mgv.m x)/\partOk (Mgv.m x)=x.c)/\(x.c=true->true=true/\True/\((x.e==0)=true->((x.a.rng.lo=x.a.rng.lo/\x.b.rng.hi=x.b.rng.hi/\IntKind.u64.wrap ((if x.b.epoch > x.a.epoch then x.b.epoch else x.a.epoch)+1)=Mgv.ep x/\(0:Int)=0/\(0=0/\x.out.length=x.out.length)/\False/\False/\True)/\(0:Int)=0/\True)/\(vcMo_q11 x)/\False/\False)/\((x.e==0)=false->False))/\(vcMo_q1 x))/\((x.e4==0)=false->true=true/\True/\(vcMo_q5 x)/\((x.e4 != 0)=false->((x.a.rng.lo=x.a.rng.lo/\x.b.rng.hi=x.b.rng.hi/\IntKind.u64.wrap ((if x.b.epoch > x.a.epoch then x.b.epoch else x.a.epoch)+1)=Mgv.ep x/\(0:Int)=0/\(vcMo_q7 x)/\x.ps.length=0/\x.cs.length=0/\True)/\True)/\True/\(CkIn (Mgv.m x)/\partOk (Mgv.m x)=x.c)/\(x.c=true->true=true/\True/\((x.e==0)=true->((x.a.rng.lo=x.a.rng.lo/\x.b.rng.hi=x.b.rng.hi/\IntKind.u64.wrap ((if x.b.epoch > x.a.epoch then x.b.epoch else x.a.epoch)+1)=Mgv.ep x/\(0:Int)=0/\(0=0/\x.out.length=x.out.length)/\False/\False/\True)/\(0:Int)=0/\True)/\(vcMo_q11 x)/\False)/\((x.e==0)=false->False))/\(vcMo_q1 x))))))/\((x.e2==0)=false->((x.e2 != 0)=true->((x.e==0)=true->((vcMo_q3 x)/\x.e2=0/\True)/\False)/\((x.e==0)=false->((vcMo_q2)/\x.e2=x.e/\True)/\True))/\((x.e2 != 0)=false->(vcMo_q15 x)/\True/\PbV x.a.prods x.b.prods x.ta x.tb x.ps x.e3/\((x.e3==0)=true->(vcMo_q6 x)/\True/\CbV x.a.cons x.b.cons x.ta x.tb x.cs x.e4/\((x.e4==0)=true->((x.a.rng.lo=x.a.rng.lo/\x.b.rng.hi=x.b.rng.hi/\IntKind.u64.wrap ((if x.b.epoch > x.a.epoch then x.b.epoch else x.a.epoch)+1)=Mgv.ep x/\(0:Int)=0/\x.out.length=0/\(vcMo_q8 x)/\(vcMo_q9 x)/\True)/\True)/\True/\(CkIn (Mgv.m x)/\partOk (Mgv.m x)=x.c)/\(x.c=true->true=true/\True/\((x.e==0)=true->(vcMo_q12 x)/\False/\False/\False)/\((x.e==0)=false->False))/\(vcMo_q1 x))/\((x.e4==0)=false->(vcMo_q5 x)/\((x.e4 != 0)=false->((x.a.rng.lo=x.a.rng.lo/\x.b.rng.hi=x.b.rng.hi/\IntKind.u64.wrap ((if x.b.epoch > x.a.epoch then x.b.epoch else x.a.epoch)+1)=Mgv.ep x/\(0:Int)=0/\x.out.length=0/\(vcMo_q8 x)/\x.cs.length=0/\True)/\True)/\True/\(CkIn (Mgv.m x)/\partOk (Mgv.m x)=x.c)/\(x.c=true->true=true/\True/\((x.e==0)=true->(vcMo_q12 x)/\False/\False)/\((x.e==0)=false->False))/\(vcMo_q1 x))))/\((x.e3==0)=false->(vcMo_q14 x)/\((x.e3 != 0)=false->(vcMo_q6 x)/\True/\CbV x.a.cons x.b.cons x.ta x.tb x.cs x.e4/\((x.e4==0)=true->((x.a.rng.lo=x.a.rng.lo/\x.b.rng.hi=x.b.rng.hi/\IntKind.u64.wrap ((if x.b.epoch > x.a.epoch then x.b.epoch else x.a.epoch)+1)=Mgv.ep x/\(0:Int)=0/\x.out.length=0/\x.ps.length=0/\(vcMo_q9 x)/\True)/\True)/\True/\(CkIn (Mgv.m x)/\partOk (Mgv.m x)=x.c)/\(x.c=true->true=true/\True/\((x.e==0)=true->(vcMo_q12 x)/\False/\False)/\((x.e==0)=false->False))/\(vcMo_q1 x))/\((x.e4==0)=false->(vcMo_q5 x)/\((x.e4 != 0)=false->((x.a.rng.lo=x.a.rng.lo/\x.b.rng.hi=x.b.rng.hi/\IntKind.u64.wrap ((if x.b.epoch > x.a.epoch then x.b.epoch else x.a.epoch)+1)=Mgv.ep x/\(0:Int)=0/\x.out.length=0/\x.ps.length=0/\x.cs.length=0/\True)/\True)/\True/\(CkIn (Mgv.m x)/\partOk (Mgv.m x)=x.c)/\(x.c=true->((x.e==0)=true->(vcMo_q12 x)/\False)/\((x.e==0)=false->((x.a.rng.lo=ByteArray.empty/\x.b.rng.hi=ByteArray.empty/\IntKind.u64.wrap ((if x.b.epoch > x.a.epoch then x.b.epoch else x.a.epoch)+1)=0/\(0:Int)=0/\0=0/\0=0/\0=0/\True)/\0=x.e/\True)/\True))/\(x.c=false->(vcMo_q16 x)/\((x.e==0)=false->((vcMo_q2)/\172=x.e/\True)/\True)))))))))/\((x.e1==0)=false->((x.e1 != 0)=true->((x.e==0)=true->((vcMo_q3 x)/\x.e1=0/\True)/\False)/\((x.e==0)=false->((vcMo_q2)/\x.e1=x.e/\True)/\True))/\((x.e1 != 0)=false->((true=true/\x.a.recs.length=x.a.recs.length/\contLe x.a.recs.length 5 (cellsOf' encR x.a.recs) (cellsOf' encR x.a.recs))/\(true=true/\x.b.recs.length=x.b.recs.length/\contLe x.b.recs.length 5 (cellsOf' encR x.b.recs) (cellsOf' encR x.b.recs))/\True)/\True/\JnN x.a.recs x.b.recs x.e2 x.out x.ta x.tb/\((x.e2==0)=true->(vcMo_q13 x)/\True/\PbV x.a.prods x.b.prods x.ta x.tb x.ps x.e3/\((x.e3==0)=true->true=true/\((∀ k,k<x.ps.length->∀ j,j<4->tagT (cellsOf' P.encP x.ps k j)=true)/\True)/\(vcMo_q4 x)/\True/\CbV x.a.cons x.b.cons x.ta x.tb x.cs x.e4/\((x.e4==0)=true->true=true/\((∀ k,k<x.cs.length->∀ j,j<2->tagT (cellsOf' encC x.cs k j)=true)/\True)/\((ByteArray.empty=x.a.rng.lo/\ByteArray.empty=x.b.rng.hi/\IntKind.u64.wrap ((if x.b.epoch > x.a.epoch then x.b.epoch else x.a.epoch)+1)=Mgv.ep x/\(0:Int)=0/\(vcMo_q7 x)/\(vcMo_q8 x)/\(vcMo_q9 x)/\True)/\True)/\True/\(CkIn (Mgv.m x)/\partOk (Mgv.m x)=x.c)/\(x.c=true->true=true/\True/\((x.e==0)=true->((ByteArray.empty=x.a.rng.lo/\ByteArray.empty=x.b.rng.hi/\IntKind.u64.wrap ((if x.b.epoch > x.a.epoch then x.b.epoch else x.a.epoch)+1)=Mgv.ep x/\(0:Int)=0/\(0=0/\x.out.length=x.out.length)/\(0=0/\x.ps.length=x.ps.length)/\(0=0/\x.cs.length=x.cs.length)/\True)/\(0:Int)=0/\True)/\(vcMo_q11 x)/\(x.ps.length=x.ps.length/\contLe x.ps.length 4 (cellsOf' P.encP x.ps) (cellsOf' P.encP x.ps))/\(x.cs.length=x.cs.length/\contLe x.cs.length 2 (cellsOf' encC x.cs) (cellsOf' encC x.cs))/\True)/\((x.e==0)=false->False))/\(vcMo_q1 x))/\((x.e4==0)=false->true=true/\True/\(vcMo_q5 x)/\((x.e4 != 0)=false->((ByteArray.empty=x.a.rng.lo/\ByteArray.empty=x.b.rng.hi/\IntKind.u64.wrap ((if x.b.epoch > x.a.epoch then x.b.epoch else x.a.epoch)+1)=Mgv.ep x/\(0:Int)=0/\(vcMo_q7 x)/\(vcMo_q8 x)/\x.cs.length=0/\True)/\True)/\True/\(CkIn (Mgv.m x)/\partOk (Mgv.m x)=x.c)/\(x.c=true->true=true/\True/\((x.e==0)=true->((ByteArray.empty=x.a.rng.lo/\ByteArray.empty=x.b.rng.hi/\IntKind.u64.wrap ((if x.b.epoch > x.a.epoch then x.b.epoch else x.a.epoch)+1)=Mgv.ep x/\(0:Int)=0/\(0=0/\x.out.length=x.out.length)/\(0=0/\x.ps.length=x.ps.length)/\False/\True)/\(0:Int)=0/\True)/\(vcMo_q11 x)/\(x.ps.length=x.ps.length/\contLe x.ps.length 4 (cellsOf' P.encP x.ps) (cellsOf' P.encP x.ps))/\False)/\((x.e==0)=false->False))/\(vcMo_q1 x))))/\((x.e3==0)=false->true=true/\True/\(vcMo_q14 x)/\((x.e3 != 0)=false->(vcMo_q4 x)/\True/\CbV x.a.cons x.b.cons x.ta x.tb x.cs x.e4/\((x.e4==0)=true->true=true/\((∀ k,k<x.cs.length->∀ j,j<2->tagT (cellsOf' encC x.cs k j)=true)/\True)/\((ByteArray.empty=x.a.rng.lo/\ByteArray.empty=x.b.rng.hi/\IntKind.u64.wrap ((if x.b.epoch > x.a.epoch then x.b.epoch else x.a.epoch)+1)=Mgv.ep x/\(0:Int)=0/\(vcMo_q7 x)/\x.ps.length=0/\(vcMo_q9 x)/\True)/\True)/\True/\(CkIn (Mgv.m x)/\partOk (Mgv.m x)=x.c)/\(x.c=true->true=true/\True/\((x.e==0)=true->((ByteArray.empty=x.a.rng.lo/\ByteArray.empty=x.b.rng.hi/\IntKind.u64.wrap ((if x.b.epoch > x.a.epoch then x.b.epoch else x.a.epoch)+1)=Mgv.ep x/\(0:Int)=0/\(0=0/\x.out.length=x.out.length)/\False/\False/\True)/\(0:Int)=0/\True)/\(vcMo_q11 x)/\False/\False)/\((x.e==0)=false->False))/\(vcMo_q1 x))/\((x.e4==0)=false->true=true/\True/\(vcMo_q5 x)/\((x.e4 != 0)=false->((ByteArray.empty=x.a.rng.lo/\ByteArray.empty=x.b.rng.hi/\IntKind.u64.wrap ((if x.b.epoch > x.a.epoch then x.b.epoch else x.a.epoch)+1)=Mgv.ep x/\(0:Int)=0/\(vcMo_q7 x)/\x.ps.length=0/\x.cs.length=0/\True)/\True)/\True/\(CkIn (Mgv.m x)/\partOk (Mgv.m x)=x.c)/\(x.c=true->true=true/\True/\((x.e==0)=true->((ByteArray.empty=x.a.rng.lo/\ByteArray.empty=x.b.rng.hi/\IntKind.u64.wrap ((if x.b.epoch > x.a.epoch then x.b.epoch else x.a.epoch)+1)=Mgv.ep x/\(0:Int)=0/\(0=0/\x.out.length=x.out.length)/\False/\False/\True)/\(0:Int)=0/\True)/\(vcMo_q11 x)/\False)/\((x.e==0)=false->False))/\(vcMo_q1 x))))))/\((x.e2==0)=false->((x.e2 != 0)=true->((x.e==0)=true->((vcMo_q3 x)/\x.e2=0/\True)/\False)/\((x.e==0)=false->((vcMo_q2)/\x.e2=x.e/\True)/\True))/\((x.e2 != 0)=false->(vcMo_q15 x)/\True/\PbV x.a.prods x.b.prods x.ta x.tb x.ps x.e3/\((x.e3==0)=true->(vcMo_q6 x)/\True/\CbV x.a.cons x.b.cons x.ta x.tb x.cs x.e4/\((x.e4==0)=true->((ByteArray.empty=x.a.rng.lo/\ByteArray.empty=x.b.rng.hi/\IntKind.u64.wrap ((if x.b.epoch > x.a.epoch then x.b.epoch else x.a.epoch)+1)=Mgv.ep x/\(0:Int)=0/\x.out.length=0/\(vcMo_q8 x)/\(vcMo_q9 x)/\True)/\True)/\True/\(CkIn (Mgv.m x)/\partOk (Mgv.m x)=x.c)/\(x.c=true->true=true/\True/\((x.e==0)=true->(vcMo_q10 x)/\False/\False/\False)/\((x.e==0)=false->False))/\(vcMo_q1 x))/\((x.e4==0)=false->(vcMo_q5 x)/\((x.e4 != 0)=false->((ByteArray.empty=x.a.rng.lo/\ByteArray.empty=x.b.rng.hi/\IntKind.u64.wrap ((if x.b.epoch > x.a.epoch then x.b.epoch else x.a.epoch)+1)=Mgv.ep x/\(0:Int)=0/\x.out.length=0/\(vcMo_q8 x)/\x.cs.length=0/\True)/\True)/\True/\(CkIn (Mgv.m x)/\partOk (Mgv.m x)=x.c)/\(x.c=true->true=true/\True/\((x.e==0)=true->(vcMo_q10 x)/\False/\False)/\((x.e==0)=false->False))/\(vcMo_q1 x))))/\((x.e3==0)=false->(vcMo_q14 x)/\((x.e3 != 0)=false->(vcMo_q6 x)/\True/\CbV x.a.cons x.b.cons x.ta x.tb x.cs x.e4/\((x.e4==0)=true->((ByteArray.empty=x.a.rng.lo/\ByteArray.empty=x.b.rng.hi/\IntKind.u64.wrap ((if x.b.epoch > x.a.epoch then x.b.epoch else x.a.epoch)+1)=Mgv.ep x/\(0:Int)=0/\x.out.length=0/\x.ps.length=0/\(vcMo_q9 x)/\True)/\True)/\True/\(CkIn (Mgv.m x)/\partOk (Mgv.m x)=x.c)/\(x.c=true->true=true/\True/\((x.e==0)=true->(vcMo_q10 x)/\False/\False)/\((x.e==0)=false->False))/\(vcMo_q1 x))/\((x.e4==0)=false->(vcMo_q5 x)/\((x.e4 != 0)=false->((ByteArray.empty=x.a.rng.lo/\ByteArray.empty=x.b.rng.hi/\IntKind.u64.wrap ((if x.b.epoch > x.a.epoch then x.b.epoch else x.a.epoch)+1)=Mgv.ep x/\(0:Int)=0/\x.out.length=0/\x.ps.length=0/\x.cs.length=0/\True)/\True)/\True/\(CkIn (Mgv.m x)/\partOk (Mgv.m x)=x.c)/\(x.c=true->((x.e==0)=true->(vcMo_q10 x)/\False)/\((x.e==0)=false->((ByteArray.empty=ByteArray.empty/\ByteArray.empty=ByteArray.empty/\IntKind.u64.wrap ((if x.b.epoch > x.a.epoch then x.b.epoch else x.a.epoch)+1)=0/\(0:Int)=0/\0=0/\0=0/\0=0/\True)/\0=x.e/\True)/\True))/\(x.c=false->(vcMo_q16 x)/\((x.e==0)=false->((vcMo_q2)/\172=x.e/\True)/\True))))))))))))))/\(cb=false->(vcMo_q16 x)/\((x.e==0)=false->((vcMo_q2)/\172=x.e/\True)/\True)))/\(ca=false->(vcMo_q16 x)/\((x.e==0)=false->((vcMo_q2)/\172=x.e/\True)/\True))
theorem vcMo_eq (x:Mgv) (ca:Bool) (cb:Bool):(ctrVC Tryz.prog (moH x ca cb) 14 [.agg (encPt true x.a),.agg (encPt true x.b)] [] (moT x))=vcMo x ca cb:=by kernel_rfl
end Go.Proofs.YtckklclehofddaaGreatDoor.Q

namespace Go.Proofs.YtckklclehofddaaGreatDoor.Q
open Go.Ax Go.Proofs.YtckklclehofddaaGreatDoor Go.Proofs.YtckklclehofddaaGreatDoor.H Go.Proofs.YtckklclehofddaaGreatDoor.D
set_option maxRecDepth 1000000
def mo9T (x:Mgv):T An:=.ret (.tup [.agg (ptW x.m 0 1 2),.s (.int .i64 0)],ptO x.m,[])
def erM (e:Int):T An:=.ret (.tup [.agg (encPt true default),.y (.int .i64 e)],[],[])
def moE (a b:Part) (ep e1 e2 e3 e4:Int) (c:Bool):Int:=if (!partOk a||!partOk b||ep==0)=true then 172 else if live2 a b=true then 171 else if e1≠0 then e1 else if e2≠0 then e2 else if e3≠0 then e3 else if e4≠0 then e4 else if c=true then 0 else 172
structure MoV (x:Mgv):Prop where
 a:CkIn x.a
 b:CkIn x.b
 km:kmE x.a.rng x.b.rng=x.e1
 jo:JnN x.a.recs x.b.recs x.e2 x.out x.ta x.tb
 pb:partOk x.a=true->partOk x.b=true->x.e2=0->PbV x.a.prods x.b.prods x.ta x.tb x.ps x.e3
 cb:partOk x.a=true->partOk x.b=true->x.e2=0->CbV x.a.cons x.b.cons x.ta x.tb x.cs x.e4
 ck:partOk x.a=true->partOk x.b=true->x.e2=0->x.e3=0->x.e4=0->CkIn x.m/\partOk x.m=x.c
 e:x.e=moE x.a x.b x.ep x.e1 x.e2 x.e3 x.e4 x.c
theorem mo_c (x:Mgv) (h:MoV x):(moT x).Sat (ACall' Tryz.prog 14 [.agg (encPt true x.a),.agg (encPt true x.b)] []):=by
 refine ctr_vc (ht:=moH x (partOk x.a) (partOk x.b)) Tryz.mixed rfl ?_
 rw [vcMo_eq x (partOk x.a) (partOk x.b)]
 unfold vcMo vcMo_q15 vcMo_q14 vcMo_q13 vcMo_q12 vcMo_q11 vcMo_q10 vcMo_q9 vcMo_q8 vcMo_q7 vcMo_q6 vcMo_q5 vcMo_q4 vcMo_q1 vcMo_q2 vcMo_q16 vcMo_q3
 obtain ⟨ha,hb,km,jo,pv,cv,ck,he⟩:=h
 unfold moE live2 at he
 have eb:({ data:=#[] }:ByteArray)=ByteArray.empty:=rfl
 rw [eb]
 simp only [rowAt_zero,Nat.zero_add,epq,contLe_refl]
 generalize hca:partOk x.a=ca at *
 generalize hcb:partOk x.b=cb at *
 have t2:∀ (k:Nat),k<x.ps.length->∀ (j:Nat),j<4->tagT (cellsOf' P.encP x.ps k j)=true:=fun k _ j hj=>tagP _ j hj
 have t3:∀ (k:Nat),k<x.cs.length->∀ (j:Nat),j<2->tagT (cellsOf' encC x.cs k j)=true:=fun k _ j hj=>Go.Proofs.YtckklclehofddaaGreatDoor.D.tagC _ j hj
 have t1:∀ (k:Nat),k<x.out.length->∀ (j:Nat),j<5->tagT (cellsOf' encR x.out k j)=true:=fun k _ j hj=>tagR _ j hj
 cases ca
 · simp at he
   simp [he,ha,hb,hca]
 cases cb
 · simp at he
   simp [he,ha,hb,hca,hcb]
 by_cases c1:x.ep=0
 · simp [c1] at he
   simp [he,ha,hb,hca,hcb,c1]
 by_cases c2:x.a.frozen=0
 · simp [c1,c2] at he
   simp [he,ha,hb,hca,hcb,c1,c2]
 by_cases c3:x.b.frozen=0
 · simp [c1,c2,c3] at he
   simp [he,ha,hb,hca,hcb,c1,c2,c3]
 by_cases c4:x.e1=0
 rotate_left
 · simp [c1,c2,c3,c4] at he
   simp [he,ha,hb,hca,hcb,c1,c2,c3,c4,km]
 by_cases c5:x.e2=0
 rotate_left
 · simp [c1,c2,c3,c4,c5] at he
   simp [he,ha,hb,hca,hcb,c1,c2,c3,c4,c5,km,jo]
 have pv:=pv rfl rfl c5
 have cv:=cv rfl rfl c5
 have ck:=ck rfl rfl c5
 rw [c5] at jo
 by_cases c6:x.e3=0
 rotate_left
 · simp [c1,c2,c3,c4,c5,c6] at he
   simp [he,ha,hb,hca,hcb,c1,c2,c3,c4,c5,c6,km,jo,pv]
 rw [c6] at pv
 by_cases c7:x.e4=0
 rotate_left
 · simp [c1,c2,c3,c4,c5,c6,c7] at he
   simp [he,ha,hb,hca,hcb,c1,c2,c3,c4,c5,c6,c7,km,jo,pv,cv]
   exact t2
 have ck:=ck c6 c7
 rw [c7] at cv
 cases c8:x.c
 · simp [c1,c2,c3,c4,c5,c6,c7,c8] at he
   simp [he,ha,hb,hca,hcb,c1,c2,c3,c4,c5,c6,c7,c8,km,jo,pv,cv,ck]
   exact ⟨t2,t3⟩
 · simp [c1,c2,c3,c4,c5,c6,c7,c8] at he
   simp [he,ha,hb,hca,hcb,c1,c2,c3,c4,c5,c6,c7,c8,km,jo,pv,cv,ck]
   exact ⟨t2,t3⟩
end Go.Proofs.YtckklclehofddaaGreatDoor.Q

namespace Go.Proofs.YtckklclehofddaaGreatDoor.Q
open Go.Ax Go.Proofs.YtckklclehofddaaGreatDoor Go.Proofs.YtckklclehofddaaGreatDoor.H Go.Proofs.YtckklclehofddaaGreatDoor.D Go.Proofs.YtckklclehofddaaGreatDoor.J
set_option maxRecDepth 1000000
def sB (p:Part):ByteArray:=strN (partB p).length (cellsOf' encB (partB p))
def towG (q:Nat) (f:Nat->Rec):Blk:=.trow 37 5 q none (fun k=>trRec (f k)) [] zR
def lsX:List Nat:=[0,1,2,3,4,5,6,7,8,9,10,11,12,13,14,15,16,17]
def grF (g:Nat->Rec) (i:Nat):Nat->Rec:=fun q=>if q<i then incR (g q) (g q).val.length else g q
def gA (A:Part):Nat->Rec:=fun q=>A.recs.getD q default
def leM (p:Part) (_:Nat):List Blk:=[.box 30 (encPt true p),.dead,.box 30 (encPt true default)]
theorem grF_lt (g:Nat->Rec) {i q:Nat} (h:q<i):grF g i q=incR (g q) (g q).val.length:=if_pos h
theorem grF_ge (g:Nat->Rec) {i q:Nat} (h:¬ q<i):grF g i q=g q:=if_neg h
end Go.Proofs.YtckklclehofddaaGreatDoor.Q

namespace Go.Proofs.YtckklclehofddaaGreatDoor.Q
open Go.Ax Go.Proofs.YtckklclehofddaaGreatDoor Go.Proofs.YtckklclehofddaaGreatDoor.H Go.Proofs.YtckklclehofddaaGreatDoor.D Go.Proofs.YtckklclehofddaaGreatDoor.J
set_option maxRecDepth 1000000
structure MgOk (x:Mgv):Prop where
 p:(mg9T x).Sat (ACall' Tryz.prog 12 [.agg (encPt true x.a),.agg (encPt true x.b)] [])
 d:(mo9T x).Sat (ACall' Tryz.prog 14 [.agg (encPt true x.a),.agg (encPt true x.b)] [])
structure MgEr (a b:Part) (e:Int):Prop where
 p:(erM e).Sat (ACall' Tryz.prog 12 [.agg (encPt true a),.agg (encPt true b)] [])
 d:(erM e).Sat (ACall' Tryz.prog 14 [.agg (encPt true a),.agg (encPt true b)] [])
noncomputable def mgpC (x:Mgv):Ctr Tryz.prog:=⟨12,[.agg (encPt true x.a),.agg (encPt true x.b)],[],.need (MgOk x) (mg9T x),T.Sat.need fun h=>h.p⟩
noncomputable def mgdC (x:Mgv):Ctr Tryz.prog:=⟨14,[.agg (encPt true x.a),.agg (encPt true x.b)],[],.need (MgOk x) (mo9T x),T.Sat.need fun h=>h.d⟩
noncomputable def mepC (a b:Part) (e:Int):Ctr Tryz.prog:=⟨12,[.agg (encPt true a),.agg (encPt true b)],[],.need (MgEr a b e) (erM e),T.Sat.need fun h=>h.p⟩
noncomputable def medC (a b:Part) (e:Int):Ctr Tryz.prog:=⟨14,[.agg (encPt true a),.agg (encPt true b)],[],.need (MgEr a b e) (erM e),T.Sat.need fun h=>h.d⟩
def sBB (a b:Part):ByteArray:=sB a++sB b
def nsM (a b A:Part) (f:Nat->Rec):List Blk:=[.box 30 (encPt true a),.box 30 (encPt true b),.dead,.dead,towG A.recs.length f,rowPr A.prods,rowC A.cons,.box 30 (ptW A 4 5 6)]
def nsB (a b:Part):List (Nat×AV):=[(2,.ptr 0 0 0 0),(3,.ptr 1 0 0 0),(5,.y (.bool true)),(6,.y (.string (sBB a b))),(8,.s (.int .i64 0)),(10,.s (.int .i64 0)),(11,.y (.bool true))]
def niT (a b:Part) (i k:Nat):List AV:=mkT 86 (nsB a b++[(7,.ptr 7 0 0 0),(12,.y (.int .i64 i)),(13,.y (.int .i64 k))])
def niS (a b A:Part) (i:Nat) (f:Nat->Rec) (_:Unit):Exit×List AV×List Blk:=(.exit 2,mkT 86 (nsB a b++[(7,.ptr 7 0 0 0),(12,.y (.int .i64 i))]),nsM a b A (incF f i (f i).val.length))
noncomputable def niHt:HintsT Tryz.prog:=withSh (hh _ noLp noCs noOp) (sh1 4 10 4 786 noSh)
def vcNi (a:Part) (b:Part) (A:Part) (i:Nat) (f:Nat->Rec) (k:{ k:Nat // k<=(f i).val.length }):Prop :=
 0<=(i:Int)/\(i:Int)<(A.recs.length:Int)/\decide (Int.toNat (i:Int)=Int.toNat (i:Int))=true/\(decide ((k.val:Int)<((incF f i k.val (Int.toNat (i:Int))).val.length:Int))=true->(true&&decide ((i:Int)<(A.recs.length:Int)))=true/\decide (0+Int.toNat (i:Int)=Int.toNat (i:Int))=true/\(true&&decide ((k.val:Int)<((incF f i k.val (Int.toNat (i:Int))).val.length:Int)))=true/\decide (0+Int.toNat (k.val:Int)<(incF f i k.val (Int.toNat (i:Int))).val.length)=true/\(true&&decide ((k.val:Int)<((incF f i k.val (Int.toNat (i:Int))).val.length:Int)))=true/\decide (0+Int.toNat (k.val:Int)<(incF f i k.val (Int.toNat (i:Int))).val.length)=true/\∃ (j:{ k:Nat // k<=(f i).val.length }),(f i).val.length - j.val<(f i).val.length - k.val/\(((0=0/\0=0)/\(0=0/\0=0)/\true=true/\sBB a b=sBB a b/\(0=0/\0=0)/\(0:Int)=0/\(0:Int)=0/\true=true/\(i:Int)=(i:Int)/\IntKind.i64.wrap ((k.val:Int)+1)=(j.val:Int)/\True)/\(((ptLe true true a a)/\(ptLe true true b b)/\(A.recs.length=A.recs.length/\(((true=true/\(incF f i k.val (Int.toNat (i:Int))).off=(incF f i j.val (Int.toNat (i:Int))).off)/\(true=true/\(incF f i k.val (Int.toNat (i:Int))).key=(incF f i j.val (Int.toNat (i:Int))).key)/\((incF f i j.val (Int.toNat (i:Int))).val.length=(incF f i k.val (Int.toNat (i:Int))).val.length/\contLe (incF f i j.val (Int.toNat (i:Int))).val.length 1 (wrRow (cellsOf' encB (incF f i k.val (Int.toNat (i:Int))).val) (0+Int.toNat (k.val:Int)) 0 [AV.y (.int .u8 (IntKind.u8.wrap ((incF f i k.val (Int.toNat (i:Int))).val.getD (0+Int.toNat (k.val:Int)) 0+1)))]) (cellsOf' encB (incF f i j.val (Int.toNat (i:Int))).val))/\(true=true/\(incF f i k.val (Int.toNat (i:Int))).prod=(incF f i j.val (Int.toNat (i:Int))).prod)/\(true=true/\(incF f i k.val (Int.toNat (i:Int))).seq=(incF f i j.val (Int.toNat (i:Int))).seq)/\True)/\True)/\∀ k_1,k_1<A.recs.length->¬k_1=Int.toNat (i:Int)->(incF f i k.val k_1).off=(incF f i j.val k_1).off/\(incF f i k.val k_1).key=(incF f i j.val k_1).key/\((incF f i k.val k_1).val.length=(incF f i j.val k_1).val.length/\contLe (incF f i k.val k_1).val.length 1 (cellsOf' encB (incF f i k.val k_1).val) (cellsOf' encB (incF f i j.val k_1).val))/\(incF f i k.val k_1).prod=(incF f i j.val k_1).prod/\(incF f i k.val k_1).seq=(incF f i j.val k_1).seq/\True)/\(A.prods.length=A.prods.length/\contLe A.prods.length 4 (cellsOf' P.encP A.prods) (cellsOf' P.encP A.prods))/\(A.cons.length=A.cons.length/\contLe A.cons.length 2 (cellsOf' encC A.cons) (cellsOf' encC A.cons))/\(A.rng.lo=A.rng.lo/\A.rng.hi=A.rng.hi/\A.epoch=A.epoch/\A.frozen=A.frozen/\(0=0/\A.recs.length=A.recs.length)/\(0=0/\A.prods.length=A.prods.length)/\(0=0/\A.cons.length=A.cons.length)/\True)/\True)/\True)/\true=true)/\true=true/\()=())/\(decide ((k.val:Int)<((incF f i k.val (Int.toNat (i:Int))).val.length:Int))=false->((0=0/\0=0)/\(0=0/\0=0)/\true=true/\sBB a b=sBB a b/\(0=0/\0=0)/\(0:Int)=0/\(0:Int)=0/\true=true/\(i:Int)=(i:Int)/\True)/\(((ptLe true true a a)/\(ptLe true true b b)/\(A.recs.length=A.recs.length/\(((true=true/\(incF f i k.val (Int.toNat (i:Int))).off=(incF f i (f i).val.length (Int.toNat (i:Int))).off)/\(true=true/\(incF f i k.val (Int.toNat (i:Int))).key=(incF f i (f i).val.length (Int.toNat (i:Int))).key)/\((incF f i (f i).val.length (Int.toNat (i:Int))).val.length=(incF f i k.val (Int.toNat (i:Int))).val.length/\contLe (incF f i (f i).val.length (Int.toNat (i:Int))).val.length 1 (cellsOf' encB (incF f i k.val (Int.toNat (i:Int))).val) (cellsOf' encB (incF f i (f i).val.length (Int.toNat (i:Int))).val))/\(true=true/\(incF f i k.val (Int.toNat (i:Int))).prod=(incF f i (f i).val.length (Int.toNat (i:Int))).prod)/\(true=true/\(incF f i k.val (Int.toNat (i:Int))).seq=(incF f i (f i).val.length (Int.toNat (i:Int))).seq)/\True)/\True)/\∀ k_1,k_1<A.recs.length->¬k_1=Int.toNat (i:Int)->(incF f i k.val k_1).off=(incF f i (f i).val.length k_1).off/\(incF f i k.val k_1).key=(incF f i (f i).val.length k_1).key/\((incF f i k.val k_1).val.length=(incF f i (f i).val.length k_1).val.length/\contLe (incF f i k.val k_1).val.length 1 (cellsOf' encB (incF f i k.val k_1).val) (cellsOf' encB (incF f i (f i).val.length k_1).val))/\(incF f i k.val k_1).prod=(incF f i (f i).val.length k_1).prod/\(incF f i k.val k_1).seq=(incF f i (f i).val.length k_1).seq/\True)/\(A.prods.length=A.prods.length/\contLe A.prods.length 4 (cellsOf' P.encP A.prods) (cellsOf' P.encP A.prods))/\(A.cons.length=A.cons.length/\contLe A.cons.length 2 (cellsOf' encC A.cons) (cellsOf' encC A.cons))/\(A.rng.lo=A.rng.lo/\A.rng.hi=A.rng.hi/\A.epoch=A.epoch/\A.frozen=A.frozen/\(0=0/\A.recs.length=A.recs.length)/\(0=0/\A.prods.length=A.prods.length)/\(0=0/\A.cons.length=A.cons.length)/\True)/\True)/\True)/\true=true)
theorem vcNi_eq (a:Part) (b:Part) (A:Part) (i:Nat) (f:Nat->Rec) (k:{ k:Nat // k<=(f i).val.length }):(loopVC Tryz.prog niHt 4 10 (fun (k:{ k:Nat // k<=(f i).val.length })=>(f i).val.length - k.1) (fun k=>niT a b i k.1) (fun k=>nsM a b A (incF f i k.1)) lsX (fun _=>.ret ()) (niS a b A i f) k)=vcNi a b A i f k:=by kernel_rfl
def njT (a b:Part) (i:Nat):List AV:=mkT 86 (nsB a b++[(7,.ptr 7 0 0 0),(12,.y (.int .i64 i))])
def njS (a b:Part) (_:Unit):Exit×List AV×List Blk:=(.exit 0,mkT 86 (nsB a b),[.box 30 (encPt true a),.box 30 (encPt true b)])
noncomputable def njHt (a b A:Part) (i:Nat):HintsT Tryz.prog:=hh _ (lp1 4 10 (jobOf (fun (k:{ k:Nat // k<=(grF (gA A) i i).val.length })=>niT a b i k.1) (fun k=>nsM a b A (incF (grF (gA A) i) i k.1)) lsX (fun _=>.ret ()) (niS a b A i (grF (gA A) i)) ⟨0,Nat.zero_le _⟩) noLp) noCs noOp
def vcNj (a:Part) (b:Part) (A:Part) (i:{ i:Nat // i<=A.recs.length }):Prop :=
 (decide ((i.val:Int)<(A.recs.length:Int))=true->(((0=0/\0=0)/\(0=0/\0=0)/\true=true/\sBB a b=sBB a b/\(0=0/\0=0)/\(0:Int)=0/\(0:Int)=0/\true=true/\(i.val:Int)=(i.val:Int)/\(0:Int)=0/\True)/\((ptLe true true a a)/\(ptLe true true b b)/\(A.recs.length=A.recs.length/\∀ k,k<A.recs.length->(grF (gA A) i.val k).off=(incF (grF (gA A) i.val) i.val 0 k).off/\(grF (gA A) i.val k).key=(incF (grF (gA A) i.val) i.val 0 k).key/\((grF (gA A) i.val k).val.length=(incF (grF (gA A) i.val) i.val 0 k).val.length/\contLe (grF (gA A) i.val k).val.length 1 (cellsOf' encB (grF (gA A) i.val k).val) (cellsOf' encB (incF (grF (gA A) i.val) i.val 0 k).val))/\(grF (gA A) i.val k).prod=(incF (grF (gA A) i.val) i.val 0 k).prod/\(grF (gA A) i.val k).seq=(incF (grF (gA A) i.val) i.val 0 k).seq/\True)/\(A.prods.length=A.prods.length/\contLe A.prods.length 4 (cellsOf' P.encP A.prods) (cellsOf' P.encP A.prods))/\(A.cons.length=A.cons.length/\contLe A.cons.length 2 (cellsOf' encC A.cons) (cellsOf' encC A.cons))/\(A.rng.lo=A.rng.lo/\A.rng.hi=A.rng.hi/\A.epoch=A.epoch/\A.frozen=A.frozen/\(0=0/\A.recs.length=A.recs.length)/\(0=0/\A.prods.length=A.prods.length)/\(0=0/\A.cons.length=A.cons.length)/\True)/\True)/\true=true)/\LoopOk Tryz.prog 4 10 (loopAt Tryz.prog 4 10) { t:=niT a b i.val (⟨0,njHt._proof_1 A i.val⟩:{ k:Nat // k<=(grF (gA A) i.val i.val).val.length }).val,m:=nsM a b A (incF (grF (gA A) i.val) i.val (⟨0,njHt._proof_1 A i.val⟩:{ k:Nat // k<=(grF (gA A) i.val i.val).val.length }).val),mv:=[]:St } (T.map (lout lsX (niS a b A i.val (grF (gA A) i.val))) ((fun (x:{ k:Nat // k<=(grF (gA A) i.val i.val).val.length })=>T.ret ()) (⟨0,njHt._proof_1 A i.val⟩:{ k:Nat // k<=(grF (gA A) i.val i.val).val.length })))/\∃ (j:{ i:Nat // i<=A.recs.length }),A.recs.length - j.val<A.recs.length - i.val/\(((0=0/\0=0)/\(0=0/\0=0)/\true=true/\sBB a b=sBB a b/\(0=0/\0=0)/\(0:Int)=0/\(0:Int)=0/\true=true/\IntKind.i64.wrap ((i.val:Int)+1)=(j.val:Int)/\True)/\((ptLe true true a a)/\(ptLe true true b b)/\(A.recs.length=A.recs.length/\∀ k,k<A.recs.length->(incF (grF (gA A) i.val) i.val (grF (gA A) i.val i.val).val.length k).off=(grF (gA A) j.val k).off/\(incF (grF (gA A) i.val) i.val (grF (gA A) i.val i.val).val.length k).key=(grF (gA A) j.val k).key/\((incF (grF (gA A) i.val) i.val (grF (gA A) i.val i.val).val.length k).val.length=(grF (gA A) j.val k).val.length/\contLe (incF (grF (gA A) i.val) i.val (grF (gA A) i.val i.val).val.length k).val.length 1 (cellsOf' encB (incF (grF (gA A) i.val) i.val (grF (gA A) i.val i.val).val.length k).val) (cellsOf' encB (grF (gA A) j.val k).val))/\(incF (grF (gA A) i.val) i.val (grF (gA A) i.val i.val).val.length k).prod=(grF (gA A) j.val k).prod/\(incF (grF (gA A) i.val) i.val (grF (gA A) i.val i.val).val.length k).seq=(grF (gA A) j.val k).seq/\True)/\(A.prods.length=A.prods.length/\contLe A.prods.length 4 (cellsOf' P.encP A.prods) (cellsOf' P.encP A.prods))/\(A.cons.length=A.cons.length/\contLe A.cons.length 2 (cellsOf' encC A.cons) (cellsOf' encC A.cons))/\(A.rng.lo=A.rng.lo/\A.rng.hi=A.rng.hi/\A.epoch=A.epoch/\A.frozen=A.frozen/\(0=0/\A.recs.length=A.recs.length)/\(0=0/\A.prods.length=A.prods.length)/\(0=0/\A.cons.length=A.cons.length)/\True)/\True)/\true=true)/\true=true/\()=())/\(decide ((i.val:Int)<(A.recs.length:Int))=false->((0=0/\0=0)/\(0=0/\0=0)/\true=true/\sBB a b=sBB a b/\(0:Int)=0/\(0:Int)=0/\true=true/\True)/\((ptLe true true a a)/\(ptLe true true b b)/\True)/\true=true)
theorem vcNj_eq (a:Part) (b:Part) (A:Part) (i:{ i:Nat // i<=A.recs.length }):(loopVC Tryz.prog (njHt a b A i.1) 4 7 (fun (i:{ i:Nat // i<=A.recs.length })=>A.recs.length - i.1) (fun i=>njT a b i.1) (fun i=>nsM a b A (grF (gA A) i.1)) lsX (fun _=>.ret ()) (njS a b) i)=vcNj a b A i:=by kernel_rfl
noncomputable def nwH (x:Mgv):HintsT Tryz.prog:=hh _ (lp1 4 7 (jobOf (fun (i:{ i:Nat // i<=x.m.recs.length })=>njT x.a x.b i.1) (fun i=>nsM x.a x.b x.m (grF (gA x.m) i.1)) lsX (fun _=>.ret ()) (njS x.a x.b) ⟨0,Nat.zero_le _⟩) noLp)
 (cs1 4 1 0 livC (cs1 4 2 1 (byC true x.a) (cs1 4 2 4 (byC true x.b) (cs1 4 3 2 (mgpC x) (cs1 4 4 2 (mgdC x) (cs1 4 5 2 (safC x.m) (cs1 4 13 11 (byC true x.a) (cs1 4 13 14 (byC true x.b) noCs)))))))) noOp
def vcNw (x:Mgv):Prop :=
 True/\True/\((ptLe true true x.a x.a)/\True)/\True/\ByOk x.a/\(∀ (k:Nat),k<List.length (partB x.a)->true=true)/\((ptLe true true x.b x.b)/\True)/\True/\ByOk x.b/\(∀ (k:Nat),k<List.length (partB x.b)->true=true)/\decide (ByteArray.size (strN (List.length (partB x.a)) fun (k:Nat)=>cellsOf' encB (partB x.a) ((0:Nat)+k))+ByteArray.size (strN (List.length (partB x.b)) fun (k:Nat)=>cellsOf' encB (partB x.b) ((0:Nat)+k))<=(9223372036854775807:Nat))=true/\((ptLe true true x.a x.a)/\(ptLe true true x.b x.b)/\True)/\True/\MgOk x/\((ptLe true true x.a x.a)/\(ptLe true true x.b x.b)/\True)/\True/\MgOk x/\((x.a.rng.lo=x.a.rng.lo/\x.b.rng.hi=x.b.rng.hi/\Mgv.ep x=Mgv.ep x/\(0:Int)=(0:Int)/\(false=false/\List.length x.out=List.length x.out/\contLe (List.length x.out) (5:Nat) (Ax.rowAt (0:Nat) fun (k j:Nat)=>trV (trRs x.out k j)) (cellsOf' encF x.out))/\(false=false/\List.length x.ps=List.length x.ps/\contLe (List.length x.ps) (4:Nat) (Ax.rowAt (0:Nat) (cellsOf' P.encP x.ps)) (cellsOf' P.encP x.ps))/\(false=false/\List.length x.cs=List.length x.cs/\contLe (List.length x.cs) (2:Nat) (Ax.rowAt (0:Nat) (cellsOf' encC x.cs)) (cellsOf' encC x.cs))/\True)/\(x.a.rng.lo=x.a.rng.lo/\x.b.rng.hi=x.b.rng.hi/\Mgv.ep x=Mgv.ep x/\(0:Int)=(0:Int)/\(false=false/\List.length x.out=List.length x.out/\contLe (List.length x.out) (5:Nat) (Ax.rowAt (0:Nat) (cellsOf' encR x.out)) (cellsOf' encR x.out))/\(false=false/\List.length x.ps=List.length x.ps/\contLe (List.length x.ps) (4:Nat) (Ax.rowAt (0:Nat) (cellsOf' P.encP x.ps)) (cellsOf' P.encP x.ps))/\(false=false/\List.length x.cs=List.length x.cs/\contLe (List.length x.cs) (2:Nat) (Ax.rowAt (0:Nat) (cellsOf' encC x.cs)) (cellsOf' encC x.cs))/\True)/\True)/\True/\LenOk (Mgv.m x)/\true=true/\True/\((((0:Nat)=(0:Nat)/\(0:Nat)=(0:Nat))/\((0:Nat)=(0:Nat)/\(0:Nat)=(0:Nat))/\true=true/\((strN (List.length (partB x.a)) fun (k:Nat)=>cellsOf' encB (partB x.a) ((0:Nat)+k))++strN (List.length (partB x.b)) fun (k:Nat)=>cellsOf' encB (partB x.b) ((0:Nat)+k))=sBB x.a x.b/\((0:Nat)=(0:Nat)/\(0:Nat)=(0:Nat))/\(0:Int)=(0:Int)/\(0:Int)=(0:Int)/\true=true/\(0:Int)=(0:Int)/\True)/\((ptLe true true x.a x.a)/\(ptLe true true x.b x.b)/\(List.length x.out=List.length x.out/\∀ (k:Nat),k<List.length x.out->(List.getD x.out k (@default Rec instInhabitedRec)).off=(grF (gA (Mgv.m x)) (0:Nat) k).off/\(List.getD x.out k (@default Rec instInhabitedRec)).key=(grF (gA (Mgv.m x)) (0:Nat) k).key/\(List.length (List.getD x.out k (@default Rec instInhabitedRec)).val=List.length (grF (gA (Mgv.m x)) (0:Nat) k).val/\contLe (List.length (List.getD x.out k (@default Rec instInhabitedRec)).val) (1:Nat) (cellsOf' encB (List.getD x.out k (@default Rec instInhabitedRec)).val) (cellsOf' encB (grF (gA (Mgv.m x)) (0:Nat) k).val))/\(List.getD x.out k (@default Rec instInhabitedRec)).prod=(grF (gA (Mgv.m x)) (0:Nat) k).prod/\(List.getD x.out k (@default Rec instInhabitedRec)).seq=(grF (gA (Mgv.m x)) (0:Nat) k).seq/\True)/\(List.length x.ps=List.length x.ps/\contLe (List.length x.ps) (4:Nat) (cellsOf' P.encP x.ps) (cellsOf' P.encP x.ps))/\(List.length x.cs=List.length x.cs/\contLe (List.length x.cs) (2:Nat) (cellsOf' encC x.cs) (cellsOf' encC x.cs))/\(x.a.rng.lo=x.a.rng.lo/\x.b.rng.hi=x.b.rng.hi/\Mgv.ep x=Mgv.ep x/\(0:Int)=(0:Int)/\((0:Nat)=(0:Nat)/\List.length x.out=List.length x.out)/\((0:Nat)=(0:Nat)/\List.length x.ps=List.length x.ps)/\((0:Nat)=(0:Nat)/\List.length x.cs=List.length x.cs)/\True)/\True)/\true=true)/\LoopOk Tryz.prog (4:Nat) (7:Nat) (loopAt Tryz.prog (4:Nat) (7:Nat)) { t:=njT x.a x.b (⟨(0:Nat),nwH._proof_1 x⟩:{ i:Nat // i<=List.length (Mgv.m x).recs }).val,m:=nsM x.a x.b (Mgv.m x) (grF (gA (Mgv.m x)) (⟨(0:Nat),nwH._proof_1 x⟩:{ i:Nat // i<=List.length (Mgv.m x).recs }).val),mv:=[]:St } (T.map (lout lsX (njS x.a x.b)) ((fun (x:{ i:Nat // i<=List.length (Mgv.m x).recs })=>T.ret ()) (⟨(0:Nat),nwH._proof_1 x⟩:{ i:Nat // i<=List.length (Mgv.m x).recs })))/\(true=true->(true=true->((ptLe true true x.a x.a)/\True)/\True/\ByOk x.a/\(∀ (k:Nat),k<List.length (partB x.a)->true=true)/\((ptLe true true x.b x.b)/\True)/\True/\ByOk x.b/\(∀ (k:Nat),k<List.length (partB x.b)->true=true)/\decide (ByteArray.size (strN (List.length (partB x.a)) fun (k:Nat)=>cellsOf' encB (partB x.a) ((0:Nat)+k))+ByteArray.size (strN (List.length (partB x.b)) fun (k:Nat)=>cellsOf' encB (partB x.b) ((0:Nat)+k))<=(9223372036854775807:Nat))=true/\(List.map (fun (a:AV)=>match match a with | AV.s (Value.int IntKind.u8 n)=>some n | AV.y (Value.int IntKind.u8 n)=>some n | x=>none with | some n=>UInt8.ofNat (Int.toNat n) | none=>(0:UInt8)) (List.map (fun (k:Nat)=>AV.y (Value.int IntKind.u8 (List.getD (partB x.a) ((0:Nat)+k) (0:Int)))) (List.range (List.length (partB x.a))))++List.map (fun (a:AV)=>match match a with | AV.s (Value.int IntKind.u8 n)=>some n | AV.y (Value.int IntKind.u8 n)=>some n | x=>none with | some n=>UInt8.ofNat (Int.toNat n) | none=>(0:UInt8)) (List.map (fun (k:Nat)=>AV.y (Value.int IntKind.u8 (List.getD (partB x.b) ((0:Nat)+k) (0:Int)))) (List.range (List.length (partB x.b))))==List.map (fun (a:AV)=>match match a with | AV.s (Value.int IntKind.u8 n)=>some n | AV.y (Value.int IntKind.u8 n)=>some n | x=>none with | some n=>UInt8.ofNat (Int.toNat n) | none=>(0:UInt8)) (List.map (fun (k:Nat)=>AV.y (Value.int IntKind.u8 (List.getD (partB x.a) k (0:Int)))) (List.range (List.length (partB x.a))))++List.map (fun (a:AV)=>match match a with | AV.s (Value.int IntKind.u8 n)=>some n | AV.y (Value.int IntKind.u8 n)=>some n | x=>none with | some n=>UInt8.ofNat (Int.toNat n) | none=>(0:UInt8)) (List.map (fun (k:Nat)=>AV.y (Value.int IntKind.u8 (List.getD (partB x.b) k (0:Int)))) (List.range (List.length (partB x.b)))))=true/\True)/\(true=false->false=true/\True))/\(true=false->false=true/\True)
theorem vcNw_eq (x:Mgv):(ctrVC Tryz.prog (nwH x) 4 [.agg (encPt true x.a),.agg (encPt true x.b)] [] (boolR true))=vcNw x:=by kernel_rfl
def neL (a b:Part) (e:Int):List (Nat×AV):=[(2,.ptr 0 0 0 0),(3,.ptr 1 0 0 0),(5,.y (.bool true)),(6,.y (.string (sBB a b))),(8,.y (.int .i64 e)),(10,.y (.int .i64 e)),(11,.y (.bool true))]
def neT (a b:Part) (e:Int) (i:Nat):List AV:=mkT 86 (neL a b e++[(7,.ptr 4 0 0 0),(12,.y (.int .i64 i))])
def neM (a b:Part) (_:Nat):List Blk:=[.box 30 (encPt true a),.box 30 (encPt true b),.dead,.dead,.box 30 (encPt true default)]
def neS (a b:Part) (e:Int) (_:Unit):Exit×List AV×List Blk:=(.exit 0,mkT 86 (neL a b e),[.box 30 (encPt true a),.box 30 (encPt true b)])
def vcNe (a:Part) (b:Part) (e:Int) (i:{ i:Nat // i<=0 }):Prop :=
 (false=true->false=true/\(false=true->false=true/\false=true/\false=true/\False)/\(false=false->∃ (j:{ i:Nat // i<=0 }),0 - j.val<0 - i.val/\(((0=0/\0=0)/\(0=0/\0=0)/\true=true/\sBB a b=sBB a b/\(0=0/\0=0)/\e=e/\e=e/\true=true/\IntKind.i64.wrap ((i.val:Int)+1)=(j.val:Int)/\True)/\((ptLe true true a a)/\(ptLe true true b b)/\(ByteArray.empty=ByteArray.empty/\ByteArray.empty=ByteArray.empty/\(0:Int)=0/\(0:Int)=0/\(true=true/\0=0/\contLe 0 5 (cellsOf' encR []) (cellsOf' encR []))/\(true=true/\0=0/\contLe 0 4 (cellsOf' P.encP []) (cellsOf' P.encP []))/\(true=true/\0=0/\contLe 0 2 (cellsOf' encC []) (cellsOf' encC []))/\True)/\True)/\true=true)/\true=true/\()=()))/\(false=false->((0=0/\0=0)/\(0=0/\0=0)/\true=true/\sBB a b=sBB a b/\e=e/\e=e/\true=true/\True)/\((ptLe true true a a)/\(ptLe true true b b)/\True)/\true=true)
theorem vcNe_eq (a:Part) (b:Part) (e:Int) (i:{ i:Nat // i<=0 }):(loopVC Tryz.prog (hT _) 4 7 (fun (i:{ i:Nat // i<=0 })=>0 - i.1) (fun i=>neT a b e i.1) (fun i=>neM a b i.1) [0,1,2,3,4,5,6,7] (fun _=>.ret ()) (neS a b e) i)=vcNe a b e i:=by kernel_rfl
noncomputable def nxH (a b:Part) (e:Int):HintsT Tryz.prog:=hh _ (lp1 4 7 (jobOf (fun (i:{ i:Nat // i<=0 })=>neT a b e i.1) (fun i=>neM a b i.1) [0,1,2,3,4,5,6,7] (fun _=>.ret ()) (neS a b e) ⟨0,Nat.zero_le _⟩) noLp)
 (cs1 4 1 0 livC (cs1 4 2 1 (byC true a) (cs1 4 2 4 (byC true b) (cs1 4 3 2 (mepC a b e) (cs1 4 4 2 (medC a b e) (cs1 4 5 2 (samC default default) (cs1 4 13 11 (byC true a) (cs1 4 13 14 (byC true b) noCs)))))))) noOp
def vcNx (a:Part) (b:Part) (e:Int):Prop :=
 True/\True/\((ptLe true true a a)/\True)/\True/\ByOk a/\(∀ (k:Nat),k<List.length (partB a)->true=true)/\((ptLe true true b b)/\True)/\True/\ByOk b/\(∀ (k:Nat),k<List.length (partB b)->true=true)/\decide (ByteArray.size (strN (List.length (partB a)) fun (k:Nat)=>cellsOf' encB (partB a) ((0:Nat)+k))+ByteArray.size (strN (List.length (partB b)) fun (k:Nat)=>cellsOf' encB (partB b) ((0:Nat)+k))<=(9223372036854775807:Nat))=true/\((ptLe true true a a)/\(ptLe true true b b)/\True)/\True/\MgEr a b e/\((ptLe true true a a)/\(ptLe true true b b)/\True)/\True/\MgEr a b e/\((ByteArray.empty=ByteArray.empty/\ByteArray.empty=ByteArray.empty/\(0:Int)=(0:Int)/\(0:Int)=(0:Int)/\(true=true/\(0:Nat)=(0:Nat)/\contLe (0:Nat) (5:Nat) (cellsOf' encR []) (cellsOf' encR []))/\(true=true/\(0:Nat)=(0:Nat)/\contLe (0:Nat) (4:Nat) (cellsOf' P.encP []) (cellsOf' P.encP []))/\(true=true/\(0:Nat)=(0:Nat)/\contLe (0:Nat) (2:Nat) (cellsOf' encC []) (cellsOf' encC []))/\True)/\(ByteArray.empty=ByteArray.empty/\ByteArray.empty=ByteArray.empty/\(0:Int)=(0:Int)/\(0:Int)=(0:Int)/\(true=true/\(0:Nat)=(0:Nat)/\contLe (0:Nat) (5:Nat) (cellsOf' encR []) (cellsOf' encR []))/\(true=true/\(0:Nat)=(0:Nat)/\contLe (0:Nat) (4:Nat) (cellsOf' P.encP []) (cellsOf' P.encP []))/\(true=true/\(0:Nat)=(0:Nat)/\contLe (0:Nat) (2:Nat) (cellsOf' encC []) (cellsOf' encC []))/\True)/\True)/\True/\(PartTy (@default Part instInhabitedPart)/\@default Part instInhabitedPart=@default Part instInhabitedPart)/\((((0:Nat)=(0:Nat)/\(0:Nat)=(0:Nat))/\((0:Nat)=(0:Nat)/\(0:Nat)=(0:Nat))/\true=true/\((strN (List.length (partB a)) fun (k:Nat)=>cellsOf' encB (partB a) ((0:Nat)+k))++strN (List.length (partB b)) fun (k:Nat)=>cellsOf' encB (partB b) ((0:Nat)+k))=sBB a b/\((0:Nat)=(0:Nat)/\(0:Nat)=(0:Nat))/\e=e/\e=e/\true=true/\(0:Int)=(0:Int)/\True)/\((ptLe true true a a)/\(ptLe true true b b)/\(ByteArray.empty=ByteArray.empty/\ByteArray.empty=ByteArray.empty/\(0:Int)=(0:Int)/\(0:Int)=(0:Int)/\(true=true/\(0:Nat)=(0:Nat)/\contLe (0:Nat) (5:Nat) (cellsOf' encR []) (cellsOf' encR []))/\(true=true/\(0:Nat)=(0:Nat)/\contLe (0:Nat) (4:Nat) (cellsOf' P.encP []) (cellsOf' P.encP []))/\(true=true/\(0:Nat)=(0:Nat)/\contLe (0:Nat) (2:Nat) (cellsOf' encC []) (cellsOf' encC []))/\True)/\True)/\true=true)/\LoopOk Tryz.prog (4:Nat) (7:Nat) (loopAt Tryz.prog (4:Nat) (7:Nat)) { t:=neT a b e (⟨(0:Nat),nxH._proof_1⟩:{ i:Nat // i<=(0:Nat) }).val,m:=neM a b (⟨(0:Nat),nxH._proof_1⟩:{ i:Nat // i<=(0:Nat) }).val,mv:=[]:St } (T.map (lout [(0:Nat),(1:Nat),(2:Nat),(3:Nat),(4:Nat),(5:Nat),(6:Nat),(7:Nat)] (neS a b e)) ((fun (x:{ i:Nat // i<=(0:Nat) })=>T.ret ()) (⟨(0:Nat),nxH._proof_1⟩:{ i:Nat // i<=(0:Nat) })))/\(true=true->(true=true->((e==e)=true->((ptLe true true a a)/\True)/\True/\ByOk a/\(∀ (k:Nat),k<List.length (partB a)->true=true)/\((ptLe true true b b)/\True)/\True/\ByOk b/\(∀ (k:Nat),k<List.length (partB b)->true=true)/\decide (ByteArray.size (strN (List.length (partB a)) fun (k:Nat)=>cellsOf' encB (partB a) ((0:Nat)+k))+ByteArray.size (strN (List.length (partB b)) fun (k:Nat)=>cellsOf' encB (partB b) ((0:Nat)+k))<=(9223372036854775807:Nat))=true/\(List.map (fun (a:AV)=>match match a with | AV.s (Value.int IntKind.u8 n)=>some n | AV.y (Value.int IntKind.u8 n)=>some n | x=>none with | some n=>UInt8.ofNat (Int.toNat n) | none=>(0:UInt8)) (List.map (fun (k:Nat)=>AV.y (Value.int IntKind.u8 (List.getD (partB a) ((0:Nat)+k) (0:Int)))) (List.range (List.length (partB a))))++List.map (fun (a:AV)=>match match a with | AV.s (Value.int IntKind.u8 n)=>some n | AV.y (Value.int IntKind.u8 n)=>some n | x=>none with | some n=>UInt8.ofNat (Int.toNat n) | none=>(0:UInt8)) (List.map (fun (k:Nat)=>AV.y (Value.int IntKind.u8 (List.getD (partB b) ((0:Nat)+k) (0:Int)))) (List.range (List.length (partB b))))==List.map (fun (a:AV)=>match match a with | AV.s (Value.int IntKind.u8 n)=>some n | AV.y (Value.int IntKind.u8 n)=>some n | x=>none with | some n=>UInt8.ofNat (Int.toNat n) | none=>(0:UInt8)) (List.map (fun (k:Nat)=>AV.y (Value.int IntKind.u8 (List.getD (partB a) k (0:Int)))) (List.range (List.length (partB a))))++List.map (fun (a:AV)=>match match a with | AV.s (Value.int IntKind.u8 n)=>some n | AV.y (Value.int IntKind.u8 n)=>some n | x=>none with | some n=>UInt8.ofNat (Int.toNat n) | none=>(0:UInt8)) (List.map (fun (k:Nat)=>AV.y (Value.int IntKind.u8 (List.getD (partB b) k (0:Int)))) (List.range (List.length (partB b)))))=true/\True)/\((e==e)=false->false=true/\True))/\(true=false->false=true/\True))/\(true=false->false=true/\True)
theorem vcNx_eq (a:Part) (b:Part) (e:Int):(ctrVC Tryz.prog (nxH a b e) 4 [.agg (encPt true a),.agg (encPt true b)] [] (boolR true))=vcNx a b e:=by kernel_rfl
theorem ni_loop (a b A:Part) (i:Nat) (f:Nat->Rec) (hi:i<A.recs.length) (hl:(f i).val.length<=140737488355328) (k:{ k:Nat // k<=(f i).val.length }):LoopOk Tryz.prog 4 10 (loopAt Tryz.prog 4 10) ⟨niT a b i k.1,nsM a b A (incF f i k.1),[]⟩ (T.map (lout lsX (niS a b A i f)) (.ret ())):=by
 refine loop_vcH (o:=fun _=>.ret ()) (stT:=fun (k:{ k:Nat // k<=(f i).val.length })=>niT a b i k.1) (stM:=fun k=>nsM a b A (incF f i k.1)) Tryz.mixed (fun _=>rfl) (fun k=>(vcNi_eq a b A i f k).mpr ?_) k
 unfold vcNi
 obtain ⟨k,hk⟩:=k
 simp only [Int.toNat_natCast,Nat.zero_add,incF_at,incR_len]
 refine ⟨by omega,by omega,by simp,fun h1=>?_,fun h1=>?_⟩
 · have hkl:k<(f i).val.length:=by simpa using h1
   have hex:∀ p:{ k:Nat // k<=(f i).val.length }->Prop,p ⟨k+1,hkl⟩->∃ j,p j:=fun p hp=>⟨_,hp⟩
   have hw:IntKind.i64.wrap ((k:Int)+1)=((k+1:Nat):Int):=by rw [wrap_i64 (by omega) (by omega)];omega
   have hwr:=wr_le (enc:=encB) (l:=(incR (f i) k).val) (i:=k) (sz:=1) (n:=(f i).val.length) (cs:=[AV.y (Value.int IntKind.u8 (IntKind.wrap IntKind.u8 (List.getD (incR (f i) k).val k (0:Int)+(1:Int))))]) (x:=IntKind.wrap IntKind.u8 (List.getD (incR (f i) k).val k (0:Int)+(1:Int))) (by rw [incR_len]) (by rw [incR_len];exact hkl) rfl (fun j hj=>by (obtain rfl:j=0:=by omega);exact le0_refl _)
   rw [<- incR_set (f i) hkl] at hwr
   refine ⟨by simp;omega,by simp,by simpa using hkl,by simpa using hkl,by simpa using hkl,by simpa using hkl,hex _ ?_⟩
   have hne:∀ p,¬ p=i->incF f i k p=incF f i (k+1) p:=fun p h=>by rw [incF_ne _ h,incF_ne _ h]
   repeat' with_reducible apply And.intro
   all_goals first
    | with_reducible rfl
    | exact trivial
    | exact hw
    | exact hwr
    | (show _ - (k+1)<_ - k;omega)
    | exact contLe_refl _ _ _
    | (intro p hp hq;rw [hne p hq];simp;done)
    | (simp;done)
    | exact rfl
 · have hkl:k=(f i).val.length:=by simp at h1;omega
   subst hkl
   simp
theorem nj_loop (a b A:Part) (hq:A.recs.length<=9223372036854775806) (hg:∀ q,q<A.recs.length->(gA A q).val.length<=140737488355328) (i:{ i:Nat // i<=A.recs.length }):LoopOk Tryz.prog 4 7 (loopAt Tryz.prog 4 7) ⟨njT a b i.1,nsM a b A (grF (gA A) i.1),[]⟩ (T.map (lout lsX (njS a b)) (.ret ())):=by
 refine loop_vcH (o:=fun _=>.ret ()) (stT:=fun (i:{ i:Nat // i<=A.recs.length })=>njT a b i.1) (stM:=fun i=>nsM a b A (grF (gA A) i.1)) Tryz.mixed (fun _=>rfl) (fun i=>(vcNj_eq a b A i).mpr ?_) i
 unfold vcNj
 obtain ⟨i,hi⟩:=i
 refine ⟨fun h1=>?_,fun h1=>by simp⟩
 have hlt:i<A.recs.length:=by simpa using h1
 have hex:∀ p:{ i:Nat // i<=A.recs.length }->Prop,p ⟨i+1,hlt⟩->∃ j,p j:=fun p hp=>⟨_,hp⟩
 have hw:IntKind.i64.wrap ((i:Int)+1)=((i+1:Nat):Int):=by rw [wrap_i64 (by omega) (by omega)];omega
 have e0:∀ q,incF (grF (gA A) i) i 0 q=grF (gA A) i q:=fun p=>by
  by_cases h:p=i
  · subst h;rw [incF_at];simp [incR]
  · rw [incF_ne _ h]
 have e1:grF (gA A) i i=gA A i:=grF_ge _ (by omega)
 have e2:∀ q,incF (grF (gA A) i) i (grF (gA A) i i).val.length q=grF (gA A) (i+1) q:=fun q=>by
  by_cases h:q=i
  · subst h
    rw [incF_at,e1,grF_lt _ (by omega)]
  · rw [incF_ne _ h]
    by_cases h2:q<i
    · rw [grF_lt _ h2,grF_lt _ (by omega)]
    · rw [grF_ge _ h2,grF_ge _ (by omega)]
 have hl:(grF (gA A) i i).val.length<=140737488355328:=by rw [e1];exact hg i hlt
 have lp:=ni_loop a b A i (grF (gA A) i) hlt hl ⟨0,Nat.zero_le _⟩
 refine ⟨?_,lp,hex _ ?_⟩
 · simp only [e0]
   simp
 · simp only [e2]
   simp only [hw]
   refine ⟨by show _ - (i+1)<_ - i;omega,?_⟩
   simp
end Go.Proofs.YtckklclehofddaaGreatDoor.Q

namespace Go.Proofs.YtckklclehofddaaGreatDoor.D
open Go.Ax
set_option maxRecDepth 1000000
theorem tRs (l:List Rec):∀ (k:Nat),k<l.length->∀ (j:Nat),j<5->tagT (cellsOf' encR l k j)=true:=fun k _ j hj=>tagR _ j hj
theorem tPs (l:List P.Producer):∀ (k:Nat),k<l.length->∀ (j:Nat),j<4->tagT (cellsOf' P.encP l k j)=true:=fun k _ j hj=>tagP _ j hj
theorem tCs (l:List Con):∀ (k:Nat),k<l.length->∀ (j:Nat),j<2->tagT (cellsOf' encC l k j)=true:=fun k _ j hj=>tagC _ j hj
theorem ep_eq (x:Mrg):IntKind.u64.wrap ((if x.b.epoch > x.a.epoch then x.b.epoch else x.a.epoch)+1)=x.ep:=rfl
theorem m1_c (x:Mrg) (h1:PartTy x.a) (h2:PartTy x.b) (h3:(bad x.a||bad x.b)=true):(mrE 172).Sat (ACall' Tryz.prog 12 [.agg (encPt true x.a),.agg (encPt true x.b)] []):=by
 refine ctr_vc (ht:=mr1H x) Tryz.mixed rfl ?_
 rw [vcM1_eq x]
 unfold vcM1
 have t1:=tRs x.out
 have t2:=tPs x.ps
 have t3:=tCs x.cs
 have eb:({ data:=#[] }:ByteArray)=ByteArray.empty:=rfl
 simp only [h1,h2,h3,ep_eq,contLe_refl,sameC_refl,and_true,true_and,true_or,or_true,rowAt_zero,Nat.zero_add]
 repeat' with_reducible apply And.intro
 all_goals first | rfl | assumption | skip
theorem m2_c (x:Mrg) (h1:PartTy x.a) (h2:PartTy x.b) (h3:bad x.a=false) (h4:bad x.b=false) (h5:live2 x.a x.b=true):(mrE 171).Sat (ACall' Tryz.prog 12 [.agg (encPt true x.a),.agg (encPt true x.b)] []):=by
 refine ctr_vc (ht:=mr2H x) Tryz.mixed rfl ?_
 rw [vcM2_eq x]
 unfold vcM2
 have t1:=tRs x.out
 have t2:=tPs x.ps
 have t3:=tCs x.cs
 have eb:({ data:=#[] }:ByteArray)=ByteArray.empty:=rfl
 simp only [h1,h2,h3,h4,h5,ep_eq,contLe_refl,sameC_refl,and_true,true_and,true_or,or_true,rowAt_zero,Nat.zero_add]
 repeat' with_reducible apply And.intro
 all_goals first | rfl | assumption | skip
theorem m3_c (x:Mrg) (h:MrgIn x) (h6:kmE x.a.rng x.b.rng=133):(mrE 133).Sat (ACall' Tryz.prog 12 [.agg (encPt true x.a),.agg (encPt true x.b)] []):=by
 refine ctr_vc (ht:=mr3H x) Tryz.mixed rfl ?_
 rw [vcM3_eq x]
 unfold vcM3
 obtain ⟨h1,h2,h3,h4,h5⟩:=h
 have t1:=tRs x.out
 have t2:=tPs x.ps
 have t3:=tCs x.cs
 have eb:({ data:=#[] }:ByteArray)=ByteArray.empty:=rfl
 simp only [h1,h2,h3,h4,h5,h6,ep_eq,contLe_refl,sameC_refl,and_true,true_and,true_or,or_true,rowAt_zero,Nat.zero_add]
 repeat' with_reducible apply And.intro
 all_goals first | rfl | assumption | skip
theorem m4_c (x:Mrg) (h:MrgIn x) (h6:kmE x.a.rng x.b.rng=0) (l1:isLog x.a.recs=true) (l2:isLog x.b.recs=true) (h7:4096<x.a.recs.length+x.b.recs.length):(mrE 143).Sat (ACall' Tryz.prog 12 [.agg (encPt true x.a),.agg (encPt true x.b)] []):=by
 refine ctr_vc (ht:=mr4H x) Tryz.mixed rfl ?_
 rw [vcM4_eq x]
 unfold vcM4
 obtain ⟨h1,h2,h3,h4,h5⟩:=h
 have t1:=tRs x.out
 have t2:=tPs x.ps
 have t3:=tCs x.cs
 have eb:({ data:=#[] }:ByteArray)=ByteArray.empty:=rfl
 simp only [h1,h2,h3,h4,h5,h6,l1,l2,h7,ep_eq,contLe_refl,sameC_refl,and_true,true_and,true_or,or_true,rowAt_zero,Nat.zero_add]
 repeat' with_reducible apply And.intro
 all_goals first | rfl | assumption | skip
theorem m5_c (x:Mrg) (h:MrgIn x) (h6:kmE x.a.rng x.b.rng=0) (l1:isLog x.a.recs=true) (l2:isLog x.b.recs=true) (h7:x.a.recs.length+x.b.recs.length<=4096) (h8:(jo0 x.a.recs x.b.recs).run=none):(mrE 145).Sat (ACall' Tryz.prog 12 [.agg (encPt true x.a),.agg (encPt true x.b)] []):=by
 refine ctr_vc (ht:=mr5H x) Tryz.mixed rfl ?_
 rw [vcM5_eq x]
 unfold vcM5
 obtain ⟨h1,h2,h3,h4,h5⟩:=h
 have t1:=tRs x.out
 have t2:=tPs x.ps
 have t3:=tCs x.cs
 have eb:({ data:=#[] }:ByteArray)=ByteArray.empty:=rfl
 simp only [h1,h2,h3,h4,h5,h6,l1,l2,h7,h8,ep_eq,contLe_refl,sameC_refl,and_true,true_and,true_or,or_true,rowAt_zero,Nat.zero_add]
 repeat' with_reducible apply And.intro
 all_goals first | rfl | assumption | skip
theorem m6_c (x:Mrg) (h:MrgIn x) (h6:kmE x.a.rng x.b.rng=0) (h7:JoinOk x.a.recs x.b.recs x.out x.ta x.tb) (h8:PbIn x.a.prods x.b.prods x.ta x.tb) (h9:P.bothE x.a.prods x.b.prods x.ta x.tb=153):(mrE 153).Sat (ACall' Tryz.prog 12 [.agg (encPt true x.a),.agg (encPt true x.b)] []):=by
 refine ctr_vc (ht:=mr6H x) Tryz.mixed rfl ?_
 rw [vcM6_eq x]
 unfold vcM6
 obtain ⟨h1,h2,h3,h4,h5⟩:=h
 have t1:=tRs x.out
 have t2:=tPs x.ps
 have t3:=tCs x.cs
 have eb:({ data:=#[] }:ByteArray)=ByteArray.empty:=rfl
 simp only [h1,h2,h3,h4,h5,h6,h7,h8,h9,ep_eq,contLe_refl,sameC_refl,and_true,true_and,true_or,or_true,rowAt_zero,Nat.zero_add]
 repeat' with_reducible apply And.intro
 all_goals first | rfl | assumption | skip
theorem m7_c (x:Mrg) (h:MrgIn x) (h6:kmE x.a.rng x.b.rng=0) (h7:JoinOk x.a.recs x.b.recs x.out x.ta x.tb) (h8:PbIn x.a.prods x.b.prods x.ta x.tb) (h9:P.bothE x.a.prods x.b.prods x.ta x.tb=0) (h10:x.ps=P.bothL x.a.prods x.b.prods x.ta x.tb) (h11:CbIn x.a.cons x.b.cons x.ta x.tb) (h12:bothE x.a.cons x.b.cons x.ta x.tb=143):(mrE 143).Sat (ACall' Tryz.prog 12 [.agg (encPt true x.a),.agg (encPt true x.b)] []):=by
 refine ctr_vc (ht:=mr7H x) Tryz.mixed rfl ?_
 rw [vcM7_eq x]
 unfold vcM7
 obtain ⟨h1,h2,h3,h4,h5⟩:=h
 have t1:=tRs x.out
 have t2:=tPs x.ps
 have t3:=tCs x.cs
 have eb:({ data:=#[] }:ByteArray)=ByteArray.empty:=rfl
 simp only [h1,h2,h3,h4,h5,h6,h7,h8,h9,h11,h12,ep_eq,contLe_refl,sameC_refl,and_true,true_and,true_or,or_true,rowAt_zero,Nat.zero_add]
 repeat' with_reducible apply And.intro
 all_goals first | rfl | assumption | skip
theorem m8_c (x:Mrg) (h:MrgIn x) (h6:kmE x.a.rng x.b.rng=0) (h7:JoinOk x.a.recs x.b.recs x.out x.ta x.tb) (h8:PbIn x.a.prods x.b.prods x.ta x.tb) (h9:P.bothE x.a.prods x.b.prods x.ta x.tb=0) (h10:x.ps=P.bothL x.a.prods x.b.prods x.ta x.tb) (h11:CbIn x.a.cons x.b.cons x.ta x.tb) (h12:bothE x.a.cons x.b.cons x.ta x.tb=0) (h13:x.cs=conB x.a.cons x.b.cons x.ta x.tb) (h14:PartIn x.m) (h15:partOk x.m=false):(mrE 172).Sat (ACall' Tryz.prog 12 [.agg (encPt true x.a),.agg (encPt true x.b)] []):=by
 refine ctr_vc (ht:=mr8H x) Tryz.mixed rfl ?_
 rw [vcM8_eq x]
 unfold vcM8
 obtain ⟨h1,h2,h3,h4,h5⟩:=h
 have t1:=tRs x.out
 have t2:=tPs x.ps
 have t3:=tCs x.cs
 have eb:({ data:=#[] }:ByteArray)=ByteArray.empty:=rfl
 simp only [h1,h2,h3,h4,h5,h6,h7,h8,h9,h11,h12,h14,h15,ep_eq,contLe_refl,sameC_refl,and_true,true_and,true_or,or_true,rowAt_zero,Nat.zero_add]
 repeat' with_reducible apply And.intro
 all_goals first | rfl | assumption | skip
end Go.Proofs.YtckklclehofddaaGreatDoor.D

namespace Go.Proofs.YtckklclehofddaaGreatDoor.D
open Go.Ax
set_option maxRecDepth 1000000
end Go.Proofs.YtckklclehofddaaGreatDoor.D

namespace Go.Proofs.YtckklclehofddaaGreatDoor
open Go.Ax
set_option maxRecDepth 1000000
end Go.Proofs.YtckklclehofddaaGreatDoor

namespace Go.Proofs.YtckklclehofddaaGreatDoor
open Go.Ax
set_option maxRecDepth 1000000
end Go.Proofs.YtckklclehofddaaGreatDoor

namespace Go.Proofs.YtckklclehofddaaGreatDoor
open Go.Ax
set_option maxRecDepth 1000000
def joOk (a b:List Rec):Bool:=(isLog a&&isLog b)&&(decide (a.length+b.length<=4096)&&(jo0 a b).run.isSome)
def dead (d:Nat):List Blk:=List.replicate d .dead
end Go.Proofs.YtckklclehofddaaGreatDoor

namespace Go.Proofs.YtckklclehofddaaGreatDoor
open Go.Ax
set_option maxRecDepth 1000000
def nd (t:List Int):Prop:=∀ i j,i<=j->j<t.length->t.getD i 0<=t.getD j 0
def bd (t:List Int) (n:Int):Prop:=∀ i,i<t.length->0<=t.getD i 0/\t.getD i 0<=n
theorem snoc_at (t:List Int) (n:Int) (i:Nat) (h:i<(t++[n]).length):(t++[n]).getD i 0=if i<t.length then t.getD i 0 else n:=by
 rw [List.length_append,List.length_singleton] at h
 split
 · rename_i h1
   rw [List.getD_eq_getElem?_getD,List.getElem?_append_left h1,List.getD_eq_getElem?_getD]
 · rename_i h1
   obtain rfl:i=t.length:=by omega
   rw [List.getD_eq_getElem?_getD,List.getElem?_append_right (Nat.le_refl _)]
   simp
theorem bd_snoc {t:List Int} {n m:Int} (h:bd t n) (h0:0<=n) (hm:n<=m):bd (t++[n]) m:=by
 intro i hi
 rw [snoc_at t n i hi]
 split
 · rename_i h1
   have:=h i h1;omega
 · omega
theorem bd_up {t:List Int} {n m:Int} (h:bd t n) (hm:n<=m):bd t m:=fun i hi=>by
 have:=h i hi;omega
theorem nd_snoc {t:List Int} {n:Int} (h:nd t) (hb:bd t n):nd (t++[n]):=by
 intro i j hij hj
 have hi:i<(t++[n]).length:=by omega
 rw [snoc_at t n i hi,snoc_at t n j hj]
 by_cases h1:j<t.length
 · rw [if_pos h1,if_pos (show i<t.length by omega)]
   exact h i j hij h1
 · rw [if_neg h1]
   split
   · rename_i h2
     exact (hb i h2).2
   · exact Int.le_refl _
structure JI (A B:Nat) (s:Jo):Prop where
 la:s.ta.length+s.a.length=A
 lb:s.tb.length+s.b.length=B
 n:s.out.length=s.ta.length+s.tb.length
 na:nd s.ta
 ba:bd s.ta (s.out.length:Nat)
 nb:nd s.tb
 bb:bd s.tb (s.out.length:Nat)
theorem at_eq {A B:Nat} {s:Jo} (h:JI A B s) (hn:A+B<=4096):s.at=(s.out.length:Nat):=by
 have h1:=h.la
 have h2:=h.lb
 have h3:=h.n
 unfold Jo.at
 rw [wrap_u64 (by omega) (by omega)]
theorem goA_ok {A B:Nat} {s:Jo} (h:JI A B s) (hn:A+B<=4096) (ht:0<s.a.length):JI A B s.goA:=by
 have e:=at_eq h hn
 have h1:=h.la
 have h3:=h.n
 have hb:=h.ba
 have hl:(s.out++[(hd s.a).to s.at]).length=s.out.length+1:=by simp
 refine ⟨?_,h.lb,?_,?_,?_,h.nb,?_⟩<;>unfold Jo.goA<;>dsimp only
 · simp;omega
 · rw [hl];simp;omega
 · rw [e];exact nd_snoc h.na hb
 · rw [hl,e];exact bd_snoc hb (by omega) (by omega)
 · rw [hl];exact bd_up h.bb (by omega)
theorem goB_ok {A B:Nat} {s:Jo} (h:JI A B s) (hn:A+B<=4096) (ht:0<s.b.length):JI A B s.goB:=by
 have e:=at_eq h hn
 have h1:=h.lb
 have h3:=h.n
 have hb:=h.bb
 have hl:(s.out++[(hd s.b).to s.at]).length=s.out.length+1:=by simp
 refine ⟨h.la,?_,?_,h.na,?_,?_,?_⟩<;>unfold Jo.goB<;>dsimp only
 · simp;omega
 · rw [hl];simp;omega
 · rw [hl];exact bd_up h.ba (by omega)
 · rw [e];exact nd_snoc h.nb hb
 · rw [hl,e];exact bd_snoc hb (by omega) (by omega)
theorem pos_of_ne {l:List Rec} (h:(!l.isEmpty)=true):0<l.length:=by
 cases l
 · simp at h
 · simp
theorem joinN_ok {A B:Nat} (hn:A+B<=4096):∀ (n:Nat) (s s':Jo),n=s.a.length+s.b.length->JI A B s->joinN n s=some s'->JI A B s'/\s'.a=[]/\s'.b=[]
 | 0,s,s',e,h,hj=>by
   rw [joinN] at hj
   cases hj
   exact ⟨h,List.eq_nil_of_length_eq_zero (by omega),List.eq_nil_of_length_eq_zero (by omega)⟩
 | n+1,s,s',e,h,hj=>by
   rw [joinN] at hj
   by_cases hA:s.tA=true
   · rw [if_pos hA] at hj
     have hp:0<s.a.length:=pos_of_ne (by unfold Jo.tA at hA;rw [Bool.and_eq_true] at hA;exact hA.1)
     exact joinN_ok hn n s.goA s' (by unfold Jo.goA;dsimp only;rw [List.length_tail];omega) (goA_ok h hn hp) hj
   · rw [if_neg hA] at hj
     by_cases hB:s.tB=true
     · rw [if_pos hB] at hj
       have hp:0<s.b.length:=pos_of_ne (by unfold Jo.tB at hB;rw [Bool.and_eq_true] at hB;exact hB.1)
       exact joinN_ok hn n s.goB s' (by unfold Jo.goB;dsimp only;rw [List.length_tail];omega) (goB_ok h hn hp) hj
     · rw [if_neg hB] at hj
       cases hj
structure JE (A B:Nat) (s:Jo):Prop where
 la:s.ta.length=A+1
 lb:s.tb.length=B+1
 n:s.out.length=A+B
 na:nd s.ta
 ba:bd s.ta (s.out.length:Nat)
 nb:nd s.tb
 bb:bd s.tb (s.out.length:Nat)
theorem run_je {a b:List Rec} (h:joOk a b=true):JE a.length b.length ((jo0 a b).run.getD (jo0 a b)).end:=by
 unfold joOk at h
 obtain ⟨_,h2⟩:=(Bool.and_eq_true _ _).mp h
 obtain ⟨h2,h3⟩:=(Bool.and_eq_true _ _).mp h2
 have hn:=of_decide_eq_true h2
 obtain ⟨s,hs⟩:=Option.isSome_iff_exists.1 h3
 rw [hs,Option.getD_some]
 have h0:JI a.length b.length (jo0 a b):=⟨by simp [jo0],by simp [jo0],by simp [jo0],by intro i j _ hj;simp [jo0] at hj,by intro i hi;simp [jo0] at hi,by intro i j _ hj;simp [jo0] at hj,by intro i hi;simp [jo0] at hi⟩
 obtain ⟨g,ea,eb⟩:=joinN_ok hn _ (jo0 a b) s rfl h0 hs
 have e:=at_eq g hn
 have g1:=g.la
 have g2:=g.lb
 have g3:=g.n
 rw [ea] at g1
 rw [eb] at g2
 simp at g1 g2
 refine ⟨?_,?_,?_,?_,?_,?_,?_⟩<;>unfold Jo.end<;>dsimp only
 · simp;omega
 · simp;omega
 · omega
 · rw [e];exact nd_snoc g.na g.ba
 · rw [e];exact bd_snoc g.ba (by omega) (by omega)
 · rw [e];exact nd_snoc g.nb g.bb
 · rw [e];exact bd_snoc g.bb (by omega) (by omega)
end Go.Proofs.YtckklclehofddaaGreatDoor

namespace Go.Proofs.YtckklclehofddaaGreatDoor
open Go.Ax
set_option maxRecDepth 1000000
end Go.Proofs.YtckklclehofddaaGreatDoor

namespace Go.Proofs.YtckklclehofddaaGreatDoor
open Go.Ax
set_option maxRecDepth 1000000
structure Stn (j a:List Rec) (to:List Int):Prop where
 n:to.length=a.length+1
 up:∀ k,k<a.length->to.getD k 0<to.getD (k+1) 0
 lo:∀ k,k<a.length->0<=to.getD k 0
 hi:∀ k,k<a.length->to.getD k 0<j.length
 eq:∀ k,k<a.length->j.getD (to.getD k 0).toNat default=(a.getD k default).to (to.getD k 0)
 jl:j.length<=4096
structure Ord where
 a:List Rec
 b:List Rec
 r:Rng
 K:Ke
 J:Jo
instance:Inhabited Ord:=⟨⟨[],[],default,⟨[],[]⟩,⟨[],[],[],[],[]⟩⟩⟩
def orT (o:Ord) (k:Nat):List AV:=mkT 203 [(0,encRs true o.a),(1,encRs true o.b),(5,.ptr 0 0 0 0),(7,.y (.bool true)),(8,.own 1 5 0 o.K.out.length),(9,.own 2 1 0 o.K.to.length),(10,.y (.int .i64 k))]
end Go.Proofs.YtckklclehofddaaGreatDoor

namespace Go.Proofs.YtckklclehofddaaGreatDoor
open Go.Ax
set_option maxRecDepth 1000000
theorem snocR (t:List Rec) (n:Rec) (i:Nat):(t++[n]).getD i default=if i<t.length then t.getD i default else if i=t.length then n else default:=by
 split
 · rename_i h1
   rw [List.getD_eq_getElem?_getD,List.getElem?_append_left h1,List.getD_eq_getElem?_getD]
 · rename_i h1
   rw [List.getD_eq_getElem?_getD,List.getElem?_append_right (by omega)]
   split
   · rename_i h2
     rw [h2,Nat.sub_self];rfl
   · rename_i h2
     rw [List.getElem?_eq_none (by simp;omega)];rfl
structure Sd (x0 x:List Rec) (t:List Int) (out:List Rec):Prop where
 dr:x=x0.drop t.length
 le:t.length<=x0.length
 up:∀ k,k+1<t.length->t.getD k 0<t.getD (k+1) 0
 lo:∀ k,k<t.length->0<=t.getD k 0/\t.getD k 0<out.length
 eq:∀ k,k<t.length->out.getD (t.getD k 0).toNat default=(x0.getD k default).to (t.getD k 0)
theorem Sd.other {x0 x:List Rec} {t:List Int} {out:List Rec} (h:Sd x0 x t out) (z:Rec):Sd x0 x t (out++[z]) where
 dr:=h.dr
 le:=h.le
 up:=h.up
 lo:=fun k hk=>by
  have:=h.lo k hk
  have hn:(out++[z]).length=out.length+1:=by simp
  rw [hn];omega
 eq:=fun k hk=>by
  have:=h.lo k hk
  rw [snocR,if_pos (by omega)]
  exact h.eq k hk
theorem Sd.push {x0 x:List Rec} {t:List Int} {out:List Rec} (h:Sd x0 x t out) (hp:0<x.length):Sd x0 x.tail (t++[(out.length:Int)]) (out++[(hd x).to (out.length:Int)]) where
 dr:=by rw [h.dr];simp
 le:=by
  have:=h.dr;rw [this] at hp;simp at hp ⊢;omega
 up:=fun k hk=>by
  simp at hk
  rw [snoc_at t _ k (by simp;omega),snoc_at t _ (k+1) (by simp;omega),if_pos (by omega)]
  split
  · rename_i h1;exact h.up k h1
  · exact (h.lo k (by omega)).2
 lo:=fun k hk=>by
  simp at hk
  rw [snoc_at t _ k (by simp;omega)]
  split
  · rename_i h1
    have:=h.lo k h1
    have hn:(out++[(hd x).to (out.length:Int)]).length=out.length+1:=by simp
    rw [hn];omega
  · have hn:(out++[(hd x).to (out.length:Int)]).length=out.length+1:=by simp
    rw [hn];omega
 eq:=fun k hk=>by
  simp at hk
  rw [snoc_at t _ k (by simp;omega)]
  split
  · rename_i h1
    have:=h.lo k h1
    rw [snocR,if_pos (by omega)]
    exact h.eq k h1
  · obtain rfl:k=t.length:=by omega
    rw [Int.toNat_natCast,snocR,if_neg (by omega),if_pos rfl]
    congr 1
    unfold hd
    rw [h.dr]
    simp
theorem Sd.fin {x0:List Rec} {t:List Int} {out:List Rec} (h:Sd x0 [] t out) (hl:out.length<=4096):Stn out x0 (t++[(out.length:Int)]):=by
 have hn:t.length=x0.length:=by
  have h1:=congrArg List.length h.dr
  have h2:=h.le
  simp at h1;omega
 refine ⟨by simp [hn],fun k hk=>?_,fun k hk=>?_,fun k hk=>?_,fun k hk=>?_,hl⟩
 · rw [snoc_at t _ k (by simp;omega),snoc_at t _ (k+1) (by simp;omega),if_pos (by omega)]
   split
   · rename_i h1;exact h.up k h1
   · exact (h.lo k (by omega)).2
 · rw [snoc_at t _ k (by simp;omega),if_pos (by omega)]
   exact (h.lo k (by omega)).1
 · rw [snoc_at t _ k (by simp;omega),if_pos (by omega)]
   exact (h.lo k (by omega)).2
 · rw [snoc_at t _ k (by simp;omega),if_pos (by omega)]
   exact h.eq k (by omega)
def rP (x y:Rec):Prop:=x.prod=y.prod->x.seq<=y.seq
structure JR2 (a0 b0:List Rec) (s:Jo):Prop where
 sa:Sd a0 s.a s.ta s.out
 sb:Sd b0 s.b s.tb s.out
 lg:∀ k,k<s.out.length->okR (s.out.getD k default) k=true
 ra:a0.Pairwise rP->b0.Pairwise rP->(s.out++s.a).Pairwise rP/\(s.out++s.b).Pairwise rP
theorem log_okj {l:List Rec} (h:isLog l=true) {k:Nat} (hk:k<l.length):okR (l.getD k default) k=true:=by
 unfold isLog at h
 have h1:=((Bool.and_eq_true _ _).mp h).1
 unfold logFrom at h1
 rw [List.all_eq_true] at h1
 exact h1 k (by simp;omega)
theorem log_of {l:List Rec} (h:∀ k,k<l.length->okR (l.getD k default) k=true) (hl:l.length<=4096):isLog l=true:=by
 unfold isLog logFrom
 rw [decide_eq_true hl,Bool.and_true,List.all_eq_true]
 intro k hk
 simp at hk
 exact h k hk
theorem okR_to {x:Rec} {k n:Nat} (h:okR x k=true) (hn:n<=4096):okR (x.to (n:Int)) n=true:=by
 unfold okR at h ⊢
 have h2:=((Bool.and_eq_true _ _).mp h).2
 have e:IntKind.u64.wrap (n:Int)=n:=wrap_u64 (by omega) (by omega)
 have e3:(decide (x.key.size<=32)&&decide (x.val.length<=256))=true:=h2
 show (!((n:Int) != IntKind.u64.wrap (n:Int))&&(decide (x.key.size<=32)&&decide (x.val.length<=256)))=true
 rw [e,e3]
 simp
theorem low_of {x:Rec} {l:List Rec} (h:lowR l x=false):∀ y∈l,rP x y:=by
 intro y hy hp
 unfold lowR at h
 rw [List.any_eq_false] at h
 have:=h y hy
 unfold below at this
 rw [Bool.not_eq_true,Bool.and_eq_false_iff] at this
 rcases this with h1 | h1
 · simp at h1;exact absurd hp.symm h1
 · simp at h1;exact h1
theorem pw_push {out x y:List Rec} {o:Int} (hx:0<x.length) (h1:(out++x).Pairwise rP) (h2:(out++y).Pairwise rP) (h3:∀ z∈y,rP (hd x) z) :
 (out++[(hd x).to o]++x.tail).Pairwise rP/\(out++[(hd x).to o]++y).Pairwise rP:=by
 obtain ⟨u,v,rfl⟩:∃ u v,x=u::v:=by
  cases x
  · simp at hx
  · exact ⟨_,_,rfl⟩
 have hu:hd (u::v)=u:=rfl
 rw [hu] at h3 ⊢
 rw [List.pairwise_append,List.pairwise_cons] at h1
 rw [List.pairwise_append] at h2
 obtain ⟨a1,⟨a2,a3⟩,a4⟩:=h1
 obtain ⟨b1,b2,b3⟩:=h2
 have c:(out++[u.to o]).Pairwise rP:=by
  rw [List.pairwise_append]
  refine ⟨a1,List.pairwise_singleton _ _,fun p hp q hq=>?_⟩
  obtain rfl:=List.mem_singleton.1 hq
  exact a4 p hp u List.mem_cons_self
 refine ⟨?_,?_⟩
 · rw [List.pairwise_append]
   refine ⟨c,a3,fun p hp q hq=>?_⟩
   rcases List.mem_append.1 hp with hp | hp
   · exact a4 p hp q (List.mem_cons_of_mem _ hq)
   · obtain rfl:=List.mem_singleton.1 hp
     exact a2 q hq
 · rw [List.pairwise_append]
   refine ⟨c,b2,fun p hp q hq=>?_⟩
   rcases List.mem_append.1 hp with hp | hp
   · exact b3 p hp q hq
   · obtain rfl:=List.mem_singleton.1 hp
     exact h3 q hq
theorem okx {a0 x:List Rec} {t:List Int} {out:List Rec} (h:Sd a0 x t out) (hl:isLog a0=true) (hx:0<x.length) (hn:out.length<=4096):okR ((hd x).to (out.length:Int)) out.length=true:=by
 have hd':hd x=a0.getD t.length default:=by
  unfold hd;rw [h.dr];simp
 have hlt:t.length<a0.length:=by
  have:=h.dr;rw [this] at hx;simp at hx;omega
 rw [hd']
 exact okR_to (log_okj hl hlt) hn
theorem lg_push {out:List Rec} {z:Rec} (h:∀ k,k<out.length->okR (out.getD k default) k=true) (hz:okR z out.length=true):∀ k,k<(out++[z]).length->okR ((out++[z]).getD k default) k=true:=by
 intro k hk
 rw [snocR]
 split
 · rename_i h1;exact h k h1
 · obtain rfl:k=out.length:=by simp at hk;omega
   rw [if_pos rfl];exact hz
theorem joinN_jr {a0 b0:List Rec} (la:isLog a0=true) (lb:isLog b0=true):∀ (n:Nat) (s s':Jo),n=s.a.length+s.b.length->n+s.out.length<=4096->JR2 a0 b0 s->joinN n s=some s'->JR2 a0 b0 s'/\s'.a=[]/\s'.b=[]/\s'.out.length=n+s.out.length
 | 0,s,s',e,_,h,hj=>by
   rw [joinN] at hj
   cases hj
   exact ⟨h,List.eq_nil_of_length_eq_zero (by omega),List.eq_nil_of_length_eq_zero (by omega),by omega⟩
 | n+1,s,s',e,hl,h,hj=>by
   have hat:s.at=(s.out.length:Int):=by unfold Jo.at;rw [wrap_u64 (by omega) (by omega)]
   rw [joinN] at hj
   by_cases hA:s.tA=true
   · rw [if_pos hA] at hj
     unfold Jo.tA at hA
     obtain ⟨hA1,hA2⟩:=(Bool.and_eq_true _ _).mp hA
     have hp:0<s.a.length:=pos_of_ne hA1
     have hlow:lowR s.b (hd s.a)=false:=by simpa using hA2
     have g:JR2 a0 b0 s.goA:=by
      unfold Jo.goA
      rw [hat]
      refine ⟨h.sa.push hp,h.sb.other _,lg_push h.lg (okx h.sa la hp (by omega)),fun r1 r2=>?_⟩
      obtain ⟨c1,c2⟩:=h.ra r1 r2
      exact pw_push hp c1 c2 (low_of hlow)
     obtain ⟨d1,d2,d3,d4⟩:=joinN_jr la lb n s.goA s' (by unfold Jo.goA;dsimp only;rw [List.length_tail];omega) (by unfold Jo.goA;dsimp only;simp;omega) g hj
     refine ⟨d1,d2,d3,?_⟩
     rw [d4];unfold Jo.goA;simp;omega
   · rw [if_neg hA] at hj
     by_cases hB:s.tB=true
     · rw [if_pos hB] at hj
       unfold Jo.tB at hB
       obtain ⟨hB1,hB2⟩:=(Bool.and_eq_true _ _).mp hB
       have hp:0<s.b.length:=pos_of_ne hB1
       have hlow:lowR s.a (hd s.b)=false:=by simpa using hB2
       have g:JR2 a0 b0 s.goB:=by
        unfold Jo.goB
        rw [hat]
        refine ⟨h.sa.other _,h.sb.push hp,lg_push h.lg (okx h.sb lb hp (by omega)),fun r1 r2=>?_⟩
        obtain ⟨c1,c2⟩:=h.ra r1 r2
        exact (pw_push hp c2 c1 (low_of hlow)).symm
       obtain ⟨d1,d2,d3,d4⟩:=joinN_jr la lb n s.goB s' (by unfold Jo.goB;dsimp only;rw [List.length_tail];omega) (by unfold Jo.goB;dsimp only;simp;omega) g hj
       refine ⟨d1,d2,d3,?_⟩
       rw [d4];unfold Jo.goB;simp;omega
     · rw [if_neg hB] at hj
       cases hj
structure JF (a b:List Rec) (J:Jo):Prop where
 sa:Stn J.out a J.ta
 sb:Stn J.out b J.tb
 n:J.out.length=a.length+b.length
 lg:isLog J.out=true
 ra:a.Pairwise rP->b.Pairwise rP->J.out.Pairwise rP
theorem jf_of {a b:List Rec} (h:joOk a b=true):JF a b ((jo0 a b).run.getD (jo0 a b)).end:=by
 unfold joOk at h
 obtain ⟨h1,h2⟩:=(Bool.and_eq_true _ _).mp h
 obtain ⟨la,lb⟩:=(Bool.and_eq_true _ _).mp h1
 obtain ⟨h2,h3⟩:=(Bool.and_eq_true _ _).mp h2
 have hn:=of_decide_eq_true h2
 obtain ⟨s,hs⟩:=Option.isSome_iff_exists.1 h3
 rw [hs,Option.getD_some]
 have h0:JR2 a b (jo0 a b):=by
  refine ⟨⟨by simp [jo0],by simp [jo0],fun k hk=>by simp [jo0] at hk,fun k hk=>by simp [jo0] at hk,fun k hk=>by simp [jo0] at hk⟩,⟨by simp [jo0],by simp [jo0],fun k hk=>by simp [jo0] at hk,fun k hk=>by simp [jo0] at hk,fun k hk=>by simp [jo0] at hk⟩,fun k hk=>by simp [jo0] at hk,fun r1 r2=>⟨by simpa [jo0] using r1,by simpa [jo0] using r2⟩⟩
 obtain ⟨g,ea,eb,en⟩:=joinN_jr la lb _ (jo0 a b) s rfl (by simp [jo0];omega) h0 hs
 have en':s.out.length=a.length+b.length:=by rw [en];simp [jo0]
 have hat:s.at=(s.out.length:Int):=by unfold Jo.at;rw [wrap_u64 (by omega) (by omega)]
 have ga:=g.sa
 have gb:=g.sb
 rw [ea] at ga
 rw [eb] at gb
 unfold Jo.end
 rw [hat]
 refine ⟨ga.fin (by omega),gb.fin (by omega),en',log_of g.lg (show s.out.length<=4096 by omega),fun r1 r2=>?_⟩
 have:=(g.ra r1 r2).1
 rw [ea,List.append_nil] at this
 exact this
end Go.Proofs.YtckklclehofddaaGreatDoor

namespace Go.Proofs.YtckklclehofddaaGreatDoor.D
open Go.Ax
set_option maxRecDepth 1000000
theorem not_bad {p:Part} (h:bad p=false):partOk p=true/\IntKind.u64.wrap (p.epoch+1)≠0:=by
 unfold bad at h
 simp at h
 exact h
theorem mem_both {s m:List P.Producer} {z:P.Producer}:∀ k,k<=m.length->z∈P.both s m k->z∈s∨z∈m:=by
 intro k
 induction k with
 | zero=>intro _ h;exact .inl h
 | succ k ih =>
   intro hk h
   rw [P.both_step (by omega)] at h
   unfold P.bst at h
   split at h
   · rcases P.mem_putL h with rfl | h
     · exact .inr (by simp [List.getElem?_eq_getElem (show k<m.length by omega)])
     · exact ih (by omega) h
   · exact ih (by omega) h
theorem mv_off {to:List Int} {n:Int} (hb:bd to n) (h0:0<=n) (x:P.Producer) (hx:0<=x.offset):0<=(P.mvP to x).offset/\(P.mvP to x).offset<=n:=by
 unfold P.mvP
 split
 · rename_i h
   simp only [P.mvOk,Bool.and_eq_true,decide_eq_true_eq] at h
   obtain ⟨_,h1,h2,_⟩:=h
   have:=hb x.offset.toNat (by omega)
   show 0<=to.getD x.offset.toNat default/\_
   exact this
 · exact ⟨Int.le_refl _,h0⟩
theorem both_off {a b:List P.Producer} {ta tb:List Int} {n:Int} (h1:bd ta n) (h2:bd tb n) (h0:0<=n) (oa:∀ x∈a,0<=x.offset) (ob:∀ x∈b,0<=x.offset):∀ x∈P.bothL a b ta tb,0<=x.offset/\x.offset<=n:=by
 intro x hx
 rcases mem_both _ (Nat.le_refl _) hx with h | h
 · obtain ⟨y,hy,rfl⟩:=List.mem_map.1 h
   exact mv_off h1 h0 y (oa y hy)
 · obtain ⟨y,hy,rfl⟩:=List.mem_map.1 h
   exact mv_off h2 h0 y (ob y hy)
structure JoAll (a b out:List Rec) (ta tb:List Int):Prop where
 jf:JF a b ⟨[],[],out,ta,tb⟩
 ba:bd ta out.length
 bb:bd tb out.length
 na:ta.length=a.length+1
 nb:tb.length=b.length+1
 n:out.length=a.length+b.length
theorem jo_all {a b out:List Rec} {ta tb:List Int} (h:JoinOk a b out ta tb):JoAll a b out ta tb:=by
 obtain ⟨la,lb,hn,s,hs,rfl,rfl,rfl⟩:=h
 have hj:joOk a b=true:=by simp [joOk,la,lb,hn,hs]
 have h1:=jf_of hj
 have h2:=run_je hj
 rw [hs,Option.getD_some] at h1 h2
 refine ⟨⟨h1.sa,h1.sb,h1.n,h1.lg,h1.ra⟩,?_,?_,h1.sa.n,h1.sb.n,h1.n⟩
 · exact h2.ba
 · exact h2.bb
theorem km_ok {a b:Part} (ha:partOk a=true) (hb:partOk b=true):kmE a.rng b.rng=0∨kmE a.rng b.rng=133:=by
 have h1:=(ok_parts ha).1
 have h2:=(ok_parts hb).1
 unfold kmE
 rw [if_neg (by simp [h1]),if_neg (by simp [h2])]
 split
 · exact .inr rfl
 · exact .inl rfl
theorem tab_len {l:List P.Producer} (h:P.isTable l=true):l.length<=256:=by simp [P.isTable] at h;exact h.2
theorem con_len {l:List Con} (h:isCons l=true):l.length<=64:=by simp [isCons] at h;exact h.2
end Go.Proofs.YtckklclehofddaaGreatDoor.D
