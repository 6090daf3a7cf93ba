import Derived.Test.YtckklclehofddaaGreatDoorW2
import Derived.Test.YtckklclehofddaaGreatDoorW6
set_option linter.unusedVariables false
set_option linter.unusedSimpArgs false
set_option linter.unusedSectionVars false
namespace Go.Proofs.YtckklclehofddaaGreatDoor.H
open Go.Ax Go.Proofs.YtckklclehofddaaGreatDoor
set_option maxRecDepth 1000000
def jqM (b1 b2:Bool) (s:Jo):List Blk:=[rowU s.ta,.box 125 [encRs b1 s.a,.own 0 1 0 s.ta.length],rowU s.tb,.box 125 [encRs b2 s.b,.own 2 1 0 s.tb.length],towR s.out]
def jqS (b1 b2:Bool) (r:JR):Exit×List AV×List Blk:=match r with
 | .ok s=>(.exit 1,jT s,jqM b1 b2 s)
 | .bad=>(.ret,mkT 121 [(4,.s (.slice none 0 0)),(5,.s (.slice none 0 0)),(6,.s (.slice none 0 0)),(7,.s (.int .i64 145))],[])
noncomputable def jqH (b1 b2:Bool) (s:Jo) (h:Rec):HintsT Tryz.prog:=withSh (hh _ noLp (cs1 57 9 9 (waitC b1 b2 s.a s.b) (cs1 57 11 9 (waitC b2 b1 s.b s.a) (cs1 57 14 9 (owwC h s.out.length) noCs))) noOp) noSh
def vcJq_q3 (b2:Bool) (s:{ s:Jo // s.Ok }):Prop:=(false=false/\2<=2/\cellLe 2 (fun (j:Nat)=>Ax.get [AV.ys b2 5 s.val.b.length (cellsOf' encR s.val.b),AV.ys false 1 s.val.tb.length (Ax.rowAt 0 (cellsOf' encU s.val.tb))] (0+j)) (Ax.get [AV.ys b2 5 s.val.b.length (cellsOf' encR s.val.b),AV.junk]))
def vcJq_q2 (b1:Bool) (s:{ s:Jo // s.Ok }):Prop:=(false=false/\2<=2/\cellLe 2 (fun (j:Nat)=>Ax.get [AV.ys b1 5 s.val.a.length (cellsOf' encR s.val.a),AV.ys false 1 s.val.ta.length (Ax.rowAt 0 (cellsOf' encU s.val.ta))] (0+j)) (Ax.get [AV.ys b1 5 s.val.a.length (cellsOf' encR s.val.a),AV.junk]))
def vcJq_q1 (b1:Bool) (b2:Bool) (s:{ s:Jo // s.Ok }) (c:Bool):Prop:=(((s.val.b.length:Int)==0)=false->((vcJq_q3 b2 s)/\(vcJq_q2 b1 s)/\True)/\True/\(0<s.val.b.length/\s.val.a.length<=9223372036854775806)/\true=true/\True/\(lowR s.val.a (hd s.val.b)=true->(Option.isSome (Jo.run s.val)=true->False)/\(Option.isSome (Jo.run s.val)=false->(True/\True/\True/\(145:Int)=145/\True)/\True/\true=true))/\(lowR s.val.a (hd s.val.b)=false->(decide (s.val.tb.length=s.val.tb.length)&&decide (s.val.tb.length+1<=9223372036854775807)&&decide ((s.val.tb.length+1)*8<=140737488355328))=true/\(true&&decide (0<(s.val.b.length:Int)))=true/\(((s.val.b.getD 0 default).off=(if c=true then hd s.val.a else hd s.val.b).off/\(s.val.b.getD 0 default).key=(if c=true then hd s.val.a else hd s.val.b).key/\(true=true/\(s.val.b.getD 0 default).val.length=(if c=true then hd s.val.a else hd s.val.b).val.length/\contLe (s.val.b.getD 0 default).val.length 1 (cellsOf' encB (s.val.b.getD 0 default).val) (cellsOf' encB (if c=true then hd s.val.a else hd s.val.b).val))/\(s.val.b.getD 0 default).prod=(if c=true then hd s.val.a else hd s.val.b).prod/\(s.val.b.getD 0 default).seq=(if c=true then hd s.val.a else hd s.val.b).seq/\True)/\(s.val.out.length:Int)=(s.val.out.length:Int)/\True)/\True/\(if c=true then hd s.val.a else hd s.val.b).val.length<=140737488355328/\s.val.out.length=s.val.out.length/\s.val.out.length+1<=9223372036854775807/\(s.val.out.length+1)*64<=140737488355328/\(true&&decide (1<=(s.val.b.length:Int))&&decide ((s.val.b.length:Int)<=(s.val.b.length:Int)))=true/\∃ (j:{ s:Jo // Jo.Ok s }),j.val.a.length+j.val.b.length<s.val.a.length+s.val.b.length/\(((0=0/\0=0)/\(0=0/\0=0)/\(0=0/\s.val.out.length+1=j.val.out.length)/\True)/\(((s.val.ta.length=j.val.ta.length/\contLe s.val.ta.length 1 (cellsOf' encU s.val.ta) (cellsOf' encU j.val.ta))/\((b1=b1/\s.val.a.length=j.val.a.length/\contLe s.val.a.length 5 (cellsOf' encR s.val.a) (cellsOf' encR j.val.a))/\(0=0/\s.val.ta.length=j.val.ta.length)/\True)/\(s.val.tb.length+1=j.val.tb.length/\contLe (s.val.tb.length+1) 1 (appRow s.val.tb.length (cellsOf' encU s.val.tb) fun (k j:Nat)=>Ax.get [AV.y (.int .u64 (IntKind.u64.wrap (s.val.out.length:Int)))] (k*1+j)) (cellsOf' encU j.val.tb))/\((b2=b2/\Int.toNat (s.val.b.length:Int) - 1=j.val.b.length/\contLe (Int.toNat (s.val.b.length:Int) - 1) 5 (fun (k:Nat)=>cellsOf' encR s.val.b (1+k)) (cellsOf' encR j.val.b))/\(0=0/\s.val.tb.length+1=j.val.tb.length)/\True)/\(s.val.out.length+1=j.val.out.length/\(((true=true/\IntKind.u64.wrap (s.val.out.length:Int)=(j.val.out.getD s.val.out.length default).off)/\(true=true/\(if c=true then hd s.val.a else hd s.val.b).key=(j.val.out.getD s.val.out.length default).key)/\((j.val.out.getD s.val.out.length default).val.length=(if c=true then hd s.val.a else hd s.val.b).val.length/\contLe (j.val.out.getD s.val.out.length default).val.length 1 (cellsOf' encB (if c=true then hd s.val.a else hd s.val.b).val) (cellsOf' encB (j.val.out.getD s.val.out.length default).val))/\(true=true/\(if c=true then hd s.val.a else hd s.val.b).prod=(j.val.out.getD s.val.out.length default).prod)/\(true=true/\(if c=true then hd s.val.a else hd s.val.b).seq=(j.val.out.getD s.val.out.length default).seq)/\True)/\True)/\∀ k,k<s.val.out.length+1->¬k=s.val.out.length->(s.val.out.getD k default).off=(j.val.out.getD k default).off/\(s.val.out.getD k default).key=(j.val.out.getD k default).key/\((s.val.out.getD k default).val.length=(j.val.out.getD k default).val.length/\contLe (s.val.out.getD k default).val.length 1 (cellsOf' encB (s.val.out.getD k default).val) (cellsOf' encB (j.val.out.getD k default).val))/\(s.val.out.getD k default).prod=(j.val.out.getD k default).prod/\(s.val.out.getD k default).seq=(j.val.out.getD k default).seq/\True)/\True)/\True)/\true=true)/\true=true/\(Option.isSome (Jo.run j.val)=true->(Option.isSome (Jo.run s.val)=true->JR.ok (Option.getD (Jo.run j.val) j.val)=JR.ok (Option.getD (Jo.run s.val) s.val))/\(Option.isSome (Jo.run s.val)=false->JR.ok (Option.getD (Jo.run j.val) j.val)=JR.bad))/\(Option.isSome (Jo.run j.val)=false->(Option.isSome (Jo.run s.val)=true->JR.bad=JR.ok (Option.getD (Jo.run s.val) s.val))/\(Option.isSome (Jo.run s.val)=false->JR.bad=JR.bad))))
def vcJq (b1:Bool) (b2:Bool) (s:{ s:Jo // s.Ok }) (c:Bool):Prop :=
 (decide (0<IntKind.i64.wrap ((s.val.a.length:Int)+(s.val.b.length:Int)))=true->(((s.val.a.length:Int)==0)=true->(((s.val.b.length:Int)==0)=true->(Option.isSome (Jo.run s.val)=true->False)/\(Option.isSome (Jo.run s.val)=false->(True/\True/\True/\(145:Int)=145/\True)/\True/\true=true))/\(vcJq_q1 b1 b2 s c))/\(((s.val.a.length:Int)==0)=false->((vcJq_q2 b1 s)/\(vcJq_q3 b2 s)/\True)/\True/\(0<s.val.a.length/\s.val.b.length<=9223372036854775806)/\true=true/\True/\(lowR s.val.b (hd s.val.a)=true->(((s.val.b.length:Int)==0)=true->(Option.isSome (Jo.run s.val)=true->False)/\(Option.isSome (Jo.run s.val)=false->(True/\True/\True/\(145:Int)=145/\True)/\True/\true=true))/\(vcJq_q1 b1 b2 s c))/\(lowR s.val.b (hd s.val.a)=false->(decide (s.val.ta.length=s.val.ta.length)&&decide (s.val.ta.length+1<=9223372036854775807)&&decide ((s.val.ta.length+1)*8<=140737488355328))=true/\(true&&decide (0<(s.val.a.length:Int)))=true/\(((s.val.a.getD 0 default).off=(if c=true then hd s.val.a else hd s.val.b).off/\(s.val.a.getD 0 default).key=(if c=true then hd s.val.a else hd s.val.b).key/\(true=true/\(s.val.a.getD 0 default).val.length=(if c=true then hd s.val.a else hd s.val.b).val.length/\contLe (s.val.a.getD 0 default).val.length 1 (cellsOf' encB (s.val.a.getD 0 default).val) (cellsOf' encB (if c=true then hd s.val.a else hd s.val.b).val))/\(s.val.a.getD 0 default).prod=(if c=true then hd s.val.a else hd s.val.b).prod/\(s.val.a.getD 0 default).seq=(if c=true then hd s.val.a else hd s.val.b).seq/\True)/\(s.val.out.length:Int)=(s.val.out.length:Int)/\True)/\True/\(if c=true then hd s.val.a else hd s.val.b).val.length<=140737488355328/\s.val.out.length=s.val.out.length/\s.val.out.length+1<=9223372036854775807/\(s.val.out.length+1)*64<=140737488355328/\(true&&decide (1<=(s.val.a.length:Int))&&decide ((s.val.a.length:Int)<=(s.val.a.length:Int)))=true/\∃ (j:{ s:Jo // Jo.Ok s }),j.val.a.length+j.val.b.length<s.val.a.length+s.val.b.length/\(((0=0/\0=0)/\(0=0/\0=0)/\(0=0/\s.val.out.length+1=j.val.out.length)/\True)/\(((s.val.ta.length+1=j.val.ta.length/\contLe (s.val.ta.length+1) 1 (appRow s.val.ta.length (cellsOf' encU s.val.ta) fun (k j:Nat)=>Ax.get [AV.y (.int .u64 (IntKind.u64.wrap (s.val.out.length:Int)))] (k*1+j)) (cellsOf' encU j.val.ta))/\((b1=b1/\Int.toNat (s.val.a.length:Int) - 1=j.val.a.length/\contLe (Int.toNat (s.val.a.length:Int) - 1) 5 (fun (k:Nat)=>cellsOf' encR s.val.a (1+k)) (cellsOf' encR j.val.a))/\(0=0/\s.val.ta.length+1=j.val.ta.length)/\True)/\(s.val.tb.length=j.val.tb.length/\contLe s.val.tb.length 1 (cellsOf' encU s.val.tb) (cellsOf' encU j.val.tb))/\((b2=b2/\s.val.b.length=j.val.b.length/\contLe s.val.b.length 5 (cellsOf' encR s.val.b) (cellsOf' encR j.val.b))/\(0=0/\s.val.tb.length=j.val.tb.length)/\True)/\(s.val.out.length+1=j.val.out.length/\(((true=true/\IntKind.u64.wrap (s.val.out.length:Int)=(j.val.out.getD s.val.out.length default).off)/\(true=true/\(if c=true then hd s.val.a else hd s.val.b).key=(j.val.out.getD s.val.out.length default).key)/\((j.val.out.getD s.val.out.length default).val.length=(if c=true then hd s.val.a else hd s.val.b).val.length/\contLe (j.val.out.getD s.val.out.length default).val.length 1 (cellsOf' encB (if c=true then hd s.val.a else hd s.val.b).val) (cellsOf' encB (j.val.out.getD s.val.out.length default).val))/\(true=true/\(if c=true then hd s.val.a else hd s.val.b).prod=(j.val.out.getD s.val.out.length default).prod)/\(true=true/\(if c=true then hd s.val.a else hd s.val.b).seq=(j.val.out.getD s.val.out.length default).seq)/\True)/\True)/\∀ k,k<s.val.out.length+1->¬k=s.val.out.length->(s.val.out.getD k default).off=(j.val.out.getD k default).off/\(s.val.out.getD k default).key=(j.val.out.getD k default).key/\((s.val.out.getD k default).val.length=(j.val.out.getD k default).val.length/\contLe (s.val.out.getD k default).val.length 1 (cellsOf' encB (s.val.out.getD k default).val) (cellsOf' encB (j.val.out.getD k default).val))/\(s.val.out.getD k default).prod=(j.val.out.getD k default).prod/\(s.val.out.getD k default).seq=(j.val.out.getD k default).seq/\True)/\True)/\True)/\true=true)/\true=true/\(Option.isSome (Jo.run j.val)=true->(Option.isSome (Jo.run s.val)=true->JR.ok (Option.getD (Jo.run j.val) j.val)=JR.ok (Option.getD (Jo.run s.val) s.val))/\(Option.isSome (Jo.run s.val)=false->JR.ok (Option.getD (Jo.run j.val) j.val)=JR.bad))/\(Option.isSome (Jo.run j.val)=false->(Option.isSome (Jo.run s.val)=true->JR.bad=JR.ok (Option.getD (Jo.run s.val) s.val))/\(Option.isSome (Jo.run s.val)=false->JR.bad=JR.bad)))))/\(decide (0<IntKind.i64.wrap ((s.val.a.length:Int)+(s.val.b.length:Int)))=false->(Option.isSome (Jo.run s.val)=true->((0=0/\0=0)/\(0=0/\0=0)/\(0=0/\s.val.out.length=(Option.getD (Jo.run s.val) s.val).out.length)/\True)/\((s.val.ta.length=(Option.getD (Jo.run s.val) s.val).ta.length/\contLe s.val.ta.length 1 (cellsOf' encU s.val.ta) (cellsOf' encU (Option.getD (Jo.run s.val) s.val).ta))/\((b1=b1/\s.val.a.length=(Option.getD (Jo.run s.val) s.val).a.length/\contLe s.val.a.length 5 (cellsOf' encR s.val.a) (cellsOf' encR (Option.getD (Jo.run s.val) s.val).a))/\(0=0/\s.val.ta.length=(Option.getD (Jo.run s.val) s.val).ta.length)/\True)/\(s.val.tb.length=(Option.getD (Jo.run s.val) s.val).tb.length/\contLe s.val.tb.length 1 (cellsOf' encU s.val.tb) (cellsOf' encU (Option.getD (Jo.run s.val) s.val).tb))/\((b2=b2/\s.val.b.length=(Option.getD (Jo.run s.val) s.val).b.length/\contLe s.val.b.length 5 (cellsOf' encR s.val.b) (cellsOf' encR (Option.getD (Jo.run s.val) s.val).b))/\(0=0/\s.val.tb.length=(Option.getD (Jo.run s.val) s.val).tb.length)/\True)/\(s.val.out.length=(Option.getD (Jo.run s.val) s.val).out.length/\∀ k,k<s.val.out.length->(s.val.out.getD k default).off=((Option.getD (Jo.run s.val) s.val).out.getD k default).off/\(s.val.out.getD k default).key=((Option.getD (Jo.run s.val) s.val).out.getD k default).key/\((s.val.out.getD k default).val.length=((Option.getD (Jo.run s.val) s.val).out.getD k default).val.length/\contLe (s.val.out.getD k default).val.length 1 (cellsOf' encB (s.val.out.getD k default).val) (cellsOf' encB ((Option.getD (Jo.run s.val) s.val).out.getD k default).val))/\(s.val.out.getD k default).prod=((Option.getD (Jo.run s.val) s.val).out.getD k default).prod/\(s.val.out.getD k default).seq=((Option.getD (Jo.run s.val) s.val).out.getD k default).seq/\True)/\True)/\true=true)/\(Option.isSome (Jo.run s.val)=false->False))
theorem vcJq_eq (b1:Bool) (b2:Bool) (s:{ s:Jo // s.Ok }) (c:Bool):(loopVC Tryz.prog (jqH b1 b2 s.1 (if c then hd s.1.a else hd s.1.b)) 57 7 (fun (s:{ s:Jo // s.Ok })=>s.1.a.length+s.1.b.length) (fun s=>jT s.1) (fun s=>jqM b1 b2 s.1) jX (fun s=>jO s.1) (jqS b1 b2) s)=vcJq b1 b2 s c:=by kernel_rfl
def jqR (s:Jo):T An:=.ret (.tup [.own 0 5 0 s.out.length,.own 1 1 0 s.ta.length,.own 2 1 0 s.tb.length,.s (.int .i64 0)],[towR s.out,rowU s.ta,rowU s.tb],[])
def jqF (a b:List Rec):T An:=.ite (isLog a&&isLog b) (.ite (decide (a.length+b.length<=4096)) (.ite (jo0 a b).run.isSome (jqR ((jo0 a b).run.getD (jo0 a b)).end) (joE 145)) (joE 143)) (joE 1)
noncomputable def jqFH (b1 b2:Bool) (a b:List Rec):HintsT Tryz.prog:=withSh (hh _ (lp1 57 7 (jobOf jT (jqM b1 b2) jX jO (jqS b1 b2) (jo0 a b)) noLp) (cs1 57 1 1 (lgC b1 a) (cs1 57 1 5 (lgC b2 b) noCs)) noOp)
 (sh1 57 5 1 1002 (sh1 57 5 4 1002 (sh1 57 6 0 (1000000+37) noSh)))
def vcJqF_q1 (a:List Rec) (b:List Rec):Prop:=((isLog a&&isLog b)=true->(decide (a.length+b.length<=4096)=true->(Option.isSome (Jo.run (jo0 a b))=true->(False/\False/\False/\(1:Int)=0/\True)/\False)/\(Option.isSome (Jo.run (jo0 a b))=false->(True/\True/\True/\(1:Int)=145/\True)/\True))/\(decide (a.length+b.length<=4096)=false->(True/\True/\True/\(1:Int)=143/\True)/\True))
def vcJqF (b1:Bool) (b2:Bool) (a:List Rec) (b:List Rec):Prop :=
 ((b1=b1/\a.length=a.length/\contLe a.length 5 (cellsOf' encR a) (cellsOf' encR a))/\True)/\True/\a.length<=9223372036854775806/\((!isLog a)=true->(vcJqF_q1 a b)/\((isLog a&&isLog b)=false->(True/\True/\True/\(1:Int)=1/\True)/\True))/\((!isLog a)=false->((b2=b2/\b.length=b.length/\contLe b.length 5 (cellsOf' encR b) (cellsOf' encR b))/\True)/\True/\b.length<=9223372036854775806/\((!isLog b)=true->(vcJqF_q1 a b)/\((isLog a&&isLog b)=false->(True/\True/\True/\(1:Int)=1/\True)/\True))/\((!isLog b)=false->(decide (4096<IntKind.i64.wrap ((a.length:Int)+(b.length:Int)))=true->((isLog a&&isLog b)=true->(decide (a.length+b.length<=4096)=true->(Option.isSome (Jo.run (jo0 a b))=true->(False/\False/\False/\(143:Int)=0/\True)/\False)/\(Option.isSome (Jo.run (jo0 a b))=false->(True/\True/\True/\(143:Int)=145/\True)/\True))/\(decide (a.length+b.length<=4096)=false->(True/\True/\True/\(143:Int)=143/\True)/\True))/\((isLog a&&isLog b)=false->(True/\True/\True/\(143:Int)=1/\True)/\True))/\(decide (4096<IntKind.i64.wrap ((a.length:Int)+(b.length:Int)))=false->(((0=0/\0=0)/\(0=0/\0=0)/\(0=0/\0=0)/\True)/\((0=0/\contLe 0 1 (fun (x x_1:Nat)=>AV.junk) (cellsOf' encU []))/\((b1=b1/\a.length=a.length/\contLe a.length 5 (cellsOf' encR a) (cellsOf' encR a))/\(0=0/\0=0)/\True)/\(0=0/\contLe 0 1 (fun (x x_1:Nat)=>AV.junk) (cellsOf' encU []))/\((b2=b2/\b.length=b.length/\contLe b.length 5 (cellsOf' encR b) (cellsOf' encR b))/\(0=0/\0=0)/\True)/\(0=0/\∀ k,k<0->False/\False/\False/\False/\False/\True)/\True)/\true=true)/\LoopOk Tryz.prog 57 7 (loopAt Tryz.prog 57 7) { t:=jT (jo0 a b),m:=jqM b1 b2 (jo0 a b),mv:=[]:St } (T.map (lout jX (jqS b1 b2)) (jO (jo0 a b)))/\(Option.isSome (Jo.run (jo0 a b))=true->(decide ((Option.getD (Jo.run (jo0 a b)) (jo0 a b)).ta.length=(Option.getD (Jo.run (jo0 a b)) (jo0 a b)).ta.length)&&decide ((Option.getD (Jo.run (jo0 a b)) (jo0 a b)).ta.length+1<=9223372036854775807)&&decide (((Option.getD (Jo.run (jo0 a b)) (jo0 a b)).ta.length+1)*8<=140737488355328))=true/\(decide ((Option.getD (Jo.run (jo0 a b)) (jo0 a b)).tb.length=(Option.getD (Jo.run (jo0 a b)) (jo0 a b)).tb.length)&&decide ((Option.getD (Jo.run (jo0 a b)) (jo0 a b)).tb.length+1<=9223372036854775807)&&decide (((Option.getD (Jo.run (jo0 a b)) (jo0 a b)).tb.length+1)*8<=140737488355328))=true/\((isLog a&&isLog b)=true->(decide (a.length+b.length<=4096)=true->(Option.isSome (Jo.run (jo0 a b))=true->((0=0/\(Option.getD (Jo.run (jo0 a b)) (jo0 a b)).out.length=(Option.getD (Jo.run (jo0 a b)) (jo0 a b)).out.length)/\(0=0/\(Option.getD (Jo.run (jo0 a b)) (jo0 a b)).ta.length+1=((Option.getD (Jo.run (jo0 a b)) (jo0 a b)).ta++[Jo.at (Option.getD (Jo.run (jo0 a b)) (jo0 a b))]).length)/\(0=0/\(Option.getD (Jo.run (jo0 a b)) (jo0 a b)).tb.length+1=((Option.getD (Jo.run (jo0 a b)) (jo0 a b)).tb++[Jo.at (Option.getD (Jo.run (jo0 a b)) (jo0 a b))]).length)/\(0:Int)=0/\True)/\((Option.getD (Jo.run (jo0 a b)) (jo0 a b)).out.length=(Option.getD (Jo.run (jo0 a b)) (jo0 a b)).out.length/\∀ k,k<(Option.getD (Jo.run (jo0 a b)) (jo0 a b)).out.length->((Option.getD (Jo.run (jo0 a b)) (jo0 a b)).out.getD k default).off=((Option.getD (Jo.run (jo0 a b)) (jo0 a b)).out.getD k default).off/\((Option.getD (Jo.run (jo0 a b)) (jo0 a b)).out.getD k default).key=((Option.getD (Jo.run (jo0 a b)) (jo0 a b)).out.getD k default).key/\(((Option.getD (Jo.run (jo0 a b)) (jo0 a b)).out.getD k default).val.length=((Option.getD (Jo.run (jo0 a b)) (jo0 a b)).out.getD k default).val.length/\contLe ((Option.getD (Jo.run (jo0 a b)) (jo0 a b)).out.getD k default).val.length 1 (cellsOf' encB ((Option.getD (Jo.run (jo0 a b)) (jo0 a b)).out.getD k default).val) (cellsOf' encB ((Option.getD (Jo.run (jo0 a b)) (jo0 a b)).out.getD k default).val))/\((Option.getD (Jo.run (jo0 a b)) (jo0 a b)).out.getD k default).prod=((Option.getD (Jo.run (jo0 a b)) (jo0 a b)).out.getD k default).prod/\((Option.getD (Jo.run (jo0 a b)) (jo0 a b)).out.getD k default).seq=((Option.getD (Jo.run (jo0 a b)) (jo0 a b)).out.getD k default).seq/\True)/\((Option.getD (Jo.run (jo0 a b)) (jo0 a b)).ta.length+1=((Option.getD (Jo.run (jo0 a b)) (jo0 a b)).ta++[Jo.at (Option.getD (Jo.run (jo0 a b)) (jo0 a b))]).length/\contLe ((Option.getD (Jo.run (jo0 a b)) (jo0 a b)).ta.length+1) 1 (appRow (Option.getD (Jo.run (jo0 a b)) (jo0 a b)).ta.length (cellsOf' encU (Option.getD (Jo.run (jo0 a b)) (jo0 a b)).ta) fun (k j:Nat)=>Ax.get [AV.y (.int .u64 (IntKind.u64.wrap ((Option.getD (Jo.run (jo0 a b)) (jo0 a b)).out.length:Int)))] (k*1+j)) (cellsOf' encU ((Option.getD (Jo.run (jo0 a b)) (jo0 a b)).ta++[Jo.at (Option.getD (Jo.run (jo0 a b)) (jo0 a b))])))/\((Option.getD (Jo.run (jo0 a b)) (jo0 a b)).tb.length+1=((Option.getD (Jo.run (jo0 a b)) (jo0 a b)).tb++[Jo.at (Option.getD (Jo.run (jo0 a b)) (jo0 a b))]).length/\contLe ((Option.getD (Jo.run (jo0 a b)) (jo0 a b)).tb.length+1) 1 (appRow (Option.getD (Jo.run (jo0 a b)) (jo0 a b)).tb.length (cellsOf' encU (Option.getD (Jo.run (jo0 a b)) (jo0 a b)).tb) fun (k j:Nat)=>Ax.get [AV.y (.int .u64 (IntKind.u64.wrap ((Option.getD (Jo.run (jo0 a b)) (jo0 a b)).out.length:Int)))] (k*1+j)) (cellsOf' encU ((Option.getD (Jo.run (jo0 a b)) (jo0 a b)).tb++[Jo.at (Option.getD (Jo.run (jo0 a b)) (jo0 a b))])))/\True)/\(Option.isSome (Jo.run (jo0 a b))=false->False))/\(decide (a.length+b.length<=4096)=false->False))/\((isLog a&&isLog b)=false->False))/\(Option.isSome (Jo.run (jo0 a b))=false->((isLog a&&isLog b)=true->(decide (a.length+b.length<=4096)=true->(Option.isSome (Jo.run (jo0 a b))=true->(False/\False/\False/\(145:Int)=0/\True)/\False)/\(Option.isSome (Jo.run (jo0 a b))=false->(True/\True/\True/\(145:Int)=145/\True)/\True))/\(decide (a.length+b.length<=4096)=false->(True/\True/\True/\(145:Int)=143/\True)/\True))/\((isLog a&&isLog b)=false->(True/\True/\True/\(145:Int)=1/\True)/\True)))))
theorem vcJqF_eq (b1:Bool) (b2:Bool) (a:List Rec) (b:List Rec):(ctrVC Tryz.prog (jqFH b1 b2 a b) 57 [encRs b1 a,encRs b2 b] [] (jqF a b))=vcJqF b1 b2 a b:=by kernel_rfl
end Go.Proofs.YtckklclehofddaaGreatDoor.H

namespace Go.Proofs.YtckklclehofddaaGreatDoor.H
open Go.Ax Go.Proofs.YtckklclehofddaaGreatDoor
set_option maxRecDepth 1000000
theorem ap_q {α:Type} (l:List α) (x:α) {k:Nat} (hk:k<l.length+1) (hne:¬ k=l.length):(l++[x])[k]? = l[k]?:=List.getElem?_append_left (by omega)
theorem jq_loop (b1 b2:Bool) (s:{ s:Jo // s.Ok }):LoopOk Tryz.prog 57 7 (loopAt Tryz.prog 57 7) ⟨jT s.1,jqM b1 b2 s.1,[]⟩ ((jO s.1).map (lout jX (jqS b1 b2))):=by
 refine loop_vcH (o:=fun (s:{ s:Jo // s.Ok })=>jO s.1) Tryz.mixed (fun _=>rfl) (fun s=>(vcJq_eq b1 b2 s s.1.tA).mpr ?_) s
 unfold vcJq vcJq_q1 vcJq_q2 vcJq_q3
 obtain ⟨s,hs⟩:=s
 have hn:=hs.n
 have hta:=hs.ta
 have htb:=hs.tb
 have hw:IntKind.i64.wrap ((s.a.length:Int)+s.b.length)=(s.a.length:Int)+s.b.length:=wrap_i64 (by omega) (by omega)
 simp only [hdE,hw]
 have hsd:∀ x y:AV,cellLe 2 (fun j=>Ax.get [x,y] (0+j)) (Ax.get [x,.junk]):=side_le
 simp only [hsd]
 rcases Nat.eq_zero_or_pos (s.a.length+s.b.length) with h0 | h0
 · have ha:s.a=[]:=List.length_eq_zero_iff.1 (by omega)
   have hb:s.b=[]:=List.length_eq_zero_iff.1 (by omega)
   simp [run_end h0,ha,hb]
 cases hA:s.tA
 · cases hB:s.tB
   · have hr:=run_no hA hB h0
     have h1:s.a=[]∨lowR s.b (hd s.a)=true:=by unfold Jo.tA at hA;cases ha:s.a<;>simp [ha] at hA ⊢;exact hA
     have h2:s.b=[]∨lowR s.a (hd s.b)=true:=by unfold Jo.tB at hB;cases hb:s.b<;>simp [hb] at hB ⊢;exact hB
     have hz2:(0:Int)<(s.a.length:Int)+s.b.length:=by omega
     rcases Nat.eq_zero_or_pos s.a.length with ha | ha
     · have ha':s.a=[]:=List.length_eq_zero_iff.1 ha
       have hb:0<s.b.length:=by omega
       have hbn:s.b≠[]:=List.ne_nil_of_length_pos hb
       rw [ha'] at h2
       simp [lowR,hbn] at h2
     · have han:s.a≠[]:=List.ne_nil_of_length_pos ha
       have hl:=h1.resolve_left han
       rcases Nat.eq_zero_or_pos s.b.length with hb | hb
       · have hb':s.b=[]:=List.length_eq_zero_iff.1 hb
         rw [hb'] at hl
         simp [lowR] at hl
       · have hbn:s.b≠[]:=List.ne_nil_of_length_pos hb
         have hl2:=h2.resolve_left hbn
         simp [hz2,han,hbn,ha,hb,hl,hl2,hr]
         omega
   · have hne:s.b≠[]:=by unfold Jo.tB at hB;intro e;rw [e] at hB;simp at hB
     have hpos:0<s.b.length:=List.length_pos_iff.2 hne
     have hlow:lowR s.a (hd s.b)=false:=by unfold Jo.tB at hB;simp at hB;exact hB.2
     have h256:(hd s.b).val.length<=256:=hs.b _ (hd_mem hpos)
     have hok:=ok_B hs hB
     have hrun:=run_B hA hB
     have hz:¬ ((s.b.length:Int)=0):=by omega
     have hz1:(1:Int)<=s.b.length:=by omega
     have hz2:(0:Int)<(s.a.length:Int)+s.b.length:=by omega
     have h1:s.a=[]∨lowR s.b (hd s.a)=true:=by unfold Jo.tA at hA;cases ha:s.a<;>simp [ha] at hA ⊢;exact hA
     simp only [Bool.false_eq_true,if_false]
     rcases Nat.eq_zero_or_pos s.a.length with ha | ha
     · have ha':s.a=[]:=List.length_eq_zero_iff.1 ha
       have hla:lowR ([]:List Rec) (hd s.b)=false:=rfl
       simp [hz,hz1,hz2,hlow,hla,hpos,hrun,hne,ha']
       repeat' with_reducible apply And.intro
       all_goals first
        | omega
        | (refine Exists.intro s.goB ?_
           repeat' with_reducible apply And.intro
           all_goals first
            | omega
            | exact contLe_refl _ _ _
            | exact hok
            | (simp [Jo.goB];done)
            | (simp [Jo.goB];omega)
            | exact app1_le1 (le0_refl _)
            | exact tail_le _ _
            | exact fun h1=>⟨fun _=>getD_any _ _ _ h1,fun h2=>by rw [h2] at h1;cases h1⟩
            | (simp only [Jo.goB];intro p hp hne;rw [ap_q _ _ hp hne];simp;done)
            | (simp [Jo.goB,Jo.at,Rec.to];done)
            | (refine ⟨?_,?_,?_⟩<;>first | exact hok | (exact fun h=>h) | (exact fun h1=>⟨fun _=>getD_any _ _ _ h1,fun h2=>by rw [h2] at h1;cases h1⟩)))
     · have han:s.a≠[]:=List.ne_nil_of_length_pos ha
       have hl:=h1.resolve_left han
       simp [hz,hz1,hz2,hlow,hpos,hrun,hne,han,ha,hl]
       repeat' with_reducible apply And.intro
       all_goals first
        | omega
        | (refine Exists.intro s.goB ?_
           repeat' with_reducible apply And.intro
           all_goals first
            | omega
            | exact contLe_refl _ _ _
            | exact hok
            | (simp [Jo.goB];done)
            | (simp [Jo.goB];omega)
            | exact app1_le1 (le0_refl _)
            | exact tail_le _ _
            | exact fun h1=>⟨fun _=>getD_any _ _ _ h1,fun h2=>by rw [h2] at h1;cases h1⟩
            | (simp only [Jo.goB];intro p hp hne;rw [ap_q _ _ hp hne];simp;done)
            | (simp [Jo.goB,Jo.at,Rec.to];done)
            | (refine ⟨?_,?_,?_⟩<;>first | exact hok | (exact fun h=>h) | (exact fun h1=>⟨fun _=>getD_any _ _ _ h1,fun h2=>by rw [h2] at h1;cases h1⟩)))
 · have hne:s.a≠[]:=by unfold Jo.tA at hA;intro e;rw [e] at hA;simp at hA
   have hpos:0<s.a.length:=List.length_pos_iff.2 hne
   have hlow:lowR s.b (hd s.a)=false:=by unfold Jo.tA at hA;simp at hA;exact hA.2
   have h256:(hd s.a).val.length<=256:=hs.a _ (hd_mem hpos)
   have hok:=ok_A hs hA
   have hrun:=run_A hA
   have hz:¬ ((s.a.length:Int)=0):=by omega
   have hz1:(1:Int)<=s.a.length:=by omega
   have hz2:(0:Int)<(s.a.length:Int)+s.b.length:=by omega
   simp [hz,hz1,hz2,hlow,hpos,hrun,hne]
   repeat' with_reducible apply And.intro
   all_goals first
    | omega
    | (refine Exists.intro s.goA ?_
       repeat' with_reducible apply And.intro
       all_goals first
        | omega
        | exact contLe_refl _ _ _
        | exact hok
        | (simp [Jo.goA];done)
        | (simp [Jo.goA];omega)
        | exact app1_le1 (le0_refl _)
        | exact tail_le _ _
        | exact fun h1=>⟨fun _=>getD_any _ _ _ h1,fun h2=>by rw [h2] at h1;cases h1⟩
        | (simp only [Jo.goA];intro p hp hne;rw [ap_q _ _ hp hne];simp;done)
        | (simp [Jo.goA,Jo.at,Rec.to];done)
        | (refine ⟨?_,?_,?_⟩<;>first | exact hok | (exact fun h=>h) | (exact fun h1=>⟨fun _=>getD_any _ _ _ h1,fun h2=>by rw [h2] at h1;cases h1⟩)))
theorem jqF_c (b1 b2:Bool) (a b:List Rec) (h1:a.length<=4611686018427387903) (h2:b.length<=4611686018427387903):(jqF a b).Sat (ACall' Tryz.prog 57 [encRs b1 a,encRs b2 b] []):=by
 refine ctr_vc (ht:=jqFH b1 b2 a b) Tryz.mixed rfl ?_
 rw [vcJqF_eq b1 b2 a b]
 unfold vcJqF vcJqF_q1
 have hw:IntKind.i64.wrap ((a.length:Int)+b.length)=(a.length:Int)+b.length:=wrap_i64 (by omega) (by omega)
 simp only [hw]
 cases ha:isLog a
 · simp;omega
 · cases hb:isLog b
   · simp;omega
   · by_cases hn:a.length+b.length<=4096
     · have hok:=log_ok ha hb hn
       have lp:=jq_loop b1 b2 ⟨_,hok⟩
       have hn2:¬ ((4096:Int)<(a.length:Int)+b.length):=by omega
       cases hr:(jo0 a b).run with
       | none => 
         simp [hn,hn2,lp,hr]
         omega
       | some r =>
         simp [hn,hn2,lp,hr]
         exact fin_ok hok hr h1 h2
     · have hn2:(4096:Int)<(a.length:Int)+b.length:=by omega
       simp [hn,hn2]
       omega
end Go.Proofs.YtckklclehofddaaGreatDoor.H

namespace Go.Proofs.YtckklclehofddaaGreatDoor.Q
open Go.Ax Go.Proofs.YtckklclehofddaaGreatDoor Go.Proofs.YtckklclehofddaaGreatDoor.H Go.Proofs.YtckklclehofddaaGreatDoor.D
set_option maxRecDepth 1000000
def rowPr (l:List P.Producer):Blk:=.row 39 4 l.length none (cellsOf' P.encP l)
def ptW (p:Part) (i j k:Nat):List AV:=[.y (.string p.rng.lo),.y (.string p.rng.hi),.y (.int .u64 p.epoch),.y (.int .u64 p.frozen),.own i 5 0 p.recs.length,.own j 4 0 p.prods.length,.own k 2 0 p.cons.length]
def ptM (p:Part):List Blk:=[towR p.recs,rowPr p.prods,rowC p.cons]
def ptF (p:Part):List AV:=[.y (.string p.rng.lo),.y (.string p.rng.hi),.y (.int .u64 p.epoch),.y (.int .u64 p.frozen),encFs false p.recs,P.encPs false p.prods,encCs false p.cons]
end Go.Proofs.YtckklclehofddaaGreatDoor.Q

namespace Go.Proofs.YtckklclehofddaaGreatDoor.Q
open Go.Ax Go.Proofs.YtckklclehofddaaGreatDoor Go.Proofs.YtckklclehofddaaGreatDoor.H
set_option maxRecDepth 1000000
def ptX (b:Bool) (p:Part):List AV:=[.y (.string p.rng.lo),.y (.string p.rng.hi),.y (.int .u64 p.epoch),.y (.int .u64 p.frozen),encFs b p.recs,P.encPs b p.prods,encCs b p.cons]
theorem trV_at (x:Rec) (j:Nat) (hj:j<5):trV (trRec x j)=Ax.get (encF x) j:=by
 match j,hj with
 | 0,_=>rfl
 | 1,_=>rfl
 | 2,_=>rfl
 | 3,_=>rfl
 | 4,_=>rfl
theorem trV_le (l:List Rec) (n:Nat):contLe n 5 (fun k j=>trV (trRs l k j)) (cellsOf' encF l):=by
 intro k _ j hj
 show le0 (trV (trRec (l.getD k default) j)) (Ax.get (encF (l.getD k default)) j)
 rw [trV_at _ j hj]
 exact le0_refl _
def lgTX (b:Bool) (l:List Rec) (k:Nat):List AV:=mkT 33 [(0,encFs b l),(2,.s (.bool false)),(5,encFs b l),(6,.y (.int .i64 l.length)),(7,.y (.int .i64 k))]
def lgSX (b:Bool) (l:List Rec) (r:Bool):Exit×List AV×List Blk:=match r with
 | true=>(.exit 0,mkT 33 [(0,encFs b l)],[])
 | false=>(.ret,mkT 33 [(2,.s (.bool false))],[])
def vcLgLX (b:Bool) (l:List Rec) (k:Nat):Prop :=
 (decide ((k:Int)<(l.length:Int))=true->(true&&decide ((k:Int)<(l.length:Int)))=true/\(((l.getD (Int.toNat (k:Int)) default).off != IntKind.u64.wrap (k:Int))=true->(logFrom l k=true->False)/\(logFrom l k=false->(false=false/\True)/\True/\true=true))/\(((l.getD (Int.toNat (k:Int)) default).off != IntKind.u64.wrap (k:Int))=false->(decide (32<((ByteArray.size (l.getD (Int.toNat (k:Int)) default).key):Int))=true->(logFrom l k=true->False)/\(logFrom l k=false->(false=false/\True)/\True/\true=true))/\(decide (32<((ByteArray.size (l.getD (Int.toNat (k:Int)) default).key):Int))=false->(decide (256<((l.getD (Int.toNat (k:Int)) default).val.length:Int))=true->(logFrom l k=true->False)/\(logFrom l k=false->(false=false/\True)/\True/\true=true))/\(decide (256<((l.getD (Int.toNat (k:Int)) default).val.length:Int))=false->∃ j:Nat,l.length - j<l.length - k/\(((b=b/\l.length=l.length/\contLe l.length 5 (cellsOf' encF l) (cellsOf' encF l))/\false=false/\(b=b/\l.length=l.length/\contLe l.length 5 (cellsOf' encF l) (cellsOf' encF l))/\(l.length:Int)=(l.length:Int)/\IntKind.i64.wrap ((k:Int)+1)=(j:Int)/\True)/\True/\true=true)/\true=true/\(logFrom l j=true->(logFrom l k=true->true=true)/\(logFrom l k=false->true=false))/\(logFrom l j=false->(logFrom l k=true->false=true)/\(logFrom l k=false->false=false))))))/\(decide ((k:Int)<(l.length:Int))=false->(logFrom l k=true->((b=b/\l.length=l.length/\contLe l.length 5 (cellsOf' encF l) (cellsOf' encF l))/\True)/\True/\true=true)/\(logFrom l k=false->False))
theorem vcLgLX_eq (b:Bool) (l:List Rec) (k:Nat):(loopVC Tryz.prog (hT _) 42 2 (fun k=>l.length - k) (lgTX b l) (fun _=>[]) [0] (lgO l) (lgSX b l) k)=vcLgLX b l k:=by kernel_rfl
noncomputable def lgHX (b:Bool) (l:List Rec):HintsT Tryz.prog:=hh _ (lp1 42 2 (jobOf (lgTX b l) (fun _=>[]) [0] (lgO l) (lgSX b l) 0) noLp) noCs noOp
def vcLgX (b:Bool) (l:List Rec):Prop :=
 (((b=b/\l.length=l.length/\contLe l.length 5 (cellsOf' encF l) (cellsOf' encF l))/\false=false/\(b=b/\l.length=l.length/\contLe l.length 5 (cellsOf' encF l) (cellsOf' encF l))/\(l.length:Int)=(l.length:Int)/\(0:Int)=0/\True)/\True/\true=true)/\LoopOk Tryz.prog 42 2 (loopAt Tryz.prog 42 2) { t:=lgTX b l 0,m:=[],mv:=[]:St } (T.map (lout [0] (lgSX b l)) (lgO l 0))/\(logFrom l 0=true->decide ((l.length:Int)<=4096)=isLog l/\True)/\(logFrom l 0=false->false=isLog l/\True)
theorem vcLgX_eq (b:Bool) (l:List Rec):(ctrVC Tryz.prog (lgHX b l) 42 [encFs b l] [] (boolR (isLog l)))=vcLgX b l:=by kernel_rfl
theorem lg_loopX (b:Bool) (l:List Rec) (hl:l.length<=9223372036854775806) (k:Nat):LoopOk Tryz.prog 42 2 (loopAt Tryz.prog 42 2) ⟨lgTX b l k,[],[]⟩ ((lgO l k).map (lout [0] (lgSX b l))):=by
 refine loop_vc Tryz.mixed (fun _=>rfl) (fun k=>(vcLgLX_eq b l k).mpr ?_) k
 unfold vcLgLX
 simp
 refine ⟨fun h=>?_,fun h=>by simp [logFrom_end h]⟩
 rw [logFrom_step h]
 simp (disch:=omega) only [wrap_i64]
 simp [okR,cast_succ_eq]
 generalize l[k]?.getD default=x
 grind
theorem lg_cX (b:Bool) (l:List Rec) (hl:l.length<=9223372036854775806):(boolR (isLog l)).Sat (ACall' Tryz.prog 42 [encFs b l] []):=by
 refine ctr_vc (ht:=lgHX b l) Tryz.mixed rfl ?_
 rw [vcLgX_eq b l]
 unfold vcLgX
 have:=lg_loopX b l hl 0
 simp [this,isLog]
 grind
noncomputable def lgCX (b:Bool) (l:List Rec):Ctr Tryz.prog:=⟨42,[encFs b l],[],.need (l.length<=9223372036854775806) (boolR (isLog l)),T.Sat.need fun h=>lg_cX b l h⟩
def orM1X (b:Bool) (p:Part) (s:Kn):List Blk:=[.box 30 (ptX b p),mapB s]
def orT1X (b:Bool) (p:Part) (k:Nat):List AV:=mkT 61 [(1,.ptr 0 0 0 0),(3,.mref 1),(11,P.encPs b p.prods),(12,.y (.int .i64 p.prods.length)),(13,.y (.int .i64 k))]
def orS1X (b:Bool) (p:Part) (_:Unit):Exit×List AV×List Blk:=(.exit 0,mkT 61 [(1,.ptr 0 0 0 0),(3,.mref 1)],orM1X b p (knP p.prods))
def vcOr1X (b:Bool) (p:Part) (k:Nat):Prop :=
 (decide ((k:Int)<(p.prods.length:Int))=true->(true&&decide ((k:Int)<(p.prods.length:Int)))=true/\∃ j:Nat,p.prods.length - j<p.prods.length - k/\(((0=0/\0=0)/\True/\(b=b/\p.prods.length=p.prods.length/\contLe p.prods.length 4 (cellsOf' P.encP p.prods) (cellsOf' P.encP p.prods))/\(p.prods.length:Int)=(p.prods.length:Int)/\IntKind.i64.wrap ((k:Int)+1)=(j:Int)/\True)/\((p.rng.lo=p.rng.lo/\p.rng.hi=p.rng.hi/\p.epoch=p.epoch/\p.frozen=p.frozen/\(b=b/\p.recs.length=p.recs.length/\contLe p.recs.length 5 (cellsOf' encF p.recs) (cellsOf' encF p.recs))/\(b=b/\p.prods.length=p.prods.length/\contLe p.prods.length 4 (cellsOf' P.encP p.prods) (cellsOf' P.encP p.prods))/\(b=b/\p.cons.length=p.cons.length/\contLe p.cons.length 2 (cellsOf' encC p.cons) (cellsOf' encC p.cons))/\True)/\(IntKind.u64=IntKind.u64/\IntKind.u64=IntKind.u64/\∀ (x:Int),updHas (knP (List.take k p.prods)).fst (p.prods.getD (Int.toNat (k:Int)) default).id x=(knP (List.take j p.prods)).fst x/\(updHas (knP (List.take k p.prods)).fst (p.prods.getD (Int.toNat (k:Int)) default).id x=true->updC (knP (List.take k p.prods)).snd (p.prods.getD (Int.toNat (k:Int)) default).id (p.prods.getD (Int.toNat (k:Int)) default).seq x=(knP (List.take j p.prods)).snd x))/\True)/\true=true)/\true=true/\()=())/\(decide ((k:Int)<(p.prods.length:Int))=false->((0=0/\0=0)/\True/\True)/\((p.rng.lo=p.rng.lo/\p.rng.hi=p.rng.hi/\p.epoch=p.epoch/\p.frozen=p.frozen/\(b=b/\p.recs.length=p.recs.length/\contLe p.recs.length 5 (cellsOf' encF p.recs) (cellsOf' encF p.recs))/\(b=b/\p.prods.length=p.prods.length/\contLe p.prods.length 4 (cellsOf' P.encP p.prods) (cellsOf' P.encP p.prods))/\(b=b/\p.cons.length=p.cons.length/\contLe p.cons.length 2 (cellsOf' encC p.cons) (cellsOf' encC p.cons))/\True)/\(IntKind.u64=IntKind.u64/\IntKind.u64=IntKind.u64/\∀ (x:Int),(knP (List.take k p.prods)).fst x=(knP p.prods).fst x/\((knP (List.take k p.prods)).fst x=true->(knP (List.take k p.prods)).snd x=(knP p.prods).snd x))/\True)/\true=true)
theorem vcOr1X_eq (b:Bool) (p:Part) (k:Nat):(loopVC Tryz.prog (hT _) 45 3 (fun k=>p.prods.length - k) (orT1X b p) (fun k=>orM1X b p (knP (p.prods.take k))) jX9 (fun _=>.ret ()) (orS1X b p) k)=vcOr1X b p k:=by kernel_rfl
def orM2X (b:Bool) (p:Part) (k:Nat):List Blk:=[.box 30 (ptX b p),mapB (knP p.prods),mapB (knR (p.recs.take k))]
def orT2X (b:Bool) (p:Part) (k:Nat):List AV:=mkT 61 [(1,.ptr 0 0 0 0),(3,.mref 1),(6,.mref 2),(25,encFs b p.recs),(26,.y (.int .i64 p.recs.length)),(27,.y (.int .i64 k))]
noncomputable def orH2X (p:Part) (k:Nat):HintsT Tryz.prog:=hh _ noLp (cs1 45 11 4 (hasC p.rng (p.recs.getD k default).key) noCs) noOp
def vcOr2X (b:Bool) (p:Part) (k:Nat):Prop :=
 (decide ((k:Int)<(p.recs.length:Int))=true->(true&&decide ((k:Int)<(p.recs.length:Int)))=true/\((p.rng.lo=p.rng.lo/\p.rng.hi=p.rng.hi/\True)/\(p.recs.getD (Int.toNat (k:Int)) default).key=(p.recs.getD k default).key/\True)/\True/\((!hasK p.rng (p.recs.getD k default).key)=true->(orFrom p k=true->False)/\(orFrom p k=false->(false=false/\True)/\True/\true=true))/\((!hasK p.rng (p.recs.getD k default).key)=false->(decide ((p.recs.getD (Int.toNat (k:Int)) default).seq<=selI ((knR (List.take k p.recs)).fst (p.recs.getD (Int.toNat (k:Int)) default).prod) ((knR (List.take k p.recs)).snd (p.recs.getD (Int.toNat (k:Int)) default).prod))=true->(orFrom p k=true->False)/\(orFrom p k=false->(false=false/\True)/\True/\true=true))/\(decide ((p.recs.getD (Int.toNat (k:Int)) default).seq<=selI ((knR (List.take k p.recs)).fst (p.recs.getD (Int.toNat (k:Int)) default).prod) ((knR (List.take k p.recs)).snd (p.recs.getD (Int.toNat (k:Int)) default).prod))=false->(decide (selI ((knP p.prods).fst (p.recs.getD (Int.toNat (k:Int)) default).prod) ((knP p.prods).snd (p.recs.getD (Int.toNat (k:Int)) default).prod)<(p.recs.getD (Int.toNat (k:Int)) default).seq)=true->(orFrom p k=true->False)/\(orFrom p k=false->(false=false/\True)/\True/\true=true))/\(decide (selI ((knP p.prods).fst (p.recs.getD (Int.toNat (k:Int)) default).prod) ((knP p.prods).snd (p.recs.getD (Int.toNat (k:Int)) default).prod)<(p.recs.getD (Int.toNat (k:Int)) default).seq)=false->∃ j:Nat,p.recs.length - j<p.recs.length - k/\(((0=0/\0=0)/\True/\True/\(b=b/\p.recs.length=p.recs.length/\contLe p.recs.length 5 (cellsOf' encF p.recs) (cellsOf' encF p.recs))/\(p.recs.length:Int)=(p.recs.length:Int)/\IntKind.i64.wrap ((k:Int)+1)=(j:Int)/\True)/\((p.rng.lo=p.rng.lo/\p.rng.hi=p.rng.hi/\p.epoch=p.epoch/\p.frozen=p.frozen/\(b=b/\p.recs.length=p.recs.length/\contLe p.recs.length 5 (cellsOf' encF p.recs) (cellsOf' encF p.recs))/\(b=b/\p.prods.length=p.prods.length/\contLe p.prods.length 4 (cellsOf' P.encP p.prods) (cellsOf' P.encP p.prods))/\(b=b/\p.cons.length=p.cons.length/\contLe p.cons.length 2 (cellsOf' encC p.cons) (cellsOf' encC p.cons))/\True)/\(IntKind.u64=IntKind.u64/\IntKind.u64=IntKind.u64/\∀ (x:Int),(knP p.prods).fst x=(knP p.prods).fst x/\((knP p.prods).fst x=true->(knP p.prods).snd x=(knP p.prods).snd x))/\(IntKind.u64=IntKind.u64/\IntKind.u64=IntKind.u64/\∀ (x:Int),updHas (knR (List.take k p.recs)).fst (p.recs.getD (Int.toNat (k:Int)) default).prod x=(knR (List.take j p.recs)).fst x/\(updHas (knR (List.take k p.recs)).fst (p.recs.getD (Int.toNat (k:Int)) default).prod x=true->updC (knR (List.take k p.recs)).snd (p.recs.getD (Int.toNat (k:Int)) default).prod (p.recs.getD (Int.toNat (k:Int)) default).seq x=(knR (List.take j p.recs)).snd x))/\True)/\true=true)/\true=true/\(orFrom p j=true->(orFrom p k=true->true=true)/\(orFrom p k=false->true=false))/\(orFrom p j=false->(orFrom p k=true->false=true)/\(orFrom p k=false->false=false))))))/\(decide ((k:Int)<(p.recs.length:Int))=false->(orFrom p k=true->True/\True/\true=true)/\(orFrom p k=false->False))
theorem vcOr2X_eq (b:Bool) (p:Part) (k:Nat):(loopVC Tryz.prog (orH2X p k) 45 9 (fun k=>p.recs.length - k) (orT2X b p) (orM2X b p) jX9 (orO p) orS2 k)=vcOr2X b p k:=by kernel_rfl
noncomputable def orHX (b:Bool) (p:Part):HintsT Tryz.prog:=hh _ (lp1 45 3 (jobOf (orT1X b p) (fun k=>orM1X b p (knP (p.prods.take k))) jX9 (fun _=>.ret ()) (orS1X b p) 0) (lp1 45 9 (jobOf (orT2X b p) (orM2X b p) jX9 (orO p) orS2 0) noLp)) noCs noOp
def vcOrX (b:Bool) (p:Part):Prop :=
 (((0=0/\0=0)/\True/\(b=b/\p.prods.length=p.prods.length/\contLe p.prods.length 4 (cellsOf' P.encP p.prods) (cellsOf' P.encP p.prods))/\(p.prods.length:Int)=(p.prods.length:Int)/\(0:Int)=0/\True)/\((p.rng.lo=p.rng.lo/\p.rng.hi=p.rng.hi/\p.epoch=p.epoch/\p.frozen=p.frozen/\(b=b/\p.recs.length=p.recs.length/\contLe p.recs.length 5 (cellsOf' encF p.recs) (cellsOf' encF p.recs))/\(b=b/\p.prods.length=p.prods.length/\contLe p.prods.length 4 (cellsOf' P.encP p.prods) (cellsOf' P.encP p.prods))/\(b=b/\p.cons.length=p.cons.length/\contLe p.cons.length 2 (cellsOf' encC p.cons) (cellsOf' encC p.cons))/\True)/\(∀ (x:Int),false=false)/\True)/\true=true)/\LoopOk Tryz.prog 45 3 (loopAt Tryz.prog 45 3) { t:=orT1X b p 0,m:=orM1X b p (knP (List.take 0 p.prods)),mv:=[]:St } (T.map (lout jX9 (orS1X b p)) ((fun (x:Nat)=>T.ret ()) 0))/\(((0=0/\0=0)/\True/\True/\(b=b/\p.recs.length=p.recs.length/\contLe p.recs.length 5 (cellsOf' encF p.recs) (cellsOf' encF p.recs))/\(p.recs.length:Int)=(p.recs.length:Int)/\(0:Int)=0/\True)/\((p.rng.lo=p.rng.lo/\p.rng.hi=p.rng.hi/\p.epoch=p.epoch/\p.frozen=p.frozen/\(b=b/\p.recs.length=p.recs.length/\contLe p.recs.length 5 (cellsOf' encF p.recs) (cellsOf' encF p.recs))/\(b=b/\p.prods.length=p.prods.length/\contLe p.prods.length 4 (cellsOf' P.encP p.prods) (cellsOf' P.encP p.prods))/\(b=b/\p.cons.length=p.cons.length/\contLe p.cons.length 2 (cellsOf' encC p.cons) (cellsOf' encC p.cons))/\True)/\(IntKind.u64=IntKind.u64/\IntKind.u64=IntKind.u64/\∀ (x:Int),(knP p.prods).fst x=(knP p.prods).fst x/\((knP p.prods).fst x=true->(knP p.prods).snd x=(knP p.prods).snd x))/\(∀ (x:Int),false=false)/\True)/\true=true)/\LoopOk Tryz.prog 45 9 (loopAt Tryz.prog 45 9) { t:=orT2X b p 0,m:=orM2X b p 0,mv:=[]:St } (T.map (lout jX9 orS2) (orO p 0))/\(orFrom p 0=true->true=orFrom p 0/\True)/\(orFrom p 0=false->false=orFrom p 0/\True)
theorem vcOrX_eq (b:Bool) (p:Part):(ctrVC Tryz.prog (orHX b p) 45 [.agg (ptX b p)] [] (boolR (orFrom p 0)))=vcOrX b p:=by kernel_rfl
theorem or1_loopX (b:Bool) (p:Part) (hl:p.prods.length<=9223372036854775806) (k:Nat):LoopOk Tryz.prog 45 3 (loopAt Tryz.prog 45 3) ⟨orT1X b p k,orM1X b p (knP (p.prods.take k)),[]⟩ (T.map (lout jX9 (orS1X b p)) (.ret ())):=by
 refine loop_vc (o:=fun _=>.ret ()) (stT:=fun k=>orT1X b p k) (stM:=fun k=>orM1X b p (knP (p.prods.take k))) Tryz.mixed (fun _=>rfl) (fun k=>(vcOr1X_eq b p k).mpr ?_) k
 unfold vcOr1X
 by_cases h:k<p.prods.length
 · have hw:IntKind.i64.wrap ((k:Int)+1)=((k+1:Nat):Int):=by rw [wrap_i64 (by omega) (by omega)];omega
   have hs:=knP_step h
   have hz:decide ((k:Int)<p.prods.length)=true:=by simp;omega
   rw [Int.toNat_natCast]
   simp only [hz]
   generalize p.prods.getD k default=x at *
   generalize knP (p.prods.take k)=s at *
   simp
   refine Exists.intro (k+1) ?_
   rw [hs]
   refine ⟨by omega,hw,fun y=>⟨rfl,fun _=>rfl⟩⟩
 · have hz:decide ((k:Int)<p.prods.length)=false:=by simp;omega
   rw [List.take_of_length_le (by omega)]
   simp [hz]
   exact fun e=>absurd e h
theorem or2_loopX (b:Bool) (p:Part) (hl:p.recs.length<=9223372036854775806) (k:Nat):LoopOk Tryz.prog 45 9 (loopAt Tryz.prog 45 9) ⟨orT2X b p k,orM2X b p k,[]⟩ ((orO p k).map (lout jX9 orS2)):=by
 refine loop_vcH (o:=orO p) (stT:=orT2X b p) (stM:=orM2X b p) Tryz.mixed (fun _=>rfl) (fun k=>(vcOr2X_eq b p k).mpr ?_) k
 unfold vcOr2X
 by_cases h:k<p.recs.length
 · have hw:IntKind.i64.wrap ((k:Int)+1)=((k+1:Nat):Int):=by rw [wrap_i64 (by omega) (by omega)];omega
   have hs:=knR_step h
   have hf:=orFrom_step h
   have hz:decide ((k:Int)<p.recs.length)=true:=by simp;omega
   have ho:okO p k=(hasK p.rng (p.recs.getD k default).key&&(!decide ((p.recs.getD k default).seq<=(knR (p.recs.take k)).sel (p.recs.getD k default).prod)&&!decide ((knP p.prods).sel (p.recs.getD k default).prod<(p.recs.getD k default).seq))):=rfl
   rw [Int.toNat_natCast]
   simp only [hz,hf,ho]
   generalize p.recs.getD k default=x at *
   generalize knR (p.recs.take k)=s at *
   cases h1:hasK p.rng x.key
   · simp
   · by_cases h2:x.seq<=s.sel x.prod
     · simp [h2]
     · by_cases h3:(knP p.prods).sel x.prod<x.seq
       · simp [h2,h3]
       · simp [h2,h3]
         refine Exists.intro (k+1) ?_
         rw [hs]
         refine ⟨by omega,⟨hw,fun y=>⟨rfl,fun _=>rfl⟩⟩,?_⟩
         cases orFrom p (k+1)<;>simp
 · have hz:decide ((k:Int)<p.recs.length)=false:=by simp;omega
   simp only [hz,orFrom_end (p:=p) (k:=k) (by omega)]
   simp
theorem or_cX (b:Bool) (p:Part) (h1:p.prods.length<=9223372036854775806) (h2:p.recs.length<=9223372036854775806):(boolR (orFrom p 0)).Sat (ACall' Tryz.prog 45 [.agg (ptX b p)] []):=by
 refine ctr_vc (ht:=orHX b p) Tryz.mixed rfl ?_
 rw [vcOrX_eq b p]
 unfold vcOrX
 have l1:=or1_loopX b p h1 0
 have l2:=or2_loopX b p h2 0
 rw [List.take_zero] at l1
 simp [l1,l2]
noncomputable def orCX (b:Bool) (p:Part):Ctr Tryz.prog:=⟨45,[.agg (ptX b p)],[],.need (p.prods.length<=9223372036854775806/\p.recs.length<=9223372036854775806) (boolR (orFrom p 0)),T.Sat.need fun h=>or_cX b p h.1 h.2⟩
def lostEX (b:Bool) (p:Part):List AV:=[.ip false 1 (get [.y (.int .u64 (IntKind.u64.wrap p.recs.length))]),.ip false 7 (get (ptX b p))]
def vcLostX (b:Bool) (p:Part) (x:P.Producer):Prop :=
 (x.here=true->(decide (IntKind.u64.wrap (p.recs.length:Int)<=x.offset)=true->true=lostB p x/\True)/\(decide (IntKind.u64.wrap (p.recs.length:Int)<=x.offset)=false->(decide (0<=x.offset)&&decide (x.offset<(p.recs.length:Int)))=true/\(((p.recs.getD (Int.toNat x.offset) default).prod != x.id)=true->true=lostB p x/\True)/\(((p.recs.getD (Int.toNat x.offset) default).prod != x.id)=false->(decide (0<=x.offset)&&decide (x.offset<(p.recs.length:Int)))=true/\((p.recs.getD (Int.toNat x.offset) default).seq != x.seq)=lostB p x/\True)))/\(x.here=false->false=lostB p x/\True)
theorem vcLostX_eq (b:Bool) (p:Part) (x:P.Producer):(ctrVC Tryz.prog (hT _) 39 ([.agg (P.encP x)]++lostEX b p) [] (boolR (lostB p x)))=vcLostX b p x:=by kernel_rfl
theorem lost_cX (b:Bool) (p:Part) (x:P.Producer) (h1:p.recs.length<=9223372036854775806) (h2:0<=x.offset):(boolR (lostB p x)).Sat (ACall' Tryz.prog 39 ([.agg (P.encP x)]++lostEX b p) []):=by
 refine ctr_vc (ht:=hT _) Tryz.mixed rfl ?_
 rw [vcLostX_eq b p x]
 unfold vcLostX
 have hw:IntKind.u64.wrap (p.recs.length:Int)=p.recs.length:=wrap_u64 (by omega) (by omega)
 simp only [hw]
 unfold lostB
 generalize p.recs.getD x.offset.toNat default=y
 cases hh:x.here
 · simp
 · by_cases h3:(p.recs.length:Int)<=x.offset
   · simp [h3]
   · have h4:x.offset<p.recs.length:=by omega
     by_cases h5:y.prod=x.id<;>by_cases h6:y.seq=x.seq<;>simp [h3,h4,h2,h5,h6]
def lxFn (b:Bool) (p:Part):AV:=.fn (.func 39) [] (lostEX b p)
def lxAny (b:Bool) (p:Part) (l:List P.Producer):Bool:=l.any (lostB p)
theorem lxAny_nil (b:Bool) (p:Part):lxAny b p []=false:=rfl
theorem lxAny_cons (b:Bool) (p:Part) (y:P.Producer) (l:List P.Producer):lxAny b p (y::l)=(lostB p y||lxAny b p l):=rfl
noncomputable def lxC (b:Bool) (p:Part) (x:P.Producer):Ctr Tryz.prog:=⟨39,[.agg (P.encP x)]++(lostEX b p),[],.need (p.recs.length<=9223372036854775806/\0<=x.offset) (boolR (lostB p x)),T.Sat.need fun h=>lost_cX b p x h.1 h.2⟩
def lxT (b:Bool) (p:Part) (bb:Bool) (l:List P.Producer) (k:Nat):List AV:=mkT 19 [(0,.ys bb 4 l.length (cellsOf' P.encP l)),(1,lxFn b p),(4,.s (.int .i64 0)),(7,.y (.int .i64 l.length)),(8,.y (.int .i64 k))]
def lxS (r:Bool×Nat):Exit×List AV×List Blk:=match r.1 with
 | true=>(.ret,mkT 19 [(4,.y (.int .i64 r.2))],[])
 | false=>(.exit 0,mkT 19 [],[])
def lxO (b:Bool) (p:Part) (l:List P.Producer) (k:Nat):T (Bool×Nat):=.ite (lxAny b p (l.drop k)) (.ret (true,k+(l.drop k).findIdx (lostB p))) (.ret (false,0))
noncomputable def lxHL (b:Bool) (p:Part) (l:List P.Producer) (k:Nat):HintsT Tryz.prog:=hh _ noLp (cs1 79 4 5 (lxC b p (l.getD k default)) noCs) noOp
def vclxL (b:Bool) (p:Part) (bb:Bool) (l:List P.Producer) (k:Nat):Prop :=
 (decide ((↑k:Int)<(↑(List.length l):Int))=true->(true&&decide ((↑k:Int)<(↑(List.length l):Int)))=true/\(((List.getD l (Int.toNat (↑k:Int)) (@default P.Producer P.instInhabitedProducer)).id=(List.getD l k (@default P.Producer P.instInhabitedProducer)).id/\(List.getD l (Int.toNat (↑k:Int)) (@default P.Producer P.instInhabitedProducer)).seq=(List.getD l k (@default P.Producer P.instInhabitedProducer)).seq/\(List.getD l (Int.toNat (↑k:Int)) (@default P.Producer P.instInhabitedProducer)).here=(List.getD l k (@default P.Producer P.instInhabitedProducer)).here/\(List.getD l (Int.toNat (↑k:Int)) (@default P.Producer P.instInhabitedProducer)).offset=(List.getD l k (@default P.Producer P.instInhabitedProducer)).offset/\True)/\(false=false/\(1:Nat)<=(1:Nat)/\cellLe (1:Nat) (Ax.get [AV.y (Value.int IntKind.u64 (IntKind.wrap IntKind.u64 (↑(List.length p.recs):Int)))]) (Ax.get [AV.y (Value.int IntKind.u64 (IntKind.wrap IntKind.u64 (↑(List.length p.recs):Int)))]))/\(false=false/\(7:Nat)<=(7:Nat)/\cellLe (7:Nat) (Ax.get [AV.y (Value.string p.rng.lo),AV.y (Value.string p.rng.hi),AV.y (Value.int IntKind.u64 p.epoch),AV.y (Value.int IntKind.u64 p.frozen),AV.ys b (5:Nat) (List.length p.recs) (cellsOf' encF p.recs),AV.ys b (4:Nat) (List.length p.prods) (cellsOf' P.encP p.prods),AV.ys b (2:Nat) (List.length p.cons) (cellsOf' encC p.cons)]) (Ax.get [AV.y (Value.string p.rng.lo),AV.y (Value.string p.rng.hi),AV.y (Value.int IntKind.u64 p.epoch),AV.y (Value.int IntKind.u64 p.frozen),AV.ys b (5:Nat) (List.length p.recs) (cellsOf' encF p.recs),AV.ys b (4:Nat) (List.length p.prods) (cellsOf' P.encP p.prods),AV.ys b (2:Nat) (List.length p.cons) (cellsOf' encC p.cons)]))/\True)/\True/\(List.length p.recs<=(9223372036854775806:Nat)/\(0:Int)<=(List.getD l k (@default P.Producer P.instInhabitedProducer)).offset)/\(lostB p (List.getD l k (@default P.Producer P.instInhabitedProducer))=true->(lxAny b p (List.drop k l)=true->((↑k:Int)=(↑(k+List.findIdx (lostB p) (List.drop k l)):Int)/\True)/\True/\true=true)/\(lxAny b p (List.drop k l)=false->False))/\(lostB p (List.getD l k (@default P.Producer P.instInhabitedProducer))=false->∃ (j:Nat),List.length l - j<List.length l - k/\(((bb=bb/\List.length l=List.length l/\contLe (List.length l) (4:Nat) (cellsOf' P.encP l) (cellsOf' P.encP l))/\(True/\(false=false/\(1:Nat)<=(1:Nat)/\cellLe (1:Nat) (Ax.get [AV.y (Value.int IntKind.u64 (IntKind.wrap IntKind.u64 (↑(List.length p.recs):Int)))]) (Ax.get [AV.y (Value.int IntKind.u64 (IntKind.wrap IntKind.u64 (↑(List.length p.recs):Int)))]))/\(false=false/\(7:Nat)<=(7:Nat)/\cellLe (7:Nat) (Ax.get [AV.y (Value.string p.rng.lo),AV.y (Value.string p.rng.hi),AV.y (Value.int IntKind.u64 p.epoch),AV.y (Value.int IntKind.u64 p.frozen),AV.ys b (5:Nat) (List.length p.recs) (cellsOf' encF p.recs),AV.ys b (4:Nat) (List.length p.prods) (cellsOf' P.encP p.prods),AV.ys b (2:Nat) (List.length p.cons) (cellsOf' encC p.cons)]) (Ax.get [AV.y (Value.string p.rng.lo),AV.y (Value.string p.rng.hi),AV.y (Value.int IntKind.u64 p.epoch),AV.y (Value.int IntKind.u64 p.frozen),AV.ys b (5:Nat) (List.length p.recs) (cellsOf' encF p.recs),AV.ys b (4:Nat) (List.length p.prods) (cellsOf' P.encP p.prods),AV.ys b (2:Nat) (List.length p.cons) (cellsOf' encC p.cons)]))/\True)/\(0:Int)=(0:Int)/\(↑(List.length l):Int)=(↑(List.length l):Int)/\IntKind.wrap IntKind.i64 ((↑k:Int)+(1:Int))=(↑j:Int)/\True)/\True/\true=true)/\true=true/\(lxAny b p (List.drop j l)=true->(lxAny b p (List.drop k l)=true->(true,j+List.findIdx (lostB p) (List.drop j l))=(true,k+List.findIdx (lostB p) (List.drop k l)))/\(lxAny b p (List.drop k l)=false->(true,j+List.findIdx (lostB p) (List.drop j l))=(false,(0:Nat))))/\(lxAny b p (List.drop j l)=false->(lxAny b p (List.drop k l)=true->(false,(0:Nat))=(true,k+List.findIdx (lostB p) (List.drop k l)))/\(lxAny b p (List.drop k l)=false->(false,(0:Nat))=(false,(0:Nat))))))/\(decide ((↑k:Int)<(↑(List.length l):Int))=false->(lxAny b p (List.drop k l)=true->False)/\(lxAny b p (List.drop k l)=false->True/\True/\true=true))
theorem vclxL_eq (b:Bool) (p:Part) (bb:Bool) (l:List P.Producer) (k:Nat):(loopVC Tryz.prog (lxHL b p l k) 79 2 (fun k=>l.length - k) (lxT b p bb l) (fun _=>[]) [0] (lxO b p l) lxS k)=vclxL b p bb l k:=by kernel_rfl
theorem lx_loop (b:Bool) (p:Part) (bb:Bool) (l:List P.Producer) (hl:l.length<=9223372036854775806) (hn:∀ k,k<l.length->(p.recs.length<=9223372036854775806/\0<=(l.getD k default).offset)) (k:Nat):LoopOk Tryz.prog 79 2 (loopAt Tryz.prog 79 2) ⟨lxT b p bb l k,[],[]⟩ ((lxO b p l k).map (lout [0] lxS)):=by
 refine loop_vcH (ht:=fun k=>lxHL b p l k) Tryz.mixed (fun _=>rfl) (fun k=>(vclxL_eq b p bb l k).mpr ?_) k
 unfold vclxL
 by_cases h:k<l.length
 · have hw:IntKind.i64.wrap ((k:Int)+1)=((k+1:Nat):Int):=by rw [wrap_i64 (by omega) (by omega)];omega
   have hz:decide ((k:Int)<l.length)=true:=by simp;omega
   have hd:l.drop k=l.getD k default::l.drop (k+1):=by rw [drop_cons h];simp
   have hk:=hn k h
   rw [Int.toNat_natCast]
   simp only [hz,hd,lxAny_cons,List.findIdx_cons]
   generalize l.getD k default=y at *
   cases hp:lostB p y
   · simp [hw,hk]
     exact ⟨k+1,by omega,by omega,by grind⟩
   · simp [hk]
 · have hz:decide ((k:Int)<l.length)=false:=by simp;omega
   simp only [hz,drop_end (Nat.le_of_not_lt h),lxAny_nil]
   simp
noncomputable def lxH (b:Bool) (p:Part) (bb:Bool) (l:List P.Producer):HintsT Tryz.prog:=hh _ (lp1 79 2 (jobOf (lxT b p bb l) (fun _=>[]) [0] (lxO b p l) lxS 0) noLp) noCs noOp
def vclxF (b:Bool) (p:Part) (bb:Bool) (l:List P.Producer):Prop :=
 (((bb=bb/\l.length=l.length/\contLe l.length 4 (cellsOf' P.encP l) (cellsOf' P.encP l))/\(True/\(false=false/\1<=1/\cellLe 1 (Ax.get [AV.y (.int .u64 (IntKind.u64.wrap (p.recs.length:Int)))]) (Ax.get [AV.y (.int .u64 (IntKind.u64.wrap (p.recs.length:Int)))]))/\(false=false/\7<=7/\cellLe 7 (Ax.get [AV.y (.string p.rng.lo),AV.y (.string p.rng.hi),AV.y (.int .u64 p.epoch),AV.y (.int .u64 p.frozen),AV.ys b 5 p.recs.length (cellsOf' encF p.recs),AV.ys b 4 p.prods.length (cellsOf' P.encP p.prods),AV.ys b 2 p.cons.length (cellsOf' encC p.cons)]) (Ax.get [AV.y (.string p.rng.lo),AV.y (.string p.rng.hi),AV.y (.int .u64 p.epoch),AV.y (.int .u64 p.frozen),AV.ys b 5 p.recs.length (cellsOf' encF p.recs),AV.ys b 4 p.prods.length (cellsOf' P.encP p.prods),AV.ys b 2 p.cons.length (cellsOf' encC p.cons)]))/\True)/\(0:Int)=0/\(l.length:Int)=(l.length:Int)/\(0:Int)=0/\True)/\True/\true=true)/\LoopOk Tryz.prog 79 2 (loopAt Tryz.prog 79 2) { t:=lxT b p bb l 0,m:=[],mv:=[]:St } (T.map (lout [0] lxS) (lxO b p l 0))/\(lxAny b p (List.drop 0 l)=true->true=lxAny b p l/\True)/\(lxAny b p (List.drop 0 l)=false->false=lxAny b p l/\True)
theorem vclxF_eq (b:Bool) (p:Part) (bb:Bool) (l:List P.Producer):(ctrVC Tryz.prog (lxH b p bb l) 46 [.ys bb 4 l.length (cellsOf' P.encP l),lxFn b p] [] (boolR (lxAny b p l)))=vclxF b p bb l:=by kernel_rfl
theorem lx_has (b:Bool) (p:Part) (bb:Bool) (l:List P.Producer) (hl:l.length<=9223372036854775806) (hn:∀ k,k<l.length->(p.recs.length<=9223372036854775806/\0<=(l.getD k default).offset)):(boolR (lxAny b p l)).Sat (ACall' Tryz.prog 46 [.ys bb 4 l.length (cellsOf' P.encP l),lxFn b p] []):=by
 refine ctr_vc (ht:=lxH b p bb l) Tryz.mixed rfl ?_
 rw [vclxF_eq b p bb l]
 unfold vclxF
 have:=lx_loop b p bb l hl hn 0
 simp [this]
noncomputable def lxHas (b:Bool) (p:Part) (bb:Bool) (l:List P.Producer):Ctr Tryz.prog:=⟨46,[.ys bb 4 l.length (cellsOf' P.encP l),lxFn b p],[],.need (l.length<=9223372036854775806/\∀ k,k<l.length->(p.recs.length<=9223372036854775806/\0<=(l.getD k default).offset)) (boolR (lxAny b p l)),T.Sat.need fun h=>lx_has b p bb l h.1 h.2⟩
noncomputable def pcHX (b:Bool) (p:Part):HintsT Tryz.prog:=hh _ noLp
 (cs1 15 4 2 (chkC p.rng) (cs1 15 6 2 (lgCX b p.recs) (cs1 15 7 2 (P.tabN b p.prods) (cs1 15 8 2 (coC b p.cons)
 (cs1 15 10 1 (orCX b p) (cs1 15 11 3 (lxHas b p b p.prods) (cs1 15 12 3 (ahHas p.recs.length b p.cons) noCs))))))) noOp
def vcPcX (b:Bool) (p:Part):Prop :=
 ((p.rng.lo=p.rng.lo/\p.rng.hi=p.rng.hi/\True)/\True)/\True/\((chkK p.rng != 0)=true->(partOk p=true->(165:Int)=0/\True)/\(partOk p=false->(165:Int)=165/\True))/\((chkK p.rng != 0)=false->((p.epoch==0)=true->(partOk p=true->(165:Int)=0/\True)/\(partOk p=false->(165:Int)=165/\True))/\((p.epoch==0)=false->((b=b/\p.recs.length=p.recs.length/\contLe p.recs.length 5 (cellsOf' encF p.recs) (cellsOf' encF p.recs))/\True)/\True/\p.recs.length<=9223372036854775806/\((!isLog p.recs)=true->(partOk p=true->(165:Int)=0/\True)/\(partOk p=false->(165:Int)=165/\True))/\((!isLog p.recs)=false->((b=b/\p.prods.length=p.prods.length/\contLe p.prods.length 4 (cellsOf' P.encP p.prods) (cellsOf' P.encP p.prods))/\True)/\True/\p.prods.length<=9223372036854775806/\((!P.isTable p.prods)=true->(partOk p=true->(165:Int)=0/\True)/\(partOk p=false->(165:Int)=165/\True))/\((!P.isTable p.prods)=false->((b=b/\p.cons.length=p.cons.length/\contLe p.cons.length 2 (cellsOf' encC p.cons) (cellsOf' encC p.cons))/\True)/\True/\p.cons.length<=9223372036854775806/\((!isCons p.cons)=true->(partOk p=true->(165:Int)=0/\True)/\(partOk p=false->(165:Int)=165/\True))/\((!isCons p.cons)=false->((p.rng.lo=p.rng.lo/\p.rng.hi=p.rng.hi/\p.epoch=p.epoch/\p.frozen=p.frozen/\(b=b/\p.recs.length=p.recs.length/\contLe p.recs.length 5 (cellsOf' encF p.recs) (cellsOf' encF p.recs))/\(b=b/\p.prods.length=p.prods.length/\contLe p.prods.length 4 (cellsOf' P.encP p.prods) (cellsOf' P.encP p.prods))/\(b=b/\p.cons.length=p.cons.length/\contLe p.cons.length 2 (cellsOf' encC p.cons) (cellsOf' encC p.cons))/\True)/\True)/\True/\(p.prods.length<=9223372036854775806/\p.recs.length<=9223372036854775806)/\((!orFrom p 0)=true->(partOk p=true->(165:Int)=0/\True)/\(partOk p=false->(165:Int)=165/\True))/\((!orFrom p 0)=false->((b=b/\p.prods.length=p.prods.length/\contLe p.prods.length 4 (cellsOf' P.encP p.prods) (cellsOf' P.encP p.prods))/\(True/\(false=false/\1<=1/\cellLe 1 (fun (j:Nat)=>Ax.get [AV.y (.int .u64 (IntKind.u64.wrap (p.recs.length:Int)))] (0+j)) (Ax.get [AV.y (.int .u64 (IntKind.u64.wrap (p.recs.length:Int)))]))/\(false=false/\7<=7/\cellLe 7 (fun (j:Nat)=>Ax.get [AV.y (.string p.rng.lo),AV.y (.string p.rng.hi),AV.y (.int .u64 p.epoch),AV.y (.int .u64 p.frozen),AV.ys b 5 p.recs.length (cellsOf' encF p.recs),AV.ys b 4 p.prods.length (cellsOf' P.encP p.prods),AV.ys b 2 p.cons.length (cellsOf' encC p.cons)] (0+j)) (Ax.get [AV.y (.string p.rng.lo),AV.y (.string p.rng.hi),AV.y (.int .u64 p.epoch),AV.y (.int .u64 p.frozen),AV.ys b 5 p.recs.length (cellsOf' encF p.recs),AV.ys b 4 p.prods.length (cellsOf' P.encP p.prods),AV.ys b 2 p.cons.length (cellsOf' encC p.cons)]))/\True)/\True)/\True/\(p.prods.length<=9223372036854775806/\∀ k,k<p.prods.length->p.recs.length<=9223372036854775806/\0<=(p.prods.getD k default).offset)/\true=true/\True/\(lxAny b p p.prods=true->(partOk p=true->(165:Int)=0/\True)/\(partOk p=false->(165:Int)=165/\True))/\(lxAny b p p.prods=false->((b=b/\p.cons.length=p.cons.length/\contLe p.cons.length 2 (cellsOf' encC p.cons) (cellsOf' encC p.cons))/\(True/\(false=false/\1<=1/\cellLe 1 (fun (j:Nat)=>Ax.get [AV.y (.int .u64 (IntKind.u64.wrap (p.recs.length:Int)))] (0+j)) (Ax.get [AV.y (.int .u64 (IntKind.u64.wrap (p.recs.length:Int)))]))/\True)/\True)/\True/\(p.cons.length<=9223372036854775806/\∀ k,k<p.cons.length->p.recs.length<=9223372036854775806)/\true=true/\True/\(ahAny p.recs.length p.cons=true->(partOk p=true->(165:Int)=0/\True)/\(partOk p=false->(165:Int)=165/\True))/\(ahAny p.recs.length p.cons=false->(partOk p=true->(0:Int)=0/\True)/\(partOk p=false->(0:Int)=165/\True)))))))))
theorem vcPcX_eq (b:Bool) (p:Part):(ctrVC Tryz.prog (pcHX b p) 15 [.agg (ptX b p)] [] (errR (partOk p) 165))=vcPcX b p:=by kernel_rfl
theorem pc_cX (b:Bool) (p:Part) (h:PartIn p):(errR (partOk p) 165).Sat (ACall' Tryz.prog 15 [.agg (ptX b p)] []):=by
 refine ctr_vc (ht:=pcHX b p) Tryz.mixed rfl ?_
 rw [vcPcX_eq b p]
 unfold vcPcX
 obtain ⟨h1,h2,h3,h4⟩:=h
 have e1:lxAny b p p.prods=p.prods.any (lostB p):=rfl
 have e2:ahAny p.recs.length p.cons=p.cons.any (aheadB p.recs.length):=rfl
 have hw:IntKind.u64.wrap (p.recs.length:Int)=p.recs.length:=wrap_u64 (by omega) (by omega)
 simp only [e1,e2,hw]
 unfold partOk
 have g1:p.recs.length<=9223372036854775806:=by omega
 have g2:p.prods.length<=9223372036854775806:=by omega
 have g3:p.cons.length<=9223372036854775806:=by omega
 generalize orFrom p 0=a1
 generalize p.prods.any (lostB p)=a2
 generalize p.cons.any (aheadB p.recs.length)=a3
 generalize isLog p.recs=a4
 generalize P.isTable p.prods=a5
 generalize isCons p.cons=a6
 by_cases c1:chkK p.rng=0<;>by_cases c2:p.epoch=0<;>cases a1<;>cases a2<;>cases a3<;>cases a4<;>cases a5<;>cases a6<;>simp [c1,c2,g1,g2,g3]<;>exact h4
end Go.Proofs.YtckklclehofddaaGreatDoor.Q

namespace Go.Proofs.YtckklclehofddaaGreatDoor.Q
open Go.Ax Go.Proofs.YtckklclehofddaaGreatDoor Go.Proofs.YtckklclehofddaaGreatDoor.H Go.Proofs.YtckklclehofddaaGreatDoor.D
set_option maxRecDepth 1000000
structure Mgv where
 (a b:Part) (out:List Rec) (ta tb:List Int) (ps:List P.Producer) (cs:List Con) (u e1 e2 e3 e4:Int) (c:Bool) (e:Int)
def Mgv.ep (x:Mgv):Int:=IntKind.u64.wrap ((if x.b.epoch > x.a.epoch then x.b.epoch else x.a.epoch)+1)
def Mgv.m (x:Mgv):Part:=⟨⟨x.a.rng.lo,x.b.rng.hi⟩,x.ep,0,x.out,x.ps,x.cs⟩
def kmN (a b:Rng) (e:Int):T An:=.ite (e==0)
 (.ret (.tup [.agg (encG ⟨a.lo,b.hi⟩),.s (.int .i64 0)],[],[]))
 (.ret (.tup [.agg (encG default),.y (.int .i64 e)],[],[]))
def joU (a b:List Rec):Int:=if (isLog a&&isLog b)=true then (if a.length+b.length<=4096 then (if (jo0 a b).run.isSome=true then 0 else 145) else 143) else 1
structure JnN (a b:List Rec) (e:Int) (out:List Rec) (ta tb:List Int):Prop where
 la:a.length<=4611686018427387903
 lb:b.length<=4611686018427387903
 v:joU a b=e
 r:e=0->∃ s,(jo0 a b).run=some s/\out=s.end.out/\ta=s.end.ta/\tb=s.end.tb
def jnE (e:Int):T An:=.ret (.tup [.s (.slice none 0 0),.s (.slice none 0 0),.s (.slice none 0 0),.y (.int .i64 e)],[],[])
def jqN (e:Int) (out:List Rec) (ta tb:List Int):T An:=.ite (e==0) (.ret (.tup [.own 0 5 0 out.length,.own 1 1 0 ta.length,.own 2 1 0 tb.length,.s (.int .i64 0)],[towR out,rowU ta,rowU tb],[])) (jnE e)
theorem joE_as {P:Program} {g:FuncId} {args:List AV} {m:List Blk} {k:Int} (h:(joE k).Sat (ACall' P g args m)):(jnE k).Sat (ACall' P g args m) :=
 ret_as (r:=.tup [.s (.slice none 0 0),.s (.slice none 0 0),.s (.slice none 0 0),.s (.int .i64 k)]) (r':=.tup [.s (.slice none 0 0),.s (.slice none 0 0),.s (.slice none 0 0),.y (.int .i64 k)]) (fun _ _ _ h=>h) h
theorem jqN_c (b1 b2:Bool) (a b:List Rec) (e:Int) (out:List Rec) (ta tb:List Int) (h:JnN a b e out ta tb):(jqN e out ta tb).Sat (ACall' Tryz.prog 57 [encRs b1 a,encRs b2 b] []):=by
 obtain ⟨h1,h2,h3,h4⟩:=h
 have hs:=jqF_c b1 b2 a b h1 h2
 unfold jqF at hs
 intro Q hq
 unfold joU at h3
 cases c1:(isLog a&&isLog b)
 · rw [c1] at h3 hs
   obtain rfl:1=e:=by simpa using h3
   exact joE_as (fun Q hq=>hs Q ⟨fun e=>by simp at e,fun _=>hq⟩) Q (hq.2 rfl)
 · rw [c1] at h3 hs
   by_cases c2:a.length+b.length<=4096
   · cases c3:(jo0 a b).run with
     | none =>
       rw [c3] at h3 hs
       obtain rfl:145=e:=by simpa [c2] using h3
       exact joE_as (fun Q hq=>hs Q ⟨fun _=>⟨fun _=>⟨fun e=>by simp at e,fun _=>hq⟩,fun e=>by simp [c2] at e⟩,fun e=>by simp at e⟩) Q (hq.2 rfl)
     | some s =>
       rw [c3] at h3 hs
       obtain rfl:0=e:=by simpa [c2] using h3
       obtain ⟨s',hs',rfl,rfl,rfl⟩:=h4 rfl
       obtain rfl:s=s':=Option.some.inj (c3.symm.trans hs')
       exact hs Q ⟨fun _=>⟨fun _=>⟨fun _=>hq.1 rfl,fun e=>by simp at e⟩,fun e=>by simp [c2] at e⟩,fun e=>by simp at e⟩
   · obtain rfl:143=e:=by simpa [c2] using h3
     exact joE_as (fun Q hq=>hs Q ⟨fun _=>⟨fun e=>by simp [c2] at e,fun _=>hq⟩,fun e=>by simp at e⟩) Q (hq.2 rfl)
def mgSub:List Nat:=[54,56,58,60]
end Go.Proofs.YtckklclehofddaaGreatDoor.Q

namespace Go.Proofs.YtckklclehofddaaGreatDoor.Q
open Go.Ax Go.Proofs.YtckklclehofddaaGreatDoor Go.Proofs.YtckklclehofddaaGreatDoor.H Go.Proofs.YtckklclehofddaaGreatDoor.D
set_option maxRecDepth 1000000
def jq9 (out:List Rec) (ta tb:List Int):T An:=.ret (.tup [.own 0 5 0 out.length,.own 1 1 0 ta.length,.own 2 1 0 tb.length,.s (.int .i64 0)],[towR out,rowU ta,rowU tb],[])
noncomputable def jq9C (b1 b2:Bool) (a b:List Rec) (out:List Rec) (ta tb:List Int):Ctr Tryz.prog:=⟨57,[encRs b1 a,encRs b2 b],[],.need (JnN a b 0 out ta tb) (jq9 out ta tb),T.Sat.need fun h Q hq=>jqN_c b1 b2 a b 0 out ta tb h Q ⟨fun _=>hq,fun e=>by simp at e⟩⟩
def pb9 (ps:List P.Producer):T An:=.ret (.tup [.own 0 4 0 ps.length,.s (.int .i64 0)],[.row 39 4 ps.length none (cellsOf' P.encP ps)],[])
noncomputable def pb9C (b1 b2 b3 b4:Bool) (a b:List P.Producer) (ta tb:List Int) (ps:List P.Producer):Ctr Tryz.prog:=⟨59,[P.encPs b1 a,P.encPs b2 b,encUs b3 ta,encUs b4 tb],[],.need ((a.length*32<=140737488355200/\b.length*32<=140737488355200/\ta.length<=9223372036854775806/\tb.length<=9223372036854775806/\(∀ x∈a,0<=x.offset/\x.offset<18446744073709551616)/\∀ x∈b,0<=x.offset/\x.offset<18446744073709551616)/\P.bothE a b ta tb=0/\P.bothL a b ta tb=ps) (pb9 ps),T.Sat.need fun h=>by
 obtain ⟨⟨h1,h2,h3,h4,h5,h6⟩,h7,rfl⟩:=h
 have:=P.both_c b1 b2 b3 b4 a b ta tb h1 h2 h3 h4 h5 h6
 unfold P.rowE at this
 rw [h7] at this
 exact fun Q hq=>this Q ⟨fun _=>hq,fun e=>by simp at e⟩⟩
def cb9 (cs:List Con):T An:=.ret (.tup [.own 0 2 0 cs.length,.s (.int .i64 0)],[rowC cs],[])
noncomputable def cb9C (b1 b2 b3 b4:Bool) (a b:List Con) (ta tb:List Int) (cs:List Con):Ctr Tryz.prog:=⟨61,[encCs b1 a,encCs b2 b,encUs b3 ta,encUs b4 tb],[],.need ((a.length<=9223372036854775806/\b.length<=9223372036854775806/\wfC a/\wfC b/\ta.length<=9223372036854775806/\tb.length<=9223372036854775806)/\bothE a b ta tb=0/\boU a b ta tb (a++b).length=cs) (cb9 cs),T.Sat.need fun h=>by
 obtain ⟨⟨h1,h2,h3,h4,h5,h6⟩,h7,rfl⟩:=h
 have:=both_c b1 b2 b3 b4 a b ta tb h1 h2 h3 h4 h5 h6
 unfold rowE at this
 rw [h7] at this
 exact fun Q hq=>this Q ⟨fun _=>hq,fun e=>by simp at e⟩⟩
noncomputable def pk9C (p:Part):Ctr Tryz.prog:=⟨15,[.agg (ptX false p)],[],.need (PartIn p/\partOk p=true) (.ret (.s (.int .i64 0),[],[])),T.Sat.need fun h=>by
 have:=pc_cX false p h.1
 unfold errR at this
 rw [h.2] at this
 exact fun Q hq=>this Q ⟨fun _=>hq,fun e=>by simp at e⟩⟩
def mg9T (x:Mgv):T An:=.ret (.tup [.agg (ptW x.m 0 1 2),.s (.int .i64 0)],ptM x.m,[])
noncomputable def mg9H (x:Mgv):HintsT Tryz.prog:=withSh (withSub (hh _ noLp (cs1 28 1 3 (usC0 x.a x.b) (cs1 54 1 4 (kmC0 x.a.rng x.b.rng) (cs1 56 1 4 (jq9C true true x.a.recs x.b.recs x.out x.ta x.tb) (cs1 58 1 6 (pb9C true true false false x.a.prods x.b.prods x.ta x.tb x.ps) (cs1 60 1 6 (cb9C true true false false x.a.cons x.b.cons x.ta x.tb x.cs) (cs1 28 14 1 (pk9C x.m) noCs)))))) noOp) mgSub) noSh
def vcMg9 (x:Mgv):Prop :=
 ((false=false/\2=2/\contLe 2 7 (fun (k j:Nat)=>Ax.get [AV.y (.string x.a.rng.lo),AV.y (.string x.a.rng.hi),AV.y (.int .u64 x.a.epoch),AV.y (.int .u64 x.a.frozen),AV.ys true 5 x.a.recs.length (cellsOf' encR x.a.recs),AV.ys true 4 x.a.prods.length (cellsOf' P.encP x.a.prods),AV.ys true 2 x.a.cons.length (cellsOf' encC x.a.cons),AV.y (.string x.b.rng.lo),AV.y (.string x.b.rng.hi),AV.y (.int .u64 x.b.epoch),AV.y (.int .u64 x.b.frozen),AV.ys true 5 x.b.recs.length (cellsOf' encR x.b.recs),AV.ys true 4 x.b.prods.length (cellsOf' P.encP x.b.prods),AV.ys true 2 x.b.cons.length (cellsOf' encC x.b.cons)] ((0+k)*7+j)) fun (k j:Nat)=>Ax.get [AV.y (.string x.a.rng.lo),AV.y (.string x.a.rng.hi),AV.y (.int .u64 x.a.epoch),AV.y (.int .u64 x.a.frozen),AV.ys true 5 x.a.recs.length (cellsOf' encR x.a.recs),AV.ys true 4 x.a.prods.length (cellsOf' P.encP x.a.prods),AV.ys true 2 x.a.cons.length (cellsOf' encC x.a.cons),AV.y (.string x.b.rng.lo),AV.y (.string x.b.rng.hi),AV.y (.int .u64 x.b.epoch),AV.y (.int .u64 x.b.frozen),AV.ys true 5 x.b.recs.length (cellsOf' encR x.b.recs),AV.ys true 4 x.b.prods.length (cellsOf' P.encP x.b.prods),AV.ys true 2 x.b.cons.length (cellsOf' encC x.b.cons)] (k*7+j))/\True)/\True/\(PartTy x.a/\PartTy x.b/\bad x.a=false/\bad x.b=false/\live2 x.a x.b=false)/\true=true/\True/\((x.a.rng.lo=x.a.rng.lo/\x.a.rng.hi=x.a.rng.hi/\True)/\(x.b.rng.lo=x.b.rng.lo/\x.b.rng.hi=x.b.rng.hi/\True)/\True)/\True/\kmE x.a.rng x.b.rng=0/\((true=true/\x.a.recs.length=x.a.recs.length/\contLe x.a.recs.length 5 (cellsOf' encR x.a.recs) (cellsOf' encR x.a.recs))/\(true=true/\x.b.recs.length=x.b.recs.length/\contLe x.b.recs.length 5 (cellsOf' encR x.b.recs) (cellsOf' encR x.b.recs))/\True)/\True/\JnN x.a.recs x.b.recs 0 x.out x.ta x.tb/\((true=true/\x.a.prods.length=x.a.prods.length/\contLe x.a.prods.length 4 (cellsOf' P.encP x.a.prods) (cellsOf' P.encP x.a.prods))/\(true=true/\x.b.prods.length=x.b.prods.length/\contLe x.b.prods.length 4 (cellsOf' P.encP x.b.prods) (cellsOf' P.encP x.b.prods))/\(false=false/\x.ta.length=x.ta.length/\contLe x.ta.length 1 (Ax.rowAt 0 (cellsOf' encU x.ta)) (cellsOf' encU x.ta))/\(false=false/\x.tb.length=x.tb.length/\contLe x.tb.length 1 (Ax.rowAt 0 (cellsOf' encU x.tb)) (cellsOf' encU x.tb))/\True)/\True/\((x.a.prods.length*32<=140737488355200/\x.b.prods.length*32<=140737488355200/\x.ta.length<=9223372036854775806/\x.tb.length<=9223372036854775806/\(∀ (x_1:P.Producer),x_1∈x.a.prods->0<=x_1.offset/\x_1.offset<18446744073709551616)/\∀ (x_1:P.Producer),x_1∈x.b.prods->0<=x_1.offset/\x_1.offset<18446744073709551616)/\P.bothE x.a.prods x.b.prods x.ta x.tb=0/\P.bothL x.a.prods x.b.prods x.ta x.tb=x.ps)/\true=true/\((∀ k,k<x.ps.length->∀ j,j<4->tagT (cellsOf' P.encP x.ps k j)=true)/\True)/\((true=true/\x.a.cons.length=x.a.cons.length/\contLe x.a.cons.length 2 (cellsOf' encC x.a.cons) (cellsOf' encC x.a.cons))/\(true=true/\x.b.cons.length=x.b.cons.length/\contLe x.b.cons.length 2 (cellsOf' encC x.b.cons) (cellsOf' encC x.b.cons))/\(false=false/\x.ta.length=x.ta.length/\contLe x.ta.length 1 (Ax.rowAt 0 (cellsOf' encU x.ta)) (cellsOf' encU x.ta))/\(false=false/\x.tb.length=x.tb.length/\contLe x.tb.length 1 (Ax.rowAt 0 (cellsOf' encU x.tb)) (cellsOf' encU x.tb))/\True)/\True/\((x.a.cons.length<=9223372036854775806/\x.b.cons.length<=9223372036854775806/\(∀ (x_1:Con),x_1∈x.a.cons->0<=x_1.off/\x_1.off<18446744073709551616)/\(∀ (x_1:Con),x_1∈x.b.cons->0<=x_1.off/\x_1.off<18446744073709551616)/\x.ta.length<=9223372036854775806/\x.tb.length<=9223372036854775806)/\bothE x.a.cons x.b.cons x.ta x.tb=0/\boU x.a.cons x.b.cons x.ta x.tb (x.a.cons++x.b.cons).length=x.cs)/\true=true/\((∀ k,k<x.cs.length->∀ j,j<2->tagT (cellsOf' encC x.cs k j)=true)/\True)/\((x.a.rng.lo=x.a.rng.lo/\x.b.rng.hi=x.b.rng.hi/\IntKind.u64.wrap ((if x.b.epoch > x.a.epoch then x.b.epoch else x.a.epoch)+1)=Mgv.ep x/\(0:Int)=0/\(false=false/\x.out.length=x.out.length/\contLe x.out.length 5 (Ax.rowAt 0 fun (k j:Nat)=>trV (trRs x.out k j)) (cellsOf' encF x.out))/\(false=false/\x.ps.length=x.ps.length/\contLe x.ps.length 4 (Ax.rowAt 0 (cellsOf' P.encP x.ps)) (cellsOf' P.encP x.ps))/\(false=false/\x.cs.length=x.cs.length/\contLe x.cs.length 2 (Ax.rowAt 0 (cellsOf' encC x.cs)) (cellsOf' encC x.cs))/\True)/\True)/\True/\(PartIn (Mgv.m x)/\partOk (Mgv.m x)=true)/\true=true/\True/\((x.a.rng.lo=x.a.rng.lo/\x.b.rng.hi=x.b.rng.hi/\IntKind.u64.wrap ((if x.b.epoch > x.a.epoch then x.b.epoch else x.a.epoch)+1)=Mgv.ep x/\(0:Int)=0/\(0=0/\x.out.length=x.out.length)/\(0=0/\x.ps.length=x.ps.length)/\(0=0/\x.cs.length=x.cs.length)/\True)/\(0:Int)=0/\True)/\(x.out.length=x.out.length/\∀ k,k<x.out.length->(x.out.getD k default).off=(x.out.getD k default).off/\(x.out.getD k default).key=(x.out.getD k default).key/\((x.out.getD k default).val.length=(x.out.getD k default).val.length/\contLe (x.out.getD k default).val.length 1 (cellsOf' encB (x.out.getD k default).val) (cellsOf' encB (x.out.getD k default).val))/\(x.out.getD k default).prod=(x.out.getD k default).prod/\(x.out.getD k default).seq=(x.out.getD k default).seq/\True)/\(x.ps.length=x.ps.length/\contLe x.ps.length 4 (cellsOf' P.encP x.ps) (cellsOf' P.encP x.ps))/\(x.cs.length=x.cs.length/\contLe x.cs.length 2 (cellsOf' encC x.cs) (cellsOf' encC x.cs))/\True
theorem vcMg9_eq (x:Mgv):(ctrVC Tryz.prog (mg9H x) 12 [.agg (encPt true x.a),.agg (encPt true x.b)] [] (mg9T x))=vcMg9 x:=by kernel_rfl
end Go.Proofs.YtckklclehofddaaGreatDoor.Q

namespace Go.Proofs.YtckklclehofddaaGreatDoor.Q
open Go.Ax Go.Proofs.YtckklclehofddaaGreatDoor Go.Proofs.YtckklclehofddaaGreatDoor.H Go.Proofs.YtckklclehofddaaGreatDoor.D
set_option maxRecDepth 1000000
structure Mg9 (x:Mgv):Prop where
 ta:PartTy x.a
 tb:PartTy x.b
 ba:bad x.a=false
 bb:bad x.b=false
 lv:live2 x.a x.b=false
 km:kmE x.a.rng x.b.rng=0
 jo:JnN x.a.recs x.b.recs 0 x.out x.ta x.tb
 pi:(x.a.prods.length*32<=140737488355200/\x.b.prods.length*32<=140737488355200/\x.ta.length<=9223372036854775806/\x.tb.length<=9223372036854775806/\(∀ y∈x.a.prods,0<=y.offset/\y.offset<18446744073709551616)/\∀ y∈x.b.prods,0<=y.offset/\y.offset<18446744073709551616)/\P.bothE x.a.prods x.b.prods x.ta x.tb=0/\P.bothL x.a.prods x.b.prods x.ta x.tb=x.ps
 ci:(x.a.cons.length<=9223372036854775806/\x.b.cons.length<=9223372036854775806/\wfC x.a.cons/\wfC x.b.cons/\x.ta.length<=9223372036854775806/\x.tb.length<=9223372036854775806)/\bothE x.a.cons x.b.cons x.ta x.tb=0/\boU x.a.cons x.b.cons x.ta x.tb (x.a.cons++x.b.cons).length=x.cs
 ck:PartIn x.m/\partOk x.m=true
theorem epq (x:Mgv):IntKind.u64.wrap ((if x.b.epoch > x.a.epoch then x.b.epoch else x.a.epoch)+1)=x.ep:=rfl
theorem mg9_c (x:Mgv) (h:Mg9 x):(mg9T x).Sat (ACall' Tryz.prog 12 [.agg (encPt true x.a),.agg (encPt true x.b)] []):=by
 refine ctr_vc (ht:=mg9H x) Tryz.mixed rfl ?_
 rw [vcMg9_eq x]
 unfold vcMg9
 obtain ⟨h1,h2,h3,h4,h5,h6,h7,h8,h9,h10⟩:=h
 simp only [rowAt_zero,Nat.zero_add]
 have t2:∀ (k:Nat),k<x.ps.length->∀ (j:Nat),j<4->tagT (cellsOf' P.encP x.ps k j)=true:=fun k _ j hj=>tagP _ j hj
 have t3:∀ (k:Nat),k<x.cs.length->∀ (j:Nat),j<2->tagT (cellsOf' encC x.cs k j)=true:=fun k _ j hj=>Go.Proofs.YtckklclehofddaaGreatDoor.D.tagC _ j hj
 simp only [h1,h2,h3,h4,h5,h6,h7,h8,h9,h10,epq,contLe_refl,and_true,true_and,true_or]
 repeat' with_reducible apply And.intro
 all_goals first | rfl | assumption | skip
 all_goals first | exact h1.po | exact h2.po | exact h1.co | exact h2.co | exact trV_le _ _ | (simp;done) | skip
end Go.Proofs.YtckklclehofddaaGreatDoor.Q

namespace Go.Proofs.YtckklclehofddaaGreatDoor.Q
open Go.Ax Go.Proofs.YtckklclehofddaaGreatDoor Go.Proofs.YtckklclehofddaaGreatDoor.H Go.Proofs.YtckklclehofddaaGreatDoor.D
set_option maxRecDepth 1000000
noncomputable def km2H (a b:Rng):HintsT Tryz.prog:=hh _ noLp (cs1 35 1 1 (chk2C a) (cs1 35 3 1 (chk2C b) noCs)) noOp
def vcKm2 (a b:Rng):Prop :=
 ((a.lo=a.lo/\a.hi=a.hi/\True)/\True)/\True/\((chkK a==0)=true->((b.lo=b.lo/\b.hi=b.hi/\True)/\True)/\True/\((chkK b != 0)=true->((kmE a b==0)=true->(({ data:=#[]:ByteArray }=a.lo/\{ data:=#[]:ByteArray }=b.hi/\True)/\chkK b=0/\True)/\True)/\((kmE a b==0)=false->(({ data:=#[]:ByteArray }=ByteArray.empty/\{ data:=#[]:ByteArray }=ByteArray.empty/\True)/\chkK b=kmE a b/\True)/\True))/\((chkK b != 0)=false->((a.hi.data.toList==[])=true->((kmE a b==0)=true->(({ data:=#[]:ByteArray }=a.lo/\{ data:=#[]:ByteArray }=b.hi/\True)/\(133:Int)=0/\True)/\True)/\((kmE a b==0)=false->(({ data:=#[]:ByteArray }=ByteArray.empty/\{ data:=#[]:ByteArray }=ByteArray.empty/\True)/\133=kmE a b/\True)/\True))/\((a.hi.data.toList==[])=false->((!a.hi.data.toList==b.lo.data.toList)=true->((kmE a b==0)=true->(({ data:=#[]:ByteArray }=a.lo/\{ data:=#[]:ByteArray }=b.hi/\True)/\(133:Int)=0/\True)/\True)/\((kmE a b==0)=false->(({ data:=#[]:ByteArray }=ByteArray.empty/\{ data:=#[]:ByteArray }=ByteArray.empty/\True)/\133=kmE a b/\True)/\True))/\((!a.hi.data.toList==b.lo.data.toList)=false->((kmE a b==0)=true->((a.lo=a.lo/\b.hi=b.hi/\True)/\(0:Int)=0/\True)/\True)/\((kmE a b==0)=false->((a.lo=ByteArray.empty/\b.hi=ByteArray.empty/\True)/\0=kmE a b/\True)/\True)))))/\((chkK a==0)=false->((chkK a != 0)=true->((kmE a b==0)=true->(({ data:=#[]:ByteArray }=a.lo/\{ data:=#[]:ByteArray }=b.hi/\True)/\chkK a=0/\True)/\True)/\((kmE a b==0)=false->(({ data:=#[]:ByteArray }=ByteArray.empty/\{ data:=#[]:ByteArray }=ByteArray.empty/\True)/\chkK a=kmE a b/\True)/\True))/\((chkK a != 0)=false->((a.hi.data.toList==[])=true->((kmE a b==0)=true->(({ data:=#[]:ByteArray }=a.lo/\{ data:=#[]:ByteArray }=b.hi/\True)/\(133:Int)=0/\True)/\True)/\((kmE a b==0)=false->(({ data:=#[]:ByteArray }=ByteArray.empty/\{ data:=#[]:ByteArray }=ByteArray.empty/\True)/\133=kmE a b/\True)/\True))/\((a.hi.data.toList==[])=false->((!a.hi.data.toList==b.lo.data.toList)=true->((kmE a b==0)=true->(({ data:=#[]:ByteArray }=a.lo/\{ data:=#[]:ByteArray }=b.hi/\True)/\(133:Int)=0/\True)/\True)/\((kmE a b==0)=false->(({ data:=#[]:ByteArray }=ByteArray.empty/\{ data:=#[]:ByteArray }=ByteArray.empty/\True)/\133=kmE a b/\True)/\True))/\((!a.hi.data.toList==b.lo.data.toList)=false->((kmE a b==0)=true->((a.lo=a.lo/\b.hi=b.hi/\True)/\(0:Int)=0/\True)/\True)/\((kmE a b==0)=false->((a.lo=ByteArray.empty/\b.hi=ByteArray.empty/\True)/\0=kmE a b/\True)/\True)))))
theorem vcKm2_eq (a b:Rng):(ctrVC Tryz.prog (km2H a b) 35 [.agg (encG a),.agg (encG b)] [] (kmT a b))=vcKm2 a b:=by kernel_rfl
theorem km2_c (a b:Rng):(kmT a b).Sat (ACall' Tryz.prog 35 [.agg (encG a),.agg (encG b)] []):=by
 refine ctr_vc (ht:=km2H a b) Tryz.mixed rfl ?_
 rw [vcKm2_eq a b]
 unfold vcKm2 kmE
 have eb:({ data:=#[] }:ByteArray)=ByteArray.empty:=rfl
 rw [eb]
 have e3:(a.hi.data.toList != b.lo.data.toList)=!(a.hi.data.toList==b.lo.data.toList):=rfl
 rw [e3]
 generalize (a.hi.data.toList==[])=q
 generalize (a.hi.data.toList==b.lo.data.toList)=r
 by_cases h1:chkK a=0<;>by_cases h2:chkK b=0<;>cases q<;>cases r<;>simp [h1,h2]
end Go.Proofs.YtckklclehofddaaGreatDoor.Q
