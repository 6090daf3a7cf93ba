import Derived.Test.YtckklclehofddaaGreatDoorProg
import Derived.KernelRfl
import Derived.Test.YtckklclehofddaaGreatDoorE12
import Derived.Test.YtckklclehofddaaGreatDoorW1
set_option linter.unusedVariables false
set_option linter.unusedSimpArgs false
set_option linter.unusedSectionVars false
namespace Go.Proofs.YtckklclehofddaaGreatDoor.P
open Go.Ax
set_option maxRecDepth 1000000
structure Producer where
 id:Int
 seq:Int
 here:Bool
 offset:Int
instance:Inhabited Producer:=⟨⟨0,0,false,0⟩⟩
def encP (x:Producer):List AV:=[.y (.int .u64 x.id),.y (.int .u64 x.seq),.y (.bool x.here),.y (.int .u64 x.offset)]
def encPs (b:Bool) (l:List Producer):AV:=.ys b 4 l.length (cellsOf' encP l)
theorem Tryz.mixed:Tryz.prog.follows .mixedOrders=true:=by kernel_rfl
def okP (l:List Producer) (k:Nat):Bool :=
 let x:=l.getD k default
 !(x.id==0||!(decide (1<=x.seq)&&decide (x.seq<=9223372036854775807))||!x.here&&x.offset != 0||decide (0<k)&&decide (x.id<=(l.getD (k - 1) default).id))
def okFrom (l:List Producer) (k:Nat):Bool:=(List.range' k (l.length - k)).all (okP l)
def isTable (l:List Producer):Bool:=okFrom l 0&&decide (l.length<=256)
theorem okFrom_end {l:List Producer} {k:Nat} (h:l.length<=k):okFrom l k=true:=by
 unfold okFrom
 rw [show l.length - k=0 by omega];rfl
theorem okFrom_step {l:List Producer} {k:Nat} (h:k<l.length):okFrom l k=(okP l k&&okFrom l (k+1)):=by
 unfold okFrom
 rw [show l.length - k=(l.length - (k+1))+1 by omega,List.range'_succ];rfl
def tabT (b:Bool) (l:List Producer) (k:Nat):List AV:=mkT 50 [(0,encPs b l),(2,.s (.bool false)),(5,encPs b l),(6,.y (.int .i64 l.length)),(7,.y (.int .i64 k))]
def tabS (b:Bool) (l:List Producer) (r:Bool):Exit×List AV×List Blk:=match r with
 | true=>(.exit 0,mkT 50 [(0,encPs b l),(2,.s (.bool false))],[])
 | false=>(.ret,mkT 50 [(2,.s (.bool false))],[])
def tabO (l:List Producer) (k:Nat):T Bool:=.ite (okFrom l k) (.ret true) (.ret false)
def vcTableL_q3 (b:Bool) (l:List Producer):Prop:=(b=b/\l.length=l.length/\contLe l.length 4 (cellsOf' encP l) (cellsOf' encP l))
def vcTableL_q1 (b:Bool) (l:List Producer) (k:Nat):Prop:=(decide (0<(k:Int))=true->(decide (0<=IntKind.i64.wrap ((k:Int) - 1))&&decide (IntKind.i64.wrap ((k:Int) - 1)<(l.length:Int)))=true/\(decide ((l.getD (Int.toNat (k:Int)) default).id<=(l.getD (Int.toNat (IntKind.i64.wrap ((k:Int) - 1))) default).id)=true->(okFrom l k=true->False)/\(okFrom l k=false->(false=false/\True)/\True/\true=true))/\(decide ((l.getD (Int.toNat (k:Int)) default).id<=(l.getD (Int.toNat (IntKind.i64.wrap ((k:Int) - 1))) default).id)=false->∃ j:Nat,l.length - j<l.length - k/\(((vcTableL_q3 b l)/\false=false/\(vcTableL_q3 b l)/\(l.length:Int)=(l.length:Int)/\IntKind.i64.wrap ((k:Int)+1)=(j:Int)/\True)/\True/\true=true)/\true=true/\(okFrom l j=true->(okFrom l k=true->true=true)/\(okFrom l k=false->true=false))/\(okFrom l j=false->(okFrom l k=true->false=true)/\(okFrom l k=false->false=false))))
def vcTableL_q2 (b:Bool) (l:List Producer) (k:Nat):Prop:=(decide (0<(k:Int))=false->∃ j:Nat,l.length - j<l.length - k/\(((vcTableL_q3 b l)/\false=false/\(vcTableL_q3 b l)/\(l.length:Int)=(l.length:Int)/\IntKind.i64.wrap ((k:Int)+1)=(j:Int)/\True)/\True/\true=true)/\true=true/\(okFrom l j=true->(okFrom l k=true->true=true)/\(okFrom l k=false->true=false))/\(okFrom l j=false->(okFrom l k=true->false=true)/\(okFrom l k=false->false=false)))
def vcTableL (b:Bool) (l:List Producer) (k:Nat):Prop :=
 (decide ((k:Int)<(l.length:Int))=true->(true&&decide ((k:Int)<(l.length:Int)))=true/\(((l.getD (Int.toNat (k:Int)) default).id==0)=true->(okFrom l k=true->False)/\(okFrom l k=false->(false=false/\True)/\True/\true=true))/\(((l.getD (Int.toNat (k:Int)) default).id==0)=false->(decide (1<=(l.getD (Int.toNat (k:Int)) default).seq)=true->((!decide ((l.getD (Int.toNat (k:Int)) default).seq<=9223372036854775807))=true->(okFrom l k=true->False)/\(okFrom l k=false->(false=false/\True)/\True/\true=true))/\((!decide ((l.getD (Int.toNat (k:Int)) default).seq<=9223372036854775807))=false->((!(l.getD (Int.toNat (k:Int)) default).here)=true->(((l.getD (Int.toNat (k:Int)) default).offset != 0)=true->(okFrom l k=true->False)/\(okFrom l k=false->(false=false/\True)/\True/\true=true))/\(((l.getD (Int.toNat (k:Int)) default).offset != 0)=false->(vcTableL_q1 b l k)/\(vcTableL_q2 b l k)))/\((!(l.getD (Int.toNat (k:Int)) default).here)=false->(vcTableL_q1 b l k)/\(vcTableL_q2 b l k))))/\(decide (1<=(l.getD (Int.toNat (k:Int)) default).seq)=false->(okFrom l k=true->False)/\(okFrom l k=false->(false=false/\True)/\True/\true=true))))/\(decide ((k:Int)<(l.length:Int))=false->(okFrom l k=true->((vcTableL_q3 b l)/\false=false/\True)/\True/\true=true)/\(okFrom l k=false->False))
theorem vcTableL_eq (b:Bool) (l:List Producer) (k:Nat):(loopVC Tryz.prog (hT _) 43 2 (fun k=>l.length - k) (tabT b l) (fun _=>[]) [0] (tabO l) (tabS b l) k)=vcTableL b l k:=by kernel_rfl
theorem table_loop (b:Bool) (l:List Producer) (hl:l.length<=9223372036854775806) (k:Nat):LoopOk Tryz.prog 43 2 (loopAt Tryz.prog 43 2) ⟨tabT b l k,[],[]⟩ ((tabO l k).map (lout [0] (tabS b l))):=by
 refine loop_vc Tryz.mixed (fun _=>rfl) (fun k=>(vcTableL_eq b l k).mpr ?_) k
 unfold vcTableL vcTableL_q2 vcTableL_q1 vcTableL_q3
 simp
 refine ⟨fun h=>?_,fun h=>by simp [okFrom_end h]⟩
 rw [okFrom_step h]
 simp (disch:=omega) only [wrap_i64]
 simp [okP,cast_succ_eq]
 grind
noncomputable def tabH (b:Bool) (l:List Producer):HintsT Tryz.prog:=hh _ (lp1 43 2 (jobOf (tabT b l) (fun _=>[]) [0] (tabO l) (tabS b l) 0) noLp) noCs noOp
def tabR (l:List Producer):T An:=.ret (.y (.bool (isTable l)),[],[])
def vcTable (b:Bool) (l:List Producer):Prop :=
 (((b=b/\l.length=l.length/\contLe l.length 4 (cellsOf' encP l) (cellsOf' encP l))/\false=false/\(b=b/\l.length=l.length/\contLe l.length 4 (cellsOf' encP l) (cellsOf' encP l))/\(l.length:Int)=(l.length:Int)/\(0:Int)=0/\True)/\True/\true=true)/\LoopOk Tryz.prog 43 2 (loopAt Tryz.prog 43 2) { t:=tabT b l 0,m:=[],mv:=[]:St } (T.map (lout [0] (tabS b l)) (tabO l 0))/\(okFrom l 0=true->decide ((l.length:Int)<=256)=isTable l/\True)/\(okFrom l 0=false->false=isTable l/\True)
theorem vcTable_eq (b:Bool) (l:List Producer):(ctrVC Tryz.prog (tabH b l) 43 [encPs b l] [] (tabR l))=vcTable b l:=by kernel_rfl
theorem table_c (b:Bool) (l:List Producer) (hl:l.length<=9223372036854775806):(tabR l).Sat (ACall' Tryz.prog 43 [encPs b l] []):=by
 refine ctr_vc (ht:=(tabH b l)) Tryz.mixed rfl ?_
 rw [vcTable_eq b l]
 unfold vcTable
 have:=table_loop b l hl 0
 simp [isTable,this]
 grind
def tabT2 (b:Bool) (l:List Producer) (k:Nat):List AV:=mkT 69 [(0,encPs b l),(2,.s (.bool false)),(3,.y (.int .i64 k))]
def tabS2 (b:Bool) (l:List Producer) (r:Bool):Exit×List AV×List Blk:=match r with
 | true=>(.exit 0,mkT 69 [(0,encPs b l)],[])
 | false=>(.ret,mkT 69 [(2,.s (.bool false))],[])
def vcTableL2 (b:Bool) (l:List Producer) (k:Nat):Prop :=
 (decide ((k:Int)<(l.length:Int))=true->(true&&decide ((k:Int)<(l.length:Int)))=true/\(((l.getD (Int.toNat (k:Int)) default).id==0)=true->(okFrom l k=true->False)/\(okFrom l k=false->(false=false/\True)/\True/\true=true))/\(((l.getD (Int.toNat (k:Int)) default).id==0)=false->(true&&decide ((k:Int)<(l.length:Int)))=true/\(decide ((l.getD (Int.toNat (k:Int)) default).seq<1)=true->(okFrom l k=true->False)/\(okFrom l k=false->(false=false/\True)/\True/\true=true))/\(decide ((l.getD (Int.toNat (k:Int)) default).seq<1)=false->(true&&decide ((k:Int)<(l.length:Int)))=true/\(decide (9223372036854775807<(l.getD (Int.toNat (k:Int)) default).seq)=true->(okFrom l k=true->False)/\(okFrom l k=false->(false=false/\True)/\True/\true=true))/\(decide (9223372036854775807<(l.getD (Int.toNat (k:Int)) default).seq)=false->(true&&decide ((k:Int)<(l.length:Int)))=true/\((!(l.getD (Int.toNat (k:Int)) default).here)=true->(true&&decide ((k:Int)<(l.length:Int)))=true/\(((l.getD (Int.toNat (k:Int)) default).offset != 0)=true->(okFrom l k=true->False)/\(okFrom l k=false->(false=false/\True)/\True/\true=true))/\(((l.getD (Int.toNat (k:Int)) default).offset != 0)=false->(decide (0<(k:Int))=true->(decide (0<=IntKind.i64.wrap ((k:Int) - 1))&&decide (IntKind.i64.wrap ((k:Int) - 1)<(l.length:Int)))=true/\(true&&decide ((k:Int)<(l.length:Int)))=true/\(decide ((l.getD (Int.toNat (k:Int)) default).id<=(l.getD (Int.toNat (IntKind.i64.wrap ((k:Int) - 1))) default).id)=true->(okFrom l k=true->False)/\(okFrom l k=false->(false=false/\True)/\True/\true=true))/\(decide ((l.getD (Int.toNat (k:Int)) default).id<=(l.getD (Int.toNat (IntKind.i64.wrap ((k:Int) - 1))) default).id)=false->∃ j:Nat,l.length - j<l.length - k/\(((b=b/\l.length=l.length/\contLe l.length 4 (cellsOf' encP l) (cellsOf' encP l))/\false=false/\IntKind.i64.wrap ((k:Int)+1)=(j:Int)/\True)/\True/\true=true)/\true=true/\(okFrom l j=true->(okFrom l k=true->true=true)/\(okFrom l k=false->true=false))/\(okFrom l j=false->(okFrom l k=true->false=true)/\(okFrom l k=false->false=false))))/\(decide (0<(k:Int))=false->∃ j:Nat,l.length - j<l.length - k/\(((b=b/\l.length=l.length/\contLe l.length 4 (cellsOf' encP l) (cellsOf' encP l))/\false=false/\IntKind.i64.wrap ((k:Int)+1)=(j:Int)/\True)/\True/\true=true)/\true=true/\(okFrom l j=true->(okFrom l k=true->true=true)/\(okFrom l k=false->true=false))/\(okFrom l j=false->(okFrom l k=true->false=true)/\(okFrom l k=false->false=false)))))/\((!(l.getD (Int.toNat (k:Int)) default).here)=false->(decide (0<(k:Int))=true->(decide (0<=IntKind.i64.wrap ((k:Int) - 1))&&decide (IntKind.i64.wrap ((k:Int) - 1)<(l.length:Int)))=true/\(true&&decide ((k:Int)<(l.length:Int)))=true/\(decide ((l.getD (Int.toNat (k:Int)) default).id<=(l.getD (Int.toNat (IntKind.i64.wrap ((k:Int) - 1))) default).id)=true->(okFrom l k=true->False)/\(okFrom l k=false->(false=false/\True)/\True/\true=true))/\(decide ((l.getD (Int.toNat (k:Int)) default).id<=(l.getD (Int.toNat (IntKind.i64.wrap ((k:Int) - 1))) default).id)=false->∃ j:Nat,l.length - j<l.length - k/\(((b=b/\l.length=l.length/\contLe l.length 4 (cellsOf' encP l) (cellsOf' encP l))/\false=false/\IntKind.i64.wrap ((k:Int)+1)=(j:Int)/\True)/\True/\true=true)/\true=true/\(okFrom l j=true->(okFrom l k=true->true=true)/\(okFrom l k=false->true=false))/\(okFrom l j=false->(okFrom l k=true->false=true)/\(okFrom l k=false->false=false))))/\(decide (0<(k:Int))=false->∃ j:Nat,l.length - j<l.length - k/\(((b=b/\l.length=l.length/\contLe l.length 4 (cellsOf' encP l) (cellsOf' encP l))/\false=false/\IntKind.i64.wrap ((k:Int)+1)=(j:Int)/\True)/\True/\true=true)/\true=true/\(okFrom l j=true->(okFrom l k=true->true=true)/\(okFrom l k=false->true=false))/\(okFrom l j=false->(okFrom l k=true->false=true)/\(okFrom l k=false->false=false))))))))/\(decide ((k:Int)<(l.length:Int))=false->(okFrom l k=true->((b=b/\l.length=l.length/\contLe l.length 4 (cellsOf' encP l) (cellsOf' encP l))/\True)/\True/\true=true)/\(okFrom l k=false->False))
theorem vcTableL2_eq (b:Bool) (l:List Producer) (k:Nat):(loopVC Tryz.prog (hT _) 65 4 (fun k=>l.length - k) (tabT2 b l) (fun _=>[]) [0] (tabO l) (tabS2 b l) k)=vcTableL2 b l k:=by kernel_rfl
theorem table_loop2 (b:Bool) (l:List Producer) (hl:l.length<=9223372036854775806) (k:Nat):LoopOk Tryz.prog 65 4 (loopAt Tryz.prog 65 4) ⟨tabT2 b l k,[],[]⟩ ((tabO l k).map (lout [0] (tabS2 b l))):=by
 refine loop_vc Tryz.mixed (fun _=>rfl) (fun k=>(vcTableL2_eq b l k).mpr ?_) k
 unfold vcTableL2
 simp
 refine ⟨fun h=>?_,fun h=>by simp [okFrom_end h]⟩
 rw [okFrom_step h]
 simp (disch:=omega) only [wrap_i64]
 simp [okP,cast_succ_eq]
 grind
noncomputable def tabH2 (b:Bool) (l:List Producer):HintsT Tryz.prog:=hh _ (lp1 65 4 (jobOf (tabT2 b l) (fun _=>[]) [0] (tabO l) (tabS2 b l) 0) noLp) noCs noOp
def vcTable2 (b:Bool) (l:List Producer):Prop :=
 (decide (256<(l.length:Int))=true->false=isTable l/\True)/\(decide (256<(l.length:Int))=false->(((b=b/\l.length=l.length/\contLe l.length 4 (cellsOf' encP l) (cellsOf' encP l))/\false=false/\(0:Int)=0/\True)/\True/\true=true)/\LoopOk Tryz.prog 65 4 (loopAt Tryz.prog 65 4) { t:=tabT2 b l 0,m:=[],mv:=[]:St } (T.map (lout [0] (tabS2 b l)) (tabO l 0))/\(okFrom l 0=true->true=isTable l/\True)/\(okFrom l 0=false->false=isTable l/\True))
theorem vcTable2_eq (b:Bool) (l:List Producer):(ctrVC Tryz.prog (tabH2 b l) 65 [encPs b l] [] (tabR l))=vcTable2 b l:=by kernel_rfl
theorem table2_c (b:Bool) (l:List Producer) (hl:l.length<=9223372036854775806):(tabR l).Sat (ACall' Tryz.prog 65 [encPs b l] []):=by
 refine ctr_vc (ht:=(tabH2 b l)) Tryz.mixed rfl ?_
 rw [vcTable2_eq b l]
 unfold vcTable2
 have:=table_loop2 b l hl 0
 simp [isTable,this]
 refine ⟨fun h _=>by omega,fun h=>⟨fun h2=>⟨h2,by omega⟩,fun h2 h3=>by simp [h2] at h3⟩⟩
end Go.Proofs.YtckklclehofddaaGreatDoor.P

namespace Go.Proofs.YtckklclehofddaaGreatDoor.P
open Go.Ax
set_option maxRecDepth 1000000
def has (id:Int) (x:Producer):Bool:=x.id==id
def findD (l:List Producer) (id:Int):Producer:=(l.find? (has id)).getD default
def findI (l:List Producer) (id:Int):Bool:=(l.find? (has id)).isSome
theorem findI_cons (x:Producer) (r:List Producer) (id:Int):findI (x::r) id=(x.id==id||findI r id):=by
 simp only [findI,List.find?_cons,has]
 cases h:x.id==id<;>simp
theorem findD_cons (x:Producer) (r:List Producer) (id:Int):findD (x::r) id=if x.id=id then x else findD r id:=by
 simp only [findD,List.find?_cons,has]
 by_cases h:x.id=id
 · simp [h]
 · have h':(x.id==id)=false:=by simpa using h
   simp [h,h']
theorem idx_cons (x:Producer) (r:List Producer) (id:Int):(x::r).findIdx (has id)=if x.id=id then 0 else r.findIdx (has id)+1:=by
 simp only [List.findIdx_cons,has]
 by_cases h:x.id=id
 · simp [h]
 · have h':(x.id==id)=false:=by simpa using h
   simp [h,h']
def zeroP:List AV:=[.s (.int .u64 0),.s (.int .u64 0),.s (.bool false),.s (.int .u64 0)]
def fstT (b:Bool) (id:Int) (l:List Producer) (k:Nat):List AV:=mkT 21 [(1,.fn (.func 82) [] [.ip false 1 (fun _=>.y (.int .u64 id))]),(4,.ptr 0 0 0 0),(5,.s (.bool false)),(9,encPs b l),(10,.y (.int .i64 l.length)),(11,.y (.int .i64 k))]
def fstM:List Blk:=[.box 39 zeroP]
def fstS (r:Bool×Producer):Exit×List AV×List Blk:=match r.1 with
 | true=>(.ret,mkT 21 [(4,.ptr 0 0 0 0),(5,.s (.bool true))],[.box 39 (encP r.2)])
 | false=>(.exit 0,mkT 21 [(4,.ptr 0 0 0 0),(5,.s (.bool false))],fstM)
def fstO (id:Int) (l:List Producer) (k:Nat):T (Bool×Producer):=.ite (findI (l.drop k) id) (.ret (true,findD (l.drop k) id)) (.ret (false,default))
def vcFirstL (b:Bool) (id:Int) (l:List Producer) (k:Nat):Prop :=
 (decide ((k:Int)<(l.length:Int))=true->(true&&decide ((k:Int)<(l.length:Int)))=true/\(((l.getD (Int.toNat (k:Int)) default).id==id)=true->(findI (List.drop k l) id=true->((0=0/\0=0)/\true=true/\True)/\(((l.getD (Int.toNat (k:Int)) default).id=(findD (List.drop k l) id).id/\(l.getD (Int.toNat (k:Int)) default).seq=(findD (List.drop k l) id).seq/\(l.getD (Int.toNat (k:Int)) default).here=(findD (List.drop k l) id).here/\(l.getD (Int.toNat (k:Int)) default).offset=(findD (List.drop k l) id).offset/\True)/\True)/\true=true)/\(findI (List.drop k l) id=false->False))/\(((l.getD (Int.toNat (k:Int)) default).id==id)=false->∃ j:Nat,l.length - j<l.length - k/\(((True/\(false=false/\1<=1/\cellLe 1 (fun (x:Nat)=>AV.y (.int .u64 id)) fun (x:Nat)=>AV.y (.int .u64 id))/\True)/\(0=0/\0=0)/\false=false/\(b=b/\l.length=l.length/\contLe l.length 4 (cellsOf' encP l) (cellsOf' encP l))/\(l.length:Int)=(l.length:Int)/\IntKind.i64.wrap ((k:Int)+1)=(j:Int)/\True)/\(((0:Int)=0/\(0:Int)=0/\false=false/\(0:Int)=0/\True)/\True)/\true=true)/\true=true/\(findI (List.drop j l) id=true->(findI (List.drop k l) id=true->(true,findD (List.drop j l) id)=(true,findD (List.drop k l) id))/\(findI (List.drop k l) id=false->(true,findD (List.drop j l) id)=(false,@default Producer instInhabitedProducer)))/\(findI (List.drop j l) id=false->(findI (List.drop k l) id=true->(false,@default Producer instInhabitedProducer)=(true,findD (List.drop k l) id))/\(findI (List.drop k l) id=false->(false,@default Producer instInhabitedProducer)=(false,@default Producer instInhabitedProducer)))))/\(decide ((k:Int)<(l.length:Int))=false->(findI (List.drop k l) id=true->False)/\(findI (List.drop k l) id=false->((0=0/\0=0)/\false=false/\True)/\(((0:Int)=0/\(0:Int)=0/\false=false/\(0:Int)=0/\True)/\True)/\true=true))
theorem vcFirstL_eq (b:Bool) (id:Int) (l:List Producer) (k:Nat):(loopVC Tryz.prog (hT _) 81 2 (fun k=>l.length - k) (fstT b id l) (fun _=>fstM) [0,1,2,3] (fstO id l) fstS k)=vcFirstL b id l k:=by kernel_rfl
theorem first_loop (b:Bool) (id:Int) (l:List Producer) (hl:l.length<=9223372036854775806)  (k:Nat):LoopOk Tryz.prog 81 2 (loopAt Tryz.prog 81 2) ⟨fstT b id l k,fstM,[]⟩ ((fstO id l k).map (lout [0,1,2,3] fstS)):=by
 refine loop_vc Tryz.mixed (fun _=>rfl) (fun k=>(vcFirstL_eq b id l k).mpr ?_) k
 unfold vcFirstL
 simp
 refine ⟨fun h=>?_,fun h=>by simp [findI,drop_end h]⟩
 simp (disch:=omega) only [wrap_i64]
 rw [drop_cons h]
 simp only [findI_cons,findD_cons]
 generalize l[k]?.getD default=x
 by_cases hx:x.id=id<;>simp [hx,h,cast_succ_eq]
 refine ⟨k+1,by omega,rfl,?_⟩
 grind
noncomputable def findH (b:Bool) (l:List Producer) (id:Int):HintsT Tryz.prog:=hh _ (lp1 81 2 (jobOf (fstT b id l) (fun _=>fstM) [0,1,2,3] (fstO id l) fstS 0) noLp) noCs noOp
def findR (l:List Producer) (id:Int):T An:=.ret (.tup [.agg (encP (findD l id)),.y (.bool (findI l id))],[],[])
def vcFind (b:Bool) (l:List Producer) (id:Int):Prop :=
 (((True/\(false=false/\1<=1/\cellLe 1 (fun (j:Nat)=>Ax.get [AV.y (.int .u64 id)] (0+j)) fun (x:Nat)=>AV.y (.int .u64 id))/\True)/\(0=0/\0=0)/\false=false/\(b=b/\l.length=l.length/\contLe l.length 4 (cellsOf' encP l) (cellsOf' encP l))/\(l.length:Int)=(l.length:Int)/\(0:Int)=0/\True)/\(((0:Int)=0/\(0:Int)=0/\false=false/\(0:Int)=0/\True)/\True)/\true=true)/\LoopOk Tryz.prog 81 2 (loopAt Tryz.prog 81 2) { t:=fstT b id l 0,m:=fstM,mv:=[]:St } (T.map (lout [0,1,2,3] fstS) (fstO id l 0))/\(findI (List.drop 0 l) id=true->true=true/\True/\(((findD (List.drop 0 l) id).id=(findD l id).id/\(findD (List.drop 0 l) id).seq=(findD l id).seq/\(findD (List.drop 0 l) id).here=(findD l id).here/\(findD (List.drop 0 l) id).offset=(findD l id).offset/\True)/\true=findI l id/\True)/\True)/\(findI (List.drop 0 l) id=false->true=true/\True/\((0=(findD l id).id/\0=(findD l id).seq/\false=(findD l id).here/\0=(findD l id).offset/\True)/\false=findI l id/\True)/\True)
theorem vcFind_eq (b:Bool) (l:List Producer) (id:Int):(ctrVC Tryz.prog (findH b l id) 49 [encPs b l,.y (.int .u64 id)] [] (findR l id))=vcFind b l id:=by kernel_rfl
theorem find_c (b:Bool) (l:List Producer) (id:Int) (hl:l.length<=9223372036854775806):(findR l id).Sat (ACall' Tryz.prog 49 [encPs b l,.y (.int .u64 id)] []):=by
 refine ctr_vc (ht:=(findH b l id)) Tryz.mixed rfl ?_
 rw [vcFind_eq b l id]
 unfold vcFind
 have:=first_loop b id l hl 0
 simp [this]
 by_cases hf:findI l id=true
 · simp [hf]
 · have e:l.find? (has id)=none:=by simpa [findI] using hf
   simp [hf,findD,e]
   exact ⟨rfl,rfl,rfl,rfl⟩
noncomputable def findC (b:Bool) (l:List Producer) (id:Int) (hl:l.length<=9223372036854775806):Ctr Tryz.prog:=⟨49,[encPs b l,.y (.int .u64 id)],[],findR l id,find_c b l id hl⟩
def idxT (b:Bool) (id:Int) (l:List Producer) (k:Nat):List AV:=mkT 20 [(0,encPs b l),(1,.y (.int .u64 id)),(4,.s (.int .i64 0)),(5,.y (.int .i64 k))]
def idxS (r:Bool×Nat):Exit×List AV×List Blk:=match r.1 with
 | true=>(.ret,mkT 20 [(4,.y (.int .i64 r.2))],[])
 | false=>(.exit 0,mkT 20 [],[])
def idxO (id:Int) (l:List Producer) (k:Nat):T (Bool×Nat):=.ite (findI (l.drop k) id) (.ret (true,k+(l.drop k).findIdx (has id))) (.ret (false,0))
def vcIdxL (b:Bool) (id:Int) (l:List Producer) (k:Nat):Prop :=
 (decide ((↑k:Int)<(↑(List.length l):Int))=true->(true&&decide ((↑k:Int)<(↑(List.length l):Int)))=true/\(((List.getD l (Int.toNat (↑k:Int)) (@default Producer instInhabitedProducer)).id==id)=true->(findI (List.drop k l) id=true->((↑k:Int)=(↑(k+List.findIdx (has id) (List.drop k l)):Int)/\True)/\True/\true=true)/\(findI (List.drop k l) id=false->False))/\(((List.getD l (Int.toNat (↑k:Int)) (@default Producer instInhabitedProducer)).id==id)=false->∃ (j:Nat),List.length l - j<List.length l - k/\(((b=b/\List.length l=List.length l/\contLe (List.length l) (4:Nat) (cellsOf' encP l) (cellsOf' encP l))/\id=id/\(0:Int)=(0:Int)/\IntKind.wrap IntKind.i64 ((↑k:Int)+(1:Int))=(↑j:Int)/\True)/\True/\true=true)/\true=true/\(findI (List.drop j l) id=true->(findI (List.drop k l) id=true->(true,j+List.findIdx (has id) (List.drop j l))=(true,k+List.findIdx (has id) (List.drop k l)))/\(findI (List.drop k l) id=false->(true,j+List.findIdx (has id) (List.drop j l))=(false,(0:Nat))))/\(findI (List.drop j l) id=false->(findI (List.drop k l) id=true->(false,(0:Nat))=(true,k+List.findIdx (has id) (List.drop k l)))/\(findI (List.drop k l) id=false->(false,(0:Nat))=(false,(0:Nat))))))/\(decide ((↑k:Int)<(↑(List.length l):Int))=false->(findI (List.drop k l) id=true->False)/\(findI (List.drop k l) id=false->True/\True/\true=true))
theorem vcIdxL_eq (b:Bool) (id:Int) (l:List Producer) (k:Nat):(loopVC Tryz.prog (hT _) 73 2 (fun k=>l.length - k) (idxT b id l) (fun _=>[]) [] (idxO id l) idxS k)=vcIdxL b id l k:=by kernel_rfl
theorem idx_loop (b:Bool) (id:Int) (l:List Producer) (hl:l.length<=9223372036854775806)  (k:Nat):LoopOk Tryz.prog 73 2 (loopAt Tryz.prog 73 2) ⟨idxT b id l k,[],[]⟩ ((idxO id l k).map (lout [] idxS)):=by
 refine loop_vc Tryz.mixed (fun _=>rfl) (fun k=>(vcIdxL_eq b id l k).mpr ?_) k
 unfold vcIdxL
 simp
 refine ⟨fun h=>?_,fun h=>by simp [findI,drop_end h]⟩
 simp (disch:=omega) only [wrap_i64]
 rw [drop_cons h]
 simp only [findI_cons,idx_cons]
 generalize l[k]?.getD default=x
 by_cases hx:x.id=id<;>simp [hx,h,cast_succ_eq]
 refine ⟨k+1,by omega,rfl,?_⟩
 grind
def idxZ (l:List Producer) (id:Int):Int:=if findI l id then (l.findIdx (has id):Nat) else -1
noncomputable def idxH (b:Bool) (l:List Producer) (id:Int):HintsT Tryz.prog:=hh _ (lp1 73 2 (jobOf (idxT b id l) (fun _=>[]) [] (idxO id l) idxS 0) noLp) noCs noOp
def idxR (l:List Producer) (id:Int):T An:=.ret (.y (.int .i64 (idxZ l id)),[],[])
def vcIdx (b:Bool) (l:List Producer) (id:Int):Prop :=
 (((b=b/\List.length l=List.length l/\contLe (List.length l) (4:Nat) (cellsOf' encP l) (cellsOf' encP l))/\id=id/\(0:Int)=(0:Int)/\(0:Int)=(0:Int)/\True)/\True/\true=true)/\LoopOk Tryz.prog (73:Nat) (2:Nat) (loopAt Tryz.prog (73:Nat) (2:Nat)) { t:=idxT b id l (0:Nat),m:=[],mv:=[]:St } (T.map (lout [] idxS) (idxO id l (0:Nat)))/\(findI (List.drop (0:Nat) l) id=true->(↑((0:Nat)+List.findIdx (has id) (List.drop (0:Nat) l)):Int)=idxZ l id/\True)/\(findI (List.drop (0:Nat) l) id=false->(-1:Int)=idxZ l id/\True)
theorem vcIdx_eq (b:Bool) (l:List Producer) (id:Int):(ctrVC Tryz.prog (idxH b l id) 73 [encPs b l,.y (.int .u64 id)] [] (idxR l id))=vcIdx b l id:=by kernel_rfl
theorem idx_c (b:Bool) (l:List Producer) (id:Int) (hl:l.length<=9223372036854775806):(idxR l id).Sat (ACall' Tryz.prog 73 [encPs b l,.y (.int .u64 id)] []):=by
 refine ctr_vc (ht:=(idxH b l id)) Tryz.mixed rfl ?_
 rw [vcIdx_eq b l id]
 unfold vcIdx
 have:=idx_loop b id l hl 0
 simp [this,idxZ]
theorem idx_lt {l:List Producer} {id:Int} (h:findI l id=true):l.findIdx (has id)<l.length:=by
 rw [List.findIdx_lt_length]
 simpa [findI,List.find?_isSome] using h
theorem idx_at {l:List Producer} {id:Int} (h:findI l id=true):l[l.findIdx (has id)]?.getD default=findD l id:=by
 have hlt:=idx_lt h
 unfold findD
 rw [List.getElem?_eq_getElem hlt]
 simp [List.find?_eq_getElem?_findIdx,hlt]
end Go.Proofs.YtckklclehofddaaGreatDoor.P

namespace Go.Proofs.YtckklclehofddaaGreatDoor.P
open Go.Ax
set_option maxRecDepth 1000000
def clnR (l:List Producer):T An:=.ret (.own 0 4 0 l.length,[.row 39 4 l.length none (cellsOf' encP l)],[])
noncomputable def clnH:HintsT Tryz.prog:=hh _ noLp noCs (op1 99 2 0 (.row 39 4) noOp)
def vcClone0 (l:List Producer):Prop :=
 (0=0/\0=l.length)/\(0=l.length/\contLe 0 4 (fun (x x_1:Nat)=>AV.junk) (cellsOf' encP l))/\True
theorem vcClone0_eq (l:List Producer):(ctrVC Tryz.prog clnH 99 [.s (.slice none 0 0)] [] (clnR l))=vcClone0 l:=by kernel_rfl
def vcClone1 (b:Bool) (l:List Producer):Prop :=
 (decide (0+l.length<=9223372036854775807)&&decide ((0+l.length)*32<=140737488355328))=true/\(0=0/\0+l.length=l.length)/\(0+l.length=l.length/\contLe (0+l.length) 4 (appRow 0 (fun (k j:Nat)=>AV.junk) (cellsOf' encP l)) (cellsOf' encP l))/\True
theorem vcClone1_eq (b:Bool) (l:List Producer):(ctrVC Tryz.prog clnH 99 [.yn b 4 l.length (cellsOf' encP l)] [] (clnR l))=vcClone1 b l:=by kernel_rfl
theorem clone_c (b:Bool) (l:List Producer) (hl:l.length*32<=140737488355328):(clnR l).Sat (ACall' Tryz.prog 99 [encPs b l] []):=by
 refine nil_cases (pre:=[]) (post:=[]) (fun h0=>?_) ?_ ⟨_,rfl⟩
 · refine ctr_vc (ht:=clnH) Tryz.mixed rfl ?_
   rw [List.nil_append,vcClone0_eq l]
   unfold vcClone0
   simp [h0]
 · refine ctr_vc (ht:=clnH) Tryz.mixed rfl ?_
   rw [List.nil_append,vcClone1_eq b l]
   unfold vcClone1
   simp
   omega
def ixT (b:Bool) (x:Producer) (l:List Producer) (k:Nat):List AV:=mkT 19 [(0,encPs b l),(1,.fn (.func 100) [] [.ip false 4 (get (encP x))]),(4,.s (.int .i64 0)),(7,.y (.int .i64 l.length)),(8,.y (.int .i64 k))]
def ixS (r:Bool×Nat):Exit×List AV×List Blk:=match r.1 with
 | true=>(.ret,mkT 19 [(4,.y (.int .i64 r.2))],[])
 | false=>(.exit 0,mkT 19 [],[])
def vcIxL (b:Bool) (x:Producer) (l:List Producer) (k:Nat):Prop :=
 (decide ((↑k:Int)<(↑(List.length l):Int))=true->(true&&decide ((↑k:Int)<(↑(List.length l):Int)))=true/\(((List.getD l (Int.toNat (↑k:Int)) (@default Producer instInhabitedProducer)).id==x.id)=true->(findI (List.drop k l) x.id=true->((↑k:Int)=(↑(k+List.findIdx (has x.id) (List.drop k l)):Int)/\True)/\True/\true=true)/\(findI (List.drop k l) x.id=false->False))/\(((List.getD l (Int.toNat (↑k:Int)) (@default Producer instInhabitedProducer)).id==x.id)=false->∃ (j:Nat),List.length l - j<List.length l - k/\(((b=b/\List.length l=List.length l/\contLe (List.length l) (4:Nat) (cellsOf' encP l) (cellsOf' encP l))/\(True/\(false=false/\(4:Nat)<=(4:Nat)/\cellLe (4:Nat) (Ax.get [AV.y (Value.int IntKind.u64 x.id),AV.y (Value.int IntKind.u64 x.seq),AV.y (Value.bool x.here),AV.y (Value.int IntKind.u64 x.offset)]) (Ax.get [AV.y (Value.int IntKind.u64 x.id),AV.y (Value.int IntKind.u64 x.seq),AV.y (Value.bool x.here),AV.y (Value.int IntKind.u64 x.offset)]))/\True)/\(0:Int)=(0:Int)/\(↑(List.length l):Int)=(↑(List.length l):Int)/\IntKind.wrap IntKind.i64 ((↑k:Int)+(1:Int))=(↑j:Int)/\True)/\True/\true=true)/\true=true/\(findI (List.drop j l) x.id=true->(findI (List.drop k l) x.id=true->(true,j+List.findIdx (has x.id) (List.drop j l))=(true,k+List.findIdx (has x.id) (List.drop k l)))/\(findI (List.drop k l) x.id=false->(true,j+List.findIdx (has x.id) (List.drop j l))=(false,(0:Nat))))/\(findI (List.drop j l) x.id=false->(findI (List.drop k l) x.id=true->(false,(0:Nat))=(true,k+List.findIdx (has x.id) (List.drop k l)))/\(findI (List.drop k l) x.id=false->(false,(0:Nat))=(false,(0:Nat))))))/\(decide ((↑k:Int)<(↑(List.length l):Int))=false->(findI (List.drop k l) x.id=true->False)/\(findI (List.drop k l) x.id=false->True/\True/\true=true))
theorem vcIxL_eq (b:Bool) (x:Producer) (l:List Producer) (k:Nat):(loopVC Tryz.prog (hT _) 79 2 (fun k=>l.length - k) (ixT b x l) (fun _=>[]) [] (idxO x.id l) ixS k)=vcIxL b x l k:=by kernel_rfl
theorem ix_loop (b:Bool) (x:Producer) (l:List Producer) (hl:l.length<=9223372036854775806) (k:Nat):LoopOk Tryz.prog 79 2 (loopAt Tryz.prog 79 2) ⟨ixT b x l k,[],[]⟩ ((idxO x.id l k).map (lout [] ixS)):=by
 refine loop_vc Tryz.mixed (fun _=>rfl) (fun k=>(vcIxL_eq b x l k).mpr ?_) k
 unfold vcIxL
 simp
 refine ⟨fun h=>?_,fun h=>by simp [findI,drop_end h]⟩
 simp (disch:=omega) only [wrap_i64]
 rw [drop_cons h]
 simp only [findI_cons,idx_cons]
 generalize l[k]?.getD default=y
 by_cases hx:y.id=x.id<;>simp [hx,h,cast_succ_eq]
 refine ⟨k+1,by omega,rfl,?_⟩
 grind
noncomputable def ixH (b:Bool) (x:Producer) (l:List Producer):HintsT Tryz.prog:=hh _ (lp1 79 2 (jobOf (ixT b x l) (fun _=>[]) [] (idxO x.id l) ixS 0) noLp) noCs noOp
def vcIx (b:Bool) (x:Producer) (l:List Producer):Prop :=
 (((b=b/\List.length l=List.length l/\contLe (List.length l) (4:Nat) (cellsOf' encP l) (cellsOf' encP l))/\(True/\(false=false/\(4:Nat)<=(4:Nat)/\cellLe (4:Nat) (Ax.get [AV.y (Value.int IntKind.u64 x.id),AV.y (Value.int IntKind.u64 x.seq),AV.y (Value.bool x.here),AV.y (Value.int IntKind.u64 x.offset)]) (Ax.get [AV.y (Value.int IntKind.u64 x.id),AV.y (Value.int IntKind.u64 x.seq),AV.y (Value.bool x.here),AV.y (Value.int IntKind.u64 x.offset)]))/\True)/\(0:Int)=(0:Int)/\(↑(List.length l):Int)=(↑(List.length l):Int)/\(0:Int)=(0:Int)/\True)/\True/\true=true)/\LoopOk Tryz.prog (79:Nat) (2:Nat) (loopAt Tryz.prog (79:Nat) (2:Nat)) { t:=ixT b x l (0:Nat),m:=[],mv:=[]:St } (T.map (lout [] ixS) (idxO x.id l (0:Nat)))/\(findI (List.drop (0:Nat) l) x.id=true->(↑((0:Nat)+List.findIdx (has x.id) (List.drop (0:Nat) l)):Int)=idxZ l x.id/\True)/\(findI (List.drop (0:Nat) l) x.id=false->(-1:Int)=idxZ l x.id/\True)
theorem vcIx_eq (b:Bool) (x:Producer) (l:List Producer):(ctrVC Tryz.prog (ixH b x l) 79 [encPs b l,.fn (.func 100) [] [.ip false 4 (get (encP x))]] [] (idxR l x.id))=vcIx b x l:=by kernel_rfl
theorem ix_c (b:Bool) (x:Producer) (l:List Producer) (hl:l.length<=9223372036854775806):(idxR l x.id).Sat (ACall' Tryz.prog 79 [encPs b l,.fn (.func 100) [] [.ip false 4 (get (encP x))]] []):=by
 refine ctr_vc (ht:=ixH b x l) Tryz.mixed rfl ?_
 rw [vcIx_eq b x l]
 unfold vcIx
 have:=ix_loop b x l hl 0
 simp [this,idxZ]
noncomputable def ixC (b:Bool) (x:Producer) (l:List Producer) (hl:l.length<=9223372036854775806):Ctr Tryz.prog:=⟨79,[encPs b l,.fn (.func 100) [] [.ip false 4 (get (encP x))]],[],idxR l x.id,ix_c b x l hl⟩
end Go.Proofs.YtckklclehofddaaGreatDoor.P

namespace Go.Proofs.YtckklclehofddaaGreatDoor.P
open Go.Ax
set_option maxRecDepth 1000000
def keep (x:Producer) (y:Producer):Bool:=!(y.id==x.id)
def oth (l:List Producer) (x:Producer):List Producer:=l.filter (keep x)
structure DS (l:List Producer) (x:Producer) where
 i:Nat
 j:Nat
 L:List Producer
 len:L.length=l.length
 ij:i<=j
 jl:j<=l.length
 pre:L.take i=(l.take j).filter (keep x)
 suf:L.drop j=l.drop j
theorem DS.at {l:List Producer} {x:Producer} (q:DS l x):q.L[q.j]? = l[q.j]?:=by
 have:=congrArg (fun r:List Producer=>r[0]?) q.suf
 simpa [List.getElem?_drop] using this
theorem take_snoc (l:List Producer) (j:Nat) (h:j<l.length):l.take (j+1)=l.take j++[l[j]?.getD default]:=by
 rw [List.take_succ_eq_append_getElem h];simp [h]
def DS.put {l:List Producer} {x:Producer} (q:DS l x) (h:q.j<l.length) (hk:¬ (l[q.j]?.getD default).id=x.id):DS l x where
 i:=q.i+1
 j:=q.j+1
 L:=q.L.set q.i (l[q.j]?.getD default)
 len:=by simp [q.len]
 ij:=by have:=q.ij;omega
 jl:=by omega
 pre:=by
  have h1:=q.ij
  have h2:=q.len
  have h3:q.i<q.L.length:=by omega
  have hk':keep x (l[q.j]?.getD default)=true:=by unfold keep;simpa using hk
  rw [take_snoc l q.j h,List.filter_append,<- q.pre,List.take_succ_eq_append_getElem (by simpa using h3),List.filter_cons_of_pos hk',List.filter_nil]
  simp [List.take_set_of_le]
 suf:=by
  have h1:=q.ij
  have h2:=congrArg (fun r:List Producer=>r.drop 1) q.suf
  simp only [List.drop_drop] at h2
  rw [List.drop_set_of_lt (by omega)]
  exact h2
def DS.skip {l:List Producer} {x:Producer} (q:DS l x) (h:q.j<l.length) (hk:(l[q.j]?.getD default).id=x.id):DS l x where
 i:=q.i
 j:=q.j+1
 L:=q.L
 len:=q.len
 ij:=by have:=q.ij;omega
 jl:=by omega
 pre:=by
  have hk':¬ keep x (l[q.j]?.getD default)=true:=by unfold keep;simpa using hk
  rw [take_snoc l q.j h,List.filter_append,<- q.pre,List.filter_cons_of_neg hk',List.filter_nil,List.append_nil]
 suf:=by
  have h2:=congrArg (fun r:List Producer=>r.drop 1) q.suf
  simpa only [List.drop_drop] using h2
def delT (l:List Producer) (x:Producer) (q:DS l x):List AV:=mkT 42 [(0,.own 1 4 0 l.length),(1,.fn (.func 100) [] [.ptr 0 0 0 0]),(5,.y (.int .i64 q.i)),(6,.y (.int .i64 q.j))]
def delM (l:List Producer) (x:Producer) (q:DS l x):List Blk:=[.box 39 (encP x),.row 39 4 l.length none (cellsOf' encP q.L)]
def delS (l:List Producer) (x:Producer) (_:Unit):Exit×List AV×List Blk:=(.exit 0,mkT 42 [(0,.own 1 4 0 l.length),(5,.y (.int .i64 (oth l x).length))],[.box 39 (encP x),.row 39 4 l.length none (cutRow (oth l x).length (cellsOf' encP (oth l x)))])
def vcDelL (l:List Producer) (x:Producer) (q:DS l x):Prop :=
 (decide ((q.j:Int)<(l.length:Int))=true->(true&&decide ((q.j:Int)<(l.length:Int)))=true/\decide (0+Int.toNat (q.j:Int)<l.length)=true/\true=true/\True/\((!(q.L.getD (0+Int.toNat (q.j:Int)) default).id==x.id)=true->(true&&decide ((q.i:Int)<(l.length:Int)))=true/\decide (0+Int.toNat (q.i:Int)<l.length)=true/\∃ (j:DS l x),l.length - j.j<l.length - q.j/\(((0=0/\l.length=l.length)/\(True/\(0=0/\0=0)/\True)/\IntKind.i64.wrap ((q.i:Int)+1)=(j.i:Int)/\IntKind.i64.wrap ((q.j:Int)+1)=(j.j:Int)/\True)/\((x.id=x.id/\x.seq=x.seq/\x.here=x.here/\x.offset=x.offset/\True)/\(l.length=l.length/\contLe l.length 4 (wrRow (cellsOf' encP q.L) (0+Int.toNat (q.i:Int)) 0 [AV.y (.int .u64 (q.L.getD (0+Int.toNat (q.j:Int)) default).id),AV.y (.int .u64 (q.L.getD (0+Int.toNat (q.j:Int)) default).seq),AV.y (.bool (q.L.getD (0+Int.toNat (q.j:Int)) default).here),AV.y (.int .u64 (q.L.getD (0+Int.toNat (q.j:Int)) default).offset)]) (cellsOf' encP j.L))/\True)/\true=true)/\true=true/\()=())/\((!(q.L.getD (0+Int.toNat (q.j:Int)) default).id==x.id)=false->∃ (j:DS l x),l.length - j.j<l.length - q.j/\(((0=0/\l.length=l.length)/\(True/\(0=0/\0=0)/\True)/\(q.i:Int)=(j.i:Int)/\IntKind.i64.wrap ((q.j:Int)+1)=(j.j:Int)/\True)/\((x.id=x.id/\x.seq=x.seq/\x.here=x.here/\x.offset=x.offset/\True)/\(l.length=l.length/\contLe l.length 4 (cellsOf' encP q.L) (cellsOf' encP j.L))/\True)/\true=true)/\true=true/\()=()))/\(decide ((q.j:Int)<(l.length:Int))=false->((0=0/\l.length=l.length)/\(q.i:Int)=((oth l x).length:Int)/\True)/\((x.id=x.id/\x.seq=x.seq/\x.here=x.here/\x.offset=x.offset/\True)/\(l.length=l.length/\contLe l.length 4 (cellsOf' encP q.L) (cutRow (oth l x).length (cellsOf' encP (oth l x))))/\True)/\true=true)
theorem vcDelL_eq (l:List Producer) (x:Producer) (q:DS l x):(loopVC Tryz.prog (hT _) 98 5 (fun q:DS l x=>l.length - q.j) (delT l x) (delM l x) [2,3,4] (fun _=>.ret ()) (delS l x) q)=vcDelL l x q:=by kernel_rfl
theorem del_loop (l:List Producer) (x:Producer) (hl:l.length<=9223372036854775806) (q:DS l x):LoopOk Tryz.prog 98 5 (loopAt Tryz.prog 98 5) ⟨delT l x q,delM l x q,[]⟩ (T.map (lout [2,3,4] (delS l x)) (.ret ())):=by
 refine loop_vc (o:=fun _=>.ret ()) Tryz.mixed (fun _=>rfl) (fun q=>(vcDelL_eq l x q).mpr ?_) q
 unfold vcDelL
 have h1:=q.ij
 have h2:=q.len
 have h3:=q.at
 simp
 rw [h3]
 refine ⟨fun h=>⟨h,fun hk=>⟨by omega,q.put h hk,?_,?_,?_⟩,fun hk=>⟨q.skip h hk,?_,?_,?_⟩⟩,fun h=>⟨?_,?_⟩⟩
 · show l.length - (q.j+1)<l.length - q.j;omega
 · show IntKind.i64.wrap (↑q.i+1)=↑(q.i+1)/\IntKind.i64.wrap (↑q.j+1)=↑(q.j+1)
   rw [wrap_i64 (by omega) (by omega),wrap_i64 (by omega) (by omega)];omega
 · exact wr_le q.len.symm (by omega) rfl fun j hj=>by
    match j,hj with
    | 0,_=>simp [encP]
    | 1,_=>simp [encP]
    | 2,_=>simp [encP]
    | 3,_=>simp [encP]
 · show l.length - (q.j+1)<l.length - q.j;omega
 · show (q.i:Int)=q.i/\IntKind.i64.wrap (↑q.j+1)=↑(q.j+1)
   rw [wrap_i64 (by omega) (by omega)];omega
 · exact contLe_refl _ _ _
 · have hp:=congrArg List.length q.pre
   have hj:=q.jl
   rw [List.take_of_length_le (l:=l) h,List.length_take] at hp
   unfold oth
   omega
 · have hp:=q.pre
   rw [List.take_of_length_le (l:=l) h] at hp
   refine cut_le fun k hk hm j hj=>?_
   have e:q.L[k]? = (oth l x)[k]?:=by
    unfold oth at hm ⊢
    rw [<- hp,List.getElem?_take,if_pos]
    rw [<- hp,List.length_take] at hm;omega
   simp [cellsOf',e]
def clr12:FuncId->Nat->Nat->Nat:=sh1 98 12 3 1 noSh
theorem oth_none {l:List Producer} {x:Producer} (h:findI l x.id=false):oth l x=l:=by
 unfold oth
 rw [List.filter_eq_self]
 intro a ha
 have:has x.id a=false:=by
  have h2:l.find? (has x.id)=none:=by simpa [findI] using h
  exact Bool.eq_false_iff.2 (List.find?_eq_none.1 h2 a ha)
 simpa [keep,has] using this
def DS.start (l:List Producer) (x:Producer) (h:findI l x.id=true):DS l x where
 i:=l.findIdx (has x.id)
 j:=l.findIdx (has x.id)+1
 L:=l
 len:=rfl
 ij:=by omega
 jl:=idx_lt h
 pre:=by
  have hlt:=idx_lt h
  rw [take_snoc l _ hlt,List.filter_append,idx_at h]
  have h1:has x.id (findD l x.id)=true:=by
   rw [<- idx_at h]
   have:=List.findIdx_getElem (w:=hlt)
   simpa [hlt] using this
  have h2:[findD l x.id].filter (keep x)=[]:=by
   simp [keep];simpa [has] using h1
  rw [h2,List.append_nil]
  symm
  rw [List.filter_eq_self]
  intro a ha
  obtain ⟨k,hk,rfl⟩:=List.mem_iff_getElem.1 ha
  simp only [List.length_take] at hk
  have h3:=List.not_of_lt_findIdx (p:=has x.id) (xs:=l) (i:=k) (by omega)
  rw [List.getElem_take]
  simpa [keep,has] using h3
 suf:=rfl
noncomputable def delJ (l:List Producer) (x:Producer):FuncId->Nat->St->Option Job:=fun f k s =>
 match Nat.beq f 98&&Nat.beq k 5 with
 | true=>some ⟨mkT 42 [(0,.own 1 4 0 l.length),(1,.fn (.func 100) [] [.ptr 0 0 0 0]),(5,.y (.int .i64 (l.findIdx (has x.id):Nat))),(6,.y (.int .i64 (l.findIdx (has x.id)+1:Nat)))],[.box 39 (encP x),.row 39 4 l.length none (cellsOf' encP l)],T.map (lout [2,3,4] (delS l x)) (.ret ())⟩
 | false=>none
noncomputable def delH (l:List Producer) (x:Producer) (hl:l.length<=9223372036854775806):HintsT Tryz.prog :=
 withSh (hh _ (delJ l x) (cs1 98 1 2 (ixC false x l hl) noCs) noOp) clr12
def delR (l:List Producer) (x:Producer):T An:=.ret (.own 1 4 0 (oth l x).length,[.box 39 (encP x),.row 39 4 (oth l x).length none (cellsOf' encP (oth l x))],[1,2,3,4])
def delMs (l:List Producer) (x:Producer):List Blk:=[.box 39 (encP x),.row 39 4 l.length none (cellsOf' encP l)]
def vcDel (l:List Producer) (x:Producer) (hl:l.length<=9223372036854775806):Prop :=
 ((false=false/\List.length l=List.length l/\contLe (List.length l) (4:Nat) (Ax.rowAt (0:Nat) (cellsOf' encP l)) (cellsOf' encP l))/\(True/\(false=false/\(4:Nat)<=(4:Nat)/\cellLe (4:Nat) (fun (j:Nat)=>Ax.get [AV.y (Value.int IntKind.u64 x.id),AV.y (Value.int IntKind.u64 x.seq),AV.y (Value.bool x.here),AV.y (Value.int IntKind.u64 x.offset)] ((0:Nat)+j)) (Ax.get [AV.y (Value.int IntKind.u64 x.id),AV.y (Value.int IntKind.u64 x.seq),AV.y (Value.bool x.here),AV.y (Value.int IntKind.u64 x.offset)]))/\True)/\True)/\True/\true=true/\True/\((idxZ l x.id==(-1:Int))=true->((0:Nat)=(0:Nat)/\List.length l=List.length (oth l x))/\(x.id=x.id/\x.seq=x.seq/\x.here=x.here/\x.offset=x.offset/\True)/\(List.length l=List.length (oth l x)/\contLe (List.length l) (4:Nat) (cellsOf' encP l) (cellsOf' encP (oth l x)))/\True)/\((idxZ l x.id==(-1:Int))=false->((((0:Nat)=(0:Nat)/\List.length l=List.length l)/\(True/\((0:Nat)=(0:Nat)/\(0:Nat)=(0:Nat))/\True)/\idxZ l x.id=(↑(List.findIdx (has x.id) l):Int)/\IntKind.wrap IntKind.i64 (idxZ l x.id+(1:Int))=(↑(List.findIdx (has x.id) l+(1:Nat)):Int)/\True)/\((x.id=x.id/\x.seq=x.seq/\x.here=x.here/\x.offset=x.offset/\True)/\(List.length l=List.length l/\contLe (List.length l) (4:Nat) (cellsOf' encP l) (cellsOf' encP l))/\True)/\true=true)/\LoopOk Tryz.prog (98:Nat) (5:Nat) (loopAt Tryz.prog (98:Nat) (5:Nat)) { t:=mkT (42:Nat) [((0:Nat),AV.own (1:Nat) (4:Nat) (0:Nat) (List.length l)),((1:Nat),AV.fn (Fn.func (100:FuncId)) [] [AV.ptr (0:Nat) (0:Nat) (0:Nat) (0:Nat)]),((5:Nat),AV.y (Value.int IntKind.i64 (↑(List.findIdx (has x.id) l):Int))),((6:Nat),AV.y (Value.int IntKind.i64 (↑(List.findIdx (has x.id) l+(1:Nat)):Int)))],m:=[Blk.box (39:TypeId) (encP x),Blk.row (39:TypeId) (4:Nat) (List.length l) none (cellsOf' encP l)],mv:=[]:St } (T.map (lout [(2:Nat),(3:Nat),(4:Nat)] (delS l x)) (T.ret ()))/\(true&&decide ((↑(List.length (oth l x)):Int)<=(↑(List.length l):Int))&&decide ((↑(List.length l):Int)<=(↑(List.length l):Int)))=true/\(true&&decide ((↑(List.length (oth l x)):Int)<=(↑(List.length l):Int)))=true/\((0:Nat)=(0:Nat)/\Int.toNat (↑(List.length (oth l x)):Int) - (0:Nat)=List.length (oth l x))/\(x.id=x.id/\x.seq=x.seq/\x.here=x.here/\x.offset=x.offset/\True)/\(Int.toNat (↑(List.length (oth l x)):Int) - (0:Nat)=List.length (oth l x)/\contLe (Int.toNat (↑(List.length (oth l x)):Int) - (0:Nat)) (4:Nat) (clrRow ((0:Nat)+Int.toNat (↑(List.length (oth l x)):Int)) (Int.toNat (↑(List.length l):Int) - Int.toNat (↑(List.length (oth l x)):Int)) (cutRow (List.length (oth l x)) (cellsOf' encP (oth l x)))) (cellsOf' encP (oth l x)))/\True)
theorem vcDel_eq (l:List Producer) (x:Producer) (hl:l.length<=9223372036854775806):(ctrVC Tryz.prog (delH l x hl) 98 [.own 1 4 0 l.length,.fn (.func 100) [] [.ptr 0 0 0 0]] (delMs l x) (delR l x))=vcDel l x hl:=by kernel_rfl
theorem del_c (l:List Producer) (x:Producer) (hl:l.length<=9223372036854775806):(delR l x).Sat (ACall' Tryz.prog 98 [.own 1 4 0 l.length,.fn (.func 100) [] [.ptr 0 0 0 0]] (delMs l x)):=by
 refine ctr_vc (ht:=delH l x hl) Tryz.mixed rfl ?_
 rw [vcDel_eq l x hl]
 unfold vcDel
 have hm:(oth l x).length<=l.length:=List.length_filter_le _ _
 by_cases hf:findI l x.id=true
 · have:=del_loop l x hl (DS.start l x hf)
   have h2:=idx_lt hf
   simp [idxZ,hf,encP]
   refine ⟨wrap_i64 (by omega) (by omega),?_,hm,clr_cut (contLe_refl _ _ _) rfl⟩
   simpa [delT,delM,DS.start,encP] using this
 · have hf':findI l x.id=false:=by simpa using hf
   have e:=oth_none hf'
   simp [idxZ,hf',encP,e]
end Go.Proofs.YtckklclehofddaaGreatDoor.P

namespace Go.Proofs.YtckklclehofddaaGreatDoor.P
open Go.Ax
set_option maxRecDepth 1000000
def rising (l:List Producer):Prop:=∀ i j,i<j->j<l.length->(l.getD i default).id<(l.getD j default).id
def below (l:List Producer) (id:Int):Nat:=(l.takeWhile (fun y=>decide (y.id<id))).length
theorem below_eq {l:List Producer} {id:Int} {i:Nat} (h:i<=l.length) (lo:∀ k,k<i->(l.getD k default).id<id) (hi:∀ k,i<=k->k<l.length->id<=(l.getD k default).id):below l id=i:=by
 unfold below
 have e:l=l.take i++l.drop i:=(List.take_append_drop i l).symm
 have h1:∀ a∈l.take i,decide (a.id<id)=true:=by
  intro a ha
  obtain ⟨k,hk,rfl⟩:=List.mem_iff_getElem.1 ha
  simp only [List.length_take] at hk
  have:=lo k (by omega)
  have hkl:k<l.length:=by omega
  simp [hkl] at this
  simpa using this
 have h2:(l.drop i).takeWhile (fun y=>decide (y.id<id))=[]:=by
  cases hd:l.drop i with
  | nil=>rfl
  | cons y r =>
    have hil:i<l.length:=by
     have:=congrArg List.length hd
     simp at this;omega
    have:=hi i (Nat.le_refl _) hil
    rw [List.drop_eq_getElem_cons hil] at hd
    cases hd
    simp [hil] at this
    rw [List.takeWhile_cons_of_neg]
    simpa using this
 rw [e,List.takeWhile_append_of_pos h1,h2,List.append_nil,List.length_take]
 omega
theorem rising_le {l:List Producer} (h:rising l) {i j:Nat} (hij:i<=j) (hj:j<l.length):(l.getD i default).id<=(l.getD j default).id:=by
 rcases Nat.lt_or_ge i j with h1 | h1
 · exact Int.le_of_lt (h i j h1 hj)
 · obtain rfl:i=j:=by omega
   exact Int.le_refl _
structure BS (l:List Producer) (x:Producer) where
 i:Nat
 j:Nat
 ij:i<=j
 jl:j<=l.length
 lo:∀ k,k<i->(l.getD k default).id<x.id
 hi:∀ k,j<=k->k<l.length->x.id<=(l.getD k default).id
def BS.up {l:List Producer} {x:Producer} (hr:rising l) (q:BS l x) (m:Nat) (h2:m<q.j) (hx:(l.getD m default).id<x.id):BS l x where
 i:=m+1
 j:=q.j
 ij:=by omega
 jl:=q.jl
 lo:=fun k hk=>by
  have:=q.jl
  have:=rising_le hr (i:=k) (j:=m) (by omega) (by omega)
  omega
 hi:=q.hi
def BS.down {l:List Producer} {x:Producer} (hr:rising l) (q:BS l x) (m:Nat) (h1:q.i<=m) (h2:m<q.j) (hx:x.id<=(l.getD m default).id):BS l x where
 i:=q.i
 j:=m
 ij:=h1
 jl:=by have:=q.jl;omega
 lo:=q.lo
 hi:=fun k hk hl=>by
  have:=rising_le hr (i:=m) (j:=k) hk hl
  omega
def bsT (b:Bool) (l:List Producer) (x:Producer) (q:BS l x):List AV:=mkT 49 [(0,encPs b l),(2,.fn (.func 102) [] []),(4,.ptr 0 0 0 0),(6,.s (.int .i64 0)),(7,.s (.bool false)),(8,.y (.int .i64 l.length)),(9,.y (.int .i64 q.i)),(10,.y (.int .i64 q.j))]
def bsM (x:Producer):List Blk:=[.box 39 (encP x)]
def bsS (b:Bool) (l:List Producer) (x:Producer) (_:Unit):Exit×List AV×List Blk:=(.exit 0,mkT 49 [(0,encPs b l),(2,.fn (.func 102) [] []),(4,.ptr 0 0 0 0),(8,.y (.int .i64 l.length)),(9,.y (.int .i64 (below l x.id)))],bsM x)
def vcBsL_q2 (b:Bool) (l:List Producer):Prop:=(b=b/\l.length=l.length/\contLe l.length 4 (cellsOf' encP l) (cellsOf' encP l))
def vcBsL_q3 (x:Producer):Prop:=((x.id=x.id/\x.seq=x.seq/\x.here=x.here/\x.offset=x.offset/\True)/\True)
def vcBsL_q1 (b:Bool) (l:List Producer) (x:Producer) (q:BS l x):Prop:=((x.id != x.id)=true->∃ (j:BS l x),j.j - j.i<q.j - q.i/\(((vcBsL_q2 b l)/\(True/\True)/\(0=0/\0=0)/\(0:Int)=0/\false=false/\(l.length:Int)=(l.length:Int)/\(q.i:Int)=(j.i:Int)/\IntKind.i64.wrap (IntKind.u64.wrap (IntKind.i64.wrap ((q.i:Int)+(q.j:Int))) / 2)=(j.j:Int)/\True)/\(vcBsL_q3 x)/\true=true)/\true=true/\()=())
def vcBsL (b:Bool) (l:List Producer) (x:Producer) (q:BS l x):Prop :=
 (decide ((q.i:Int)<(q.j:Int))=true->(decide (0<=IntKind.i64.wrap (IntKind.u64.wrap (IntKind.i64.wrap ((q.i:Int)+(q.j:Int))) / 2))&&decide (IntKind.i64.wrap (IntKind.u64.wrap (IntKind.i64.wrap ((q.i:Int)+(q.j:Int))) / 2)<(l.length:Int)))=true/\(((l.getD (Int.toNat (IntKind.i64.wrap (IntKind.u64.wrap (IntKind.i64.wrap ((q.i:Int)+(q.j:Int))) / 2))) default).id != (l.getD (Int.toNat (IntKind.i64.wrap (IntKind.u64.wrap (IntKind.i64.wrap ((q.i:Int)+(q.j:Int))) / 2))) default).id)=true->(vcBsL_q1 b l x q)/\((x.id != x.id)=false->∃ (j:BS l x),j.j - j.i<q.j - q.i/\(((vcBsL_q2 b l)/\(True/\True)/\(0=0/\0=0)/\(0:Int)=0/\false=false/\(l.length:Int)=(l.length:Int)/\IntKind.i64.wrap (IntKind.i64.wrap (IntKind.u64.wrap (IntKind.i64.wrap ((q.i:Int)+(q.j:Int))) / 2)+1)=(j.i:Int)/\(q.j:Int)=(j.j:Int)/\True)/\(vcBsL_q3 x)/\true=true)/\true=true/\()=()))/\(((l.getD (Int.toNat (IntKind.i64.wrap (IntKind.u64.wrap (IntKind.i64.wrap ((q.i:Int)+(q.j:Int))) / 2))) default).id != (l.getD (Int.toNat (IntKind.i64.wrap (IntKind.u64.wrap (IntKind.i64.wrap ((q.i:Int)+(q.j:Int))) / 2))) default).id)=false->(vcBsL_q1 b l x q)/\((x.id != x.id)=false->(decide ((l.getD (Int.toNat (IntKind.i64.wrap (IntKind.u64.wrap (IntKind.i64.wrap ((q.i:Int)+(q.j:Int))) / 2))) default).id<x.id)=true->∃ (j:BS l x),j.j - j.i<q.j - q.i/\(((vcBsL_q2 b l)/\(True/\True)/\(0=0/\0=0)/\(0:Int)=0/\false=false/\(l.length:Int)=(l.length:Int)/\IntKind.i64.wrap (IntKind.i64.wrap (IntKind.u64.wrap (IntKind.i64.wrap ((q.i:Int)+(q.j:Int))) / 2)+1)=(j.i:Int)/\(q.j:Int)=(j.j:Int)/\True)/\(vcBsL_q3 x)/\true=true)/\true=true/\()=())/\(decide ((l.getD (Int.toNat (IntKind.i64.wrap (IntKind.u64.wrap (IntKind.i64.wrap ((q.i:Int)+(q.j:Int))) / 2))) default).id<x.id)=false->(decide (x.id<(l.getD (Int.toNat (IntKind.i64.wrap (IntKind.u64.wrap (IntKind.i64.wrap ((q.i:Int)+(q.j:Int))) / 2))) default).id)=true->∃ (j:BS l x),j.j - j.i<q.j - q.i/\(((vcBsL_q2 b l)/\(True/\True)/\(0=0/\0=0)/\(0:Int)=0/\false=false/\(l.length:Int)=(l.length:Int)/\(q.i:Int)=(j.i:Int)/\IntKind.i64.wrap (IntKind.u64.wrap (IntKind.i64.wrap ((q.i:Int)+(q.j:Int))) / 2)=(j.j:Int)/\True)/\(vcBsL_q3 x)/\true=true)/\true=true/\()=())/\(decide (x.id<(l.getD (Int.toNat (IntKind.i64.wrap (IntKind.u64.wrap (IntKind.i64.wrap ((q.i:Int)+(q.j:Int))) / 2))) default).id)=false->∃ (j:BS l x),j.j - j.i<q.j - q.i/\(((vcBsL_q2 b l)/\(True/\True)/\(0=0/\0=0)/\(0:Int)=0/\false=false/\(l.length:Int)=(l.length:Int)/\(q.i:Int)=(j.i:Int)/\IntKind.i64.wrap (IntKind.u64.wrap (IntKind.i64.wrap ((q.i:Int)+(q.j:Int))) / 2)=(j.j:Int)/\True)/\(vcBsL_q3 x)/\true=true)/\true=true/\()=())))))/\(decide ((q.i:Int)<(q.j:Int))=false->((vcBsL_q2 b l)/\(True/\True)/\(0=0/\0=0)/\(l.length:Int)=(l.length:Int)/\(q.i:Int)=((below l x.id):Int)/\True)/\(vcBsL_q3 x)/\true=true)
theorem vcBsL_eq (b:Bool) (l:List Producer) (x:Producer) (q:BS l x):(loopVC Tryz.prog (hT _) 101 3 (fun q:BS l x=>q.j - q.i) (bsT b l x) (fun _=>bsM x) [1,2,3,4] (fun _=>.ret ()) (bsS b l x) q)=vcBsL b l x q:=by kernel_rfl
theorem bs_loop (b:Bool) (l:List Producer) (x:Producer) (hl:l.length<=4611686018427387900) (hr:rising l) (q:BS l x):LoopOk Tryz.prog 101 3 (loopAt Tryz.prog 101 3) ⟨bsT b l x q,bsM x,[]⟩ (T.map (lout [1,2,3,4] (bsS b l x)) (.ret ())):=by
 refine loop_vc (o:=fun _=>.ret ()) Tryz.mixed (fun _=>rfl) (fun q=>(vcBsL_eq b l x q).mpr ?_) q
 unfold vcBsL vcBsL_q1 vcBsL_q3 vcBsL_q2
 have h1:=q.ij
 have h2:=q.jl
 obtain ⟨m,hm⟩:∃ m,m=(q.i+q.j) / 2:=⟨_,rfl⟩
 have hw:IntKind.i64.wrap (IntKind.u64.wrap (IntKind.i64.wrap (↑q.i+↑q.j)) / 2)=(m:Int):=by
  rw [wrap_i64 (n:=↑q.i+↑q.j) (by omega) (by omega),wrap_u64 (by omega) (by omega),wrap_i64 (by omega) (by omega)];omega
 simp [hw]
 refine ⟨fun h=>⟨by omega,fun hx=>⟨q.up hr m (by omega) (by simpa using hx),?_,?_,rfl⟩,fun hx=>⟨fun _=>⟨q.down hr m (by omega) (by omega) (by simpa using hx),?_,rfl,rfl⟩,fun _=>⟨q.down hr m (by omega) (by omega) (by simpa using hx),?_,rfl,rfl⟩⟩⟩,fun h=>?_⟩
 · show q.j - (m+1)<q.j - q.i;omega
 · show IntKind.i64.wrap (m+1)=((m+1:Nat):Int)
   rw [wrap_i64 (by omega) (by omega)];omega
 · show m - q.i<q.j - q.i;omega
 · show m - q.i<q.j - q.i;omega
 · have:=below_eq (i:=q.i) (by omega) q.lo fun k hk hl=>q.hi k (by omega) hl
   omega
def BS.start (l:List Producer) (x:Producer):BS l x:=⟨0,l.length,Nat.zero_le _,Nat.le_refl _,fun _ h=>absurd h (Nat.not_lt_zero _),fun k h1 h2=>absurd h2 (by omega)⟩
noncomputable def bsH (b:Bool) (l:List Producer) (x:Producer):HintsT Tryz.prog:=hh _ (lp1 101 3 (jobOf (bsT b l x) (fun _=>bsM x) [1,2,3,4] (fun _=>.ret ()) (bsS b l x) (BS.start l x)) noLp) noCs noOp
def bsF (l:List Producer) (x:Producer):Bool:=decide (below l x.id<l.length)&&(l.getD (below l x.id) default).id==x.id
def bsR (l:List Producer) (x:Producer):T An:=.ret (.tup [.y (.int .i64 (below l x.id)),.y (.bool (bsF l x))],[],[])
def vcBs (b:Bool) (l:List Producer) (x:Producer):Prop :=
 (((b=b/\l.length=l.length/\contLe l.length 4 (cellsOf' encP l) (cellsOf' encP l))/\(True/\True)/\(0=0/\0=0)/\(0:Int)=0/\false=false/\(l.length:Int)=(l.length:Int)/\(0:Int)=0/\(l.length:Int)=(l.length:Int)/\True)/\((x.id=x.id/\x.seq=x.seq/\x.here=x.here/\x.offset=x.offset/\True)/\True)/\true=true)/\LoopOk Tryz.prog 101 3 (loopAt Tryz.prog 101 3) { t:=bsT b l x (BS.start l x),m:=bsM x,mv:=[]:St } (T.map (lout [1,2,3,4] (bsS b l x)) ((fun (x:BS l x)=>T.ret ()) (BS.start l x)))/\(decide (((below l x.id):Int)<(l.length:Int))=true->(true&&decide (((below l x.id):Int)<(l.length:Int)))=true/\(((l.getD (Int.toNat ((below l x.id):Int)) default).id != (l.getD (Int.toNat ((below l x.id):Int)) default).id)=true->((x.id != x.id)=true->(((below l x.id):Int)=((below l x.id):Int)/\true=bsF l x/\True)/\True)/\((x.id != x.id)=false->(((below l x.id):Int)=((below l x.id):Int)/\false=bsF l x/\True)/\True))/\(((l.getD (Int.toNat ((below l x.id):Int)) default).id != (l.getD (Int.toNat ((below l x.id):Int)) default).id)=false->((x.id != x.id)=true->(((below l x.id):Int)=((below l x.id):Int)/\false=bsF l x/\True)/\True)/\((x.id != x.id)=false->(decide ((l.getD (Int.toNat ((below l x.id):Int)) default).id<x.id)=true->(((below l x.id):Int)=((below l x.id):Int)/\false=bsF l x/\True)/\True)/\(decide ((l.getD (Int.toNat ((below l x.id):Int)) default).id<x.id)=false->(decide (x.id<(l.getD (Int.toNat ((below l x.id):Int)) default).id)=true->(((below l x.id):Int)=((below l x.id):Int)/\false=bsF l x/\True)/\True)/\(decide (x.id<(l.getD (Int.toNat ((below l x.id):Int)) default).id)=false->(((below l x.id):Int)=((below l x.id):Int)/\true=bsF l x/\True)/\True)))))/\(decide (((below l x.id):Int)<(l.length:Int))=false->(((below l x.id):Int)=((below l x.id):Int)/\false=bsF l x/\True)/\True)
theorem vcBs_eq (b:Bool) (l:List Producer) (x:Producer):(ctrVC Tryz.prog (bsH b l x) 101 [encPs b l,.agg (encP x),.fn (.func 102) [] []] [] (bsR l x))=vcBs b l x:=by kernel_rfl
theorem bs_c (b:Bool) (l:List Producer) (x:Producer) (hl:l.length<=4611686018427387900) (hr:rising l):(bsR l x).Sat (ACall' Tryz.prog 101 [encPs b l,.agg (encP x),.fn (.func 102) [] []] []):=by
 refine ctr_vc (ht:=bsH b l x) Tryz.mixed rfl ?_
 rw [vcBs_eq b l x]
 unfold vcBs
 have:=bs_loop b l x hl hr (BS.start l x)
 simp [bsF,this]
 grind
noncomputable def bsC (b:Bool) (l:List Producer) (x:Producer) (hl:l.length<=4611686018427387900) (hr:rising l):Ctr Tryz.prog:=⟨101,[encPs b l,.agg (encP x),.fn (.func 102) [] []],[],bsR l x,bs_c b l x hl hr⟩
noncomputable def clnC (b:Bool) (l:List Producer) (hl:l.length*32<=140737488355328):Ctr Tryz.prog:=⟨99,[encPs b l],[],clnR l,clone_c b l hl⟩
noncomputable def delC (l:List Producer) (x:Producer) (hl:l.length<=9223372036854775806):Ctr Tryz.prog:=⟨98,[.own 1 4 0 l.length,.fn (.func 100) [] [.ptr 0 0 0 0]],delMs l x,delR l x,del_c l x hl⟩
theorem oth_rising {l:List Producer} (h:rising l) (x:Producer):rising (oth l x):=by
 have key:∀ r:List Producer,rising r↔r.Pairwise (fun a b=>a.id<b.id):=by
  intro r
  rw [List.pairwise_iff_getElem]
  constructor
  · intro h i j hi hj hij
    have:=h i j hij hj
    simpa [hi,hj] using this
  · intro h i j hij hj
    have:=h i j (by omega) hj hij
    simpa [show i<r.length by omega,hj] using this
 rw [key] at h ⊢
 exact h.filter _
def putL (l:List Producer) (x:Producer):List Producer:=(oth l x).take (below (oth l x) x.id)++x::(oth l x).drop (below (oth l x) x.id)
theorem putL_len (l:List Producer) (x:Producer):(putL l x).length=(oth l x).length+1:=by
 unfold putL
 have:below (oth l x) x.id<=(oth l x).length:=(List.takeWhile_sublist _).length_le
 simp;omega
def rho:Go.Shelf.Ren:=⟨fun f=>match f with | 22=>104 | 29=>120 | 30=>121 | x=>x,fun t=>match t with | 24=>27 | 9=>39 | x=>x,fun x=>x⟩
theorem lay:InsLay Tryz.prog rho 4 32 ((Tryz.prog.info? 39).bind (·.zero) |>.getD undef) "slices.Insert[[]gazette/api.Producer,gazette/api.Producer]" where
 mixed:=by kernel_rfl
 f22:=by kernel_rfl
 ov:=fun w args=>by
  rw [show rho.f 29=120 from rfl,run_callFunc_extern (P:=Tryz.prog) (f:=120) (fn:=Tryz.f120) Tryz.func120 (by kernel_rfl) (by kernel_rfl) (by kernel_rfl) (e:=Extern.SlicesOverlaps.overlaps #[27,27] #[4]) (by kernel_rfl)]
  rfl
 t0:=by kernel_rfl
 a0:=fun w=>by kernel_rfl
 z0:=fun w=>by kernel_rfl
 v0:=fun w=>by kernel_rfl
 t3:=by kernel_rfl
 a3:=fun w=>by kernel_rfl
 z3:=fun w=>by kernel_rfl
 v3:=fun w=>by kernel_rfl
 t4:=by kernel_rfl
 a4:=fun w=>by kernel_rfl
 z4:=fun w=>by kernel_rfl
 v4:=fun w=>by kernel_rfl
 t24:=by kernel_rfl
 a24:=fun w=>by kernel_rfl
 z24:=fun w=>by kernel_rfl
 v24:=fun w=>by kernel_rfl
 z9:=fun w=>by kernel_rfl
 i9s:=by kernel_rfl
 i9:=by kernel_rfl
 pos:=by decide
 zc:=by kernel_rfl
noncomputable def putH (b:Bool) (l:List Producer) (x:Producer) (hl:l.length*32<=140737488355296) (hr:rising l):HintsT Tryz.prog :=
 withIns (withSub (hh _ noLp (cs1 88 1 1 (clnC b l (by omega)) (cs1 88 1 3 (delC l x (by omega)) (cs1 88 2 2 (bsC false (oth l x) x (by have:=List.length_filter_le (keep x) l;unfold oth;omega) (oth_rising hr x)) noCs))) noOp) [98,104]) lay
def putR (l:List Producer) (x:Producer):T An:=.ret (.own 0 4 0 (putL l x).length,[.row 39 4 (putL l x).length none (cellsOf' encP (putL l x))],[])
def vcPut (b:Bool) (l:List Producer) (x:Producer) (hl:l.length*32<=140737488355296) (hr:rising l):Prop :=
 ((b=b/\l.length=l.length/\contLe l.length 4 (cellsOf' encP l) (cellsOf' encP l))/\True)/\True/\((0=0/\l.length=l.length)/\(True/\(0=0/\0=0)/\True)/\True)/\((x.id=x.id/\x.seq=x.seq/\x.here=x.here/\x.offset=x.offset/\True)/\(l.length=l.length/\contLe l.length 4 (cellsOf' encP l) (cellsOf' encP l))/\True)/\((false=false/\(oth l x).length=(oth l x).length/\contLe (oth l x).length 4 (Ax.rowAt 0 (cellsOf' encP (oth l x))) (cellsOf' encP (oth l x)))/\(x.id=x.id/\x.seq=x.seq/\x.here=x.here/\x.offset=x.offset/\True)/\(True/\True)/\True)/\True/\true=true/\True/\((oth l x).length=(oth l x).length/\0<=((below (oth l x) x.id):Int)/\((below (oth l x) x.id):Int)<=((oth l x).length:Int)/\(oth l x).length+1<=9223372036854775807/\((oth l x).length+1)*32<=140737488355328)/\(0=0/\(oth l x).length+1=(putL l x).length)/\((oth l x).length+1=(putL l x).length/\contLe ((oth l x).length+1) 4 (insRow (Int.toNat ((below (oth l x) x.id):Int)) 1 (cellsOf' encP (oth l x)) fun (k j:Nat)=>Ax.get [AV.y (.int .u64 x.id),AV.y (.int .u64 x.seq),AV.y (.bool x.here),AV.y (.int .u64 x.offset)] (k*4+j)) (cellsOf' encP (putL l x)))/\True
theorem vcPut_eq (b:Bool) (l:List Producer) (x:Producer) (hl:l.length*32<=140737488355296) (hr:rising l):(ctrVC Tryz.prog (putH b l x hl hr) 88 [encPs b l,.agg (encP x)] [] (putR l x))=vcPut b l x hl hr:=by kernel_rfl
theorem put_c (b:Bool) (l:List Producer) (x:Producer) (hl:l.length*32<=140737488355296) (hr:rising l):(putR l x).Sat (ACall' Tryz.prog 88 [encPs b l,.agg (encP x)] []):=by
 refine ctr_vc (ht:=putH b l x hl hr) Tryz.mixed rfl ?_
 rw [vcPut_eq b l x hl hr]
 unfold vcPut
 have h1:(oth l x).length<=l.length:=List.length_filter_le _ _
 have h2:below (oth l x) x.id<=(oth l x).length:=(List.takeWhile_sublist _).length_le
 simp [encP,putL_len]
 refine ⟨⟨h2,by omega,by omega⟩,ins_le rfl h2 fun j hj=>?_⟩
 match j,hj with
 | 0,_=>simp [encP]
 | 1,_=>simp [encP]
 | 2,_=>simp [encP]
 | 3,_=>simp [encP]
noncomputable def putC (b:Bool) (l:List Producer) (x:Producer) (hl:l.length*32<=140737488355296) (hr:rising l):Ctr Tryz.prog:=⟨88,[encPs b l,.agg (encP x)],[],putR l x,put_c b l x hl hr⟩
end Go.Proofs.YtckklclehofddaaGreatDoor.P

namespace Go.Proofs.YtckklclehofddaaGreatDoor.P
open Go.Ax
set_option maxRecDepth 1000000
theorem okFrom_all {l:List Producer}:∀ (n k:Nat),l.length - k=n->okFrom l k=true->∀ j,k<=j->j<l.length->okP l j=true:=by
 intro n
 induction n with
 | zero=>intro k hk _ j h1 h2;omega
 | succ n ih =>
   intro k hk h j h1 h2
   rw [okFrom_step (by omega),Bool.and_eq_true] at h
   rcases Nat.lt_or_ge k j with h3 | h3
   · exact ih (k+1) (by omega) h.2 j (by omega) h2
   · obtain rfl:j=k:=by omega
     exact h.1
theorem table_rising {l:List Producer} (h:isTable l=true):rising l:=by
 unfold isTable at h
 rw [Bool.and_eq_true] at h
 have key:∀ j,0<j->j<l.length->(l.getD (j - 1) default).id<(l.getD j default).id:=by
  intro j h1 h2
  have:=okFrom_all _ 0 rfl h.1 j (Nat.zero_le _) h2
  simp [okP] at this
  rcases this.2 with h3 | h3
  · omega
  · simpa using h3
 have:∀ d i,i+d+1<l.length->(l.getD i default).id<(l.getD (i+d+1) default).id:=by
  intro d
  induction d with
  | zero=>intro i hi;exact key (i+1) (by omega) hi
  | succ d ih=>intro i hi;exact Int.lt_trans (ih i (by omega)) (key (i+(d+1)+1) (by omega) hi)
 intro i j hij hj
 obtain ⟨d,rfl⟩:∃ d,j=i+d+1:=⟨j - i - 1,by omega⟩
 exact this d i hj
noncomputable def putN (b:Bool) (l:List Producer) (x:Producer):Ctr Tryz.prog:=⟨88,[encPs b l,.agg (encP x)],[],.need (l.length*32<=140737488355296/\rising l) (putR l x),T.Sat.need fun h=>put_c b l x h.1 h.2⟩
end Go.Proofs.YtckklclehofddaaGreatDoor.P

namespace Go.Proofs.YtckklclehofddaaGreatDoor.P
open Go.Ax
set_option maxRecDepth 1000000
def eqP (x y:Producer):Bool:=x.id==y.id&&(x.seq==y.seq&&(x.here==y.here&&(x.offset==y.offset&&true)))
def sameFrom (a b:List Producer) (k:Nat):Bool:=(List.range' k (a.length - k)).all fun j=>eqP (a.getD j default) (b.getD j default)
def sameP (a b:List Producer):Bool:=a.length==b.length&&sameFrom a b 0
theorem sameFrom_end {a b:List Producer} {k:Nat} (h:a.length<=k):sameFrom a b k=true:=by
 unfold sameFrom
 rw [show a.length - k=0 by omega];rfl
theorem sameFrom_step {a b:List Producer} {k:Nat} (h:k<a.length):sameFrom a b k=(eqP (a.getD k default) (b.getD k default)&&sameFrom a b (k+1)):=by
 unfold sameFrom
 rw [show a.length - k=(a.length - (k+1))+1 by omega,List.range'_succ];rfl
def smT (b1 b2:Bool) (a b:List Producer) (k:Nat):List AV:=mkT 26 [(0,encPs b1 a),(1,encPs b2 b),(4,.s (.bool false)),(5,.y (.int .i64 k))]
def smS (r:Bool):Exit×List AV×List Blk:=match r with
 | true=>(.exit 0,mkT 26 [],[])
 | false=>(.ret,mkT 26 [(4,.s (.bool false))],[])
def smO (a b:List Producer) (k:Nat):T Bool:=.ite (sameFrom a b k) (.ret true) (.ret false)
def vcSameL (b1:Bool) (b2:Bool) (a:List Producer) (b:List Producer) (k:Nat):Prop :=
 (decide ((k:Int)<(a.length:Int))=true->(true&&decide ((k:Int)<(a.length:Int)))=true/\(true&&decide ((k:Int)<(b.length:Int)))=true/\((!((a.getD (Int.toNat (k:Int)) default).id==(b.getD (Int.toNat (k:Int)) default).id&&((a.getD (Int.toNat (k:Int)) default).seq==(b.getD (Int.toNat (k:Int)) default).seq&&((a.getD (Int.toNat (k:Int)) default).here==(b.getD (Int.toNat (k:Int)) default).here&&((a.getD (Int.toNat (k:Int)) default).offset==(b.getD (Int.toNat (k:Int)) default).offset&&true)))))=true->(sameFrom a b k=true->False)/\(sameFrom a b k=false->(false=false/\True)/\True/\true=true))/\((!((a.getD (Int.toNat (k:Int)) default).id==(b.getD (Int.toNat (k:Int)) default).id&&((a.getD (Int.toNat (k:Int)) default).seq==(b.getD (Int.toNat (k:Int)) default).seq&&((a.getD (Int.toNat (k:Int)) default).here==(b.getD (Int.toNat (k:Int)) default).here&&((a.getD (Int.toNat (k:Int)) default).offset==(b.getD (Int.toNat (k:Int)) default).offset&&true)))))=false->∃ j:Nat,a.length - j<a.length - k/\(((b1=b1/\a.length=a.length/\contLe a.length 4 (cellsOf' encP a) (cellsOf' encP a))/\(b2=b2/\b.length=b.length/\contLe b.length 4 (cellsOf' encP b) (cellsOf' encP b))/\false=false/\IntKind.i64.wrap ((k:Int)+1)=(j:Int)/\True)/\True/\true=true)/\true=true/\(sameFrom a b j=true->(sameFrom a b k=true->true=true)/\(sameFrom a b k=false->true=false))/\(sameFrom a b j=false->(sameFrom a b k=true->false=true)/\(sameFrom a b k=false->false=false))))/\(decide ((k:Int)<(a.length:Int))=false->(sameFrom a b k=true->True/\True/\true=true)/\(sameFrom a b k=false->False))
theorem vcSameL_eq (b1:Bool) (b2:Bool) (a:List Producer) (b:List Producer) (k:Nat):(loopVC Tryz.prog (hT _) 26 4 (fun k=>a.length - k) (smT b1 b2 a b) (fun _=>[]) [] (smO a b) smS k)=vcSameL b1 b2 a b k:=by kernel_rfl
theorem same_loop (b1 b2:Bool) (a b:List Producer) (hl:a.length<=9223372036854775806) (he:a.length=b.length) (k:Nat):LoopOk Tryz.prog 26 4 (loopAt Tryz.prog 26 4) ⟨smT b1 b2 a b k,[],[]⟩ ((smO a b k).map (lout [] smS)):=by
 refine loop_vc Tryz.mixed (fun _=>rfl) (fun k=>(vcSameL_eq b1 b2 a b k).mpr ?_) k
 unfold vcSameL
 simp
 refine ⟨fun h=>?_,fun h=>by simp [sameFrom_end h]⟩
 rw [sameFrom_step h]
 simp (disch:=omega) only [wrap_i64]
 simp [eqP,cast_succ_eq]
 generalize a[k]?.getD default=x
 generalize b[k]?.getD default=y
 grind
def smR (a b:List Producer):T An:=.ret (.y (.bool (sameP a b)),[],[])
noncomputable def smH (b1 b2:Bool) (a b:List Producer):HintsT Tryz.prog:=hh _ (lp1 26 4 (jobOf (smT b1 b2 a b) (fun _=>[]) [] (smO a b) smS 0) noLp) noCs noOp
def vcSame (b1:Bool) (b2:Bool) (a:List Producer) (b:List Producer):Prop :=
 (((a.length:Int) != (b.length:Int))=true->false=sameP a b/\True)/\(((a.length:Int) != (b.length:Int))=false->(((b1=b1/\a.length=a.length/\contLe a.length 4 (cellsOf' encP a) (cellsOf' encP a))/\(b2=b2/\b.length=b.length/\contLe b.length 4 (cellsOf' encP b) (cellsOf' encP b))/\false=false/\(0:Int)=0/\True)/\True/\true=true)/\LoopOk Tryz.prog 26 4 (loopAt Tryz.prog 26 4) { t:=smT b1 b2 a b 0,m:=[],mv:=[]:St } (T.map (lout [] smS) (smO a b 0))/\(sameFrom a b 0=true->true=sameP a b/\True)/\(sameFrom a b 0=false->false=sameP a b/\True))
theorem vcSame_eq (b1:Bool) (b2:Bool) (a:List Producer) (b:List Producer):(ctrVC Tryz.prog (smH b1 b2 a b) 26 [encPs b1 a,encPs b2 b] [] (smR a b))=vcSame b1 b2 a b:=by kernel_rfl
theorem same_c (b1 b2:Bool) (a b:List Producer) (hl:a.length<=9223372036854775806):(smR a b).Sat (ACall' Tryz.prog 26 [encPs b1 a,encPs b2 b] []):=by
 refine ctr_vc (ht:=smH b1 b2 a b) Tryz.mixed rfl ?_
 rw [vcSame_eq b1 b2 a b]
 unfold vcSame
 by_cases he:a.length=b.length
 · have:=same_loop b1 b2 a b hl he 0
   simp [sameP,he,this]
 · have he':¬ ((a.length:Int)=b.length):=by omega
   simp [sameP,he,he']
def stp (x:Producer) (s:Bool×List Producer) (y:Producer):Bool×List Producer :=
 let s1:=if (decide (x.id<=y.id)&&!s.1)=true then (true,s.2++[x]) else s
 if y.id=x.id then s1 else (s1.1,s1.2++[y])
def rst (l:List Producer) (x:Producer) (k:Nat):Bool×List Producer:=(l.take k).foldl (stp x) (false,[])
theorem rst_step {l:List Producer} {x:Producer} {k:Nat} (h:k<l.length):rst l x (k+1)=stp x (rst l x k) (l[k]?.getD default):=by
 unfold rst
 rw [take_snoc l k h,List.foldl_append];rfl
theorem rst_end {l:List Producer} {x:Producer} {k:Nat} (h:l.length<=k):rst l x k=rst l x l.length:=by
 unfold rst
 rw [List.take_of_length_le h,List.take_length]
theorem rst_len (l:List Producer) (x:Producer):∀ k,(rst l x k).2.length<=k+(if (rst l x k).1 then 1 else 0):=by
 intro k
 induction k with
 | zero=>simp [rst]
 | succ k ih =>
   rcases Nat.lt_or_ge k l.length with h | h
   · rw [rst_step h]
     rcases hs:rst l x k with ⟨d,o⟩
     rw [hs] at ih
     generalize l[k]?.getD default=y
     by_cases h1:x.id<=y.id<;>cases d<;>by_cases h2:y.id=x.id<;>simp [stp,h1,h2] at ih ⊢<;>omega
   · rw [rst_end (k:=k+1) (by omega),<- rst_end h]
     omega
def rput (l:List Producer) (x:Producer):List Producer:=if (rst l x l.length).1 then (rst l x l.length).2 else (rst l x l.length).2++[x]
def rpT (b:Bool) (l:List Producer) (x:Producer) (k:Nat):List AV:=mkT 52 [(0,encPs b l),(3,.ptr 0 0 0 0),(5,.own 1 4 0 (rst l x k).2.length),(6,.y (.bool (rst l x k).1)),(7,.y (.int .i64 k))]
def rpM (l:List Producer) (x:Producer) (k:Nat):List Blk:=[.box 39 (encP x),.row 39 4 (rst l x k).2.length none (cellsOf' encP (rst l x k).2)]
def rpS (l:List Producer) (x:Producer) (_:Unit):Exit×List AV×List Blk:=(.exit 0,mkT 52 [(3,.ptr 0 0 0 0),(5,.own 1 4 0 (rst l x l.length).2.length),(6,.y (.bool (rst l x l.length).1))],rpM l x l.length)
def vcRpL_q1 (b:Bool) (l:List Producer):Prop:=(b=b/\l.length=l.length/\contLe l.length 4 (cellsOf' encP l) (cellsOf' encP l))
def vcRpL_q2 (x:Producer):Prop:=(x.id=x.id/\x.seq=x.seq/\x.here=x.here/\x.offset=x.offset/\True)
def vcRpL (b:Bool) (l:List Producer) (x:Producer) (k:Nat):Prop :=
 (decide ((k:Int)<(l.length:Int))=true->(true&&decide ((k:Int)<(l.length:Int)))=true/\(decide (x.id<=(l.getD (Int.toNat (k:Int)) default).id)=true->((!(rst l x k).fst)=true->(decide ((rst l x k).snd.length=(rst l x k).snd.length)&&decide ((rst l x k).snd.length+1<=9223372036854775807)&&decide (((rst l x k).snd.length+1)*32<=140737488355328))=true/\(true&&decide ((k:Int)<(l.length:Int)))=true/\(((l.getD (Int.toNat (k:Int)) default).id != x.id)=true->(true&&decide ((k:Int)<(l.length:Int)))=true/\(decide ((rst l x k).snd.length+1=(rst l x k).snd.length+1)&&decide ((rst l x k).snd.length+1+1<=9223372036854775807)&&decide (((rst l x k).snd.length+1+1)*32<=140737488355328))=true/\∃ j:Nat,l.length - j<l.length - k/\(((vcRpL_q1 b l)/\(0=0/\0=0)/\(0=0/\(rst l x k).snd.length+1+1=(rst l x j).snd.length)/\true=(rst l x j).fst/\IntKind.i64.wrap ((k:Int)+1)=(j:Int)/\True)/\((vcRpL_q2 x)/\((rst l x k).snd.length+1+1=(rst l x j).snd.length/\contLe ((rst l x k).snd.length+1+1) 4 (appRow ((rst l x k).snd.length+1) (appRow (rst l x k).snd.length (cellsOf' encP (rst l x k).snd) fun (k j:Nat)=>Ax.get [AV.y (.int .u64 x.id),AV.y (.int .u64 x.seq),AV.y (.bool x.here),AV.y (.int .u64 x.offset)] (k*4+j)) fun (k_1 j:Nat)=>Ax.get [AV.y (.int .u64 (l.getD (Int.toNat (k:Int)) default).id),AV.y (.int .u64 (l.getD (Int.toNat (k:Int)) default).seq),AV.y (.bool (l.getD (Int.toNat (k:Int)) default).here),AV.y (.int .u64 (l.getD (Int.toNat (k:Int)) default).offset)] (k_1*4+j)) (cellsOf' encP (rst l x j).snd))/\True)/\true=true)/\true=true/\()=())/\(((l.getD (Int.toNat (k:Int)) default).id != x.id)=false->∃ j:Nat,l.length - j<l.length - k/\(((vcRpL_q1 b l)/\(0=0/\0=0)/\(0=0/\(rst l x k).snd.length+1=(rst l x j).snd.length)/\true=(rst l x j).fst/\IntKind.i64.wrap ((k:Int)+1)=(j:Int)/\True)/\((vcRpL_q2 x)/\((rst l x k).snd.length+1=(rst l x j).snd.length/\contLe ((rst l x k).snd.length+1) 4 (appRow (rst l x k).snd.length (cellsOf' encP (rst l x k).snd) fun (k j:Nat)=>Ax.get [AV.y (.int .u64 x.id),AV.y (.int .u64 x.seq),AV.y (.bool x.here),AV.y (.int .u64 x.offset)] (k*4+j)) (cellsOf' encP (rst l x j).snd))/\True)/\true=true)/\true=true/\()=()))/\((!(rst l x k).fst)=false->(true&&decide ((k:Int)<(l.length:Int)))=true/\(((l.getD (Int.toNat (k:Int)) default).id != x.id)=true->(true&&decide ((k:Int)<(l.length:Int)))=true/\(decide ((rst l x k).snd.length=(rst l x k).snd.length)&&decide ((rst l x k).snd.length+1<=9223372036854775807)&&decide (((rst l x k).snd.length+1)*32<=140737488355328))=true/\∃ j:Nat,l.length - j<l.length - k/\(((vcRpL_q1 b l)/\(0=0/\0=0)/\(0=0/\(rst l x k).snd.length+1=(rst l x j).snd.length)/\(rst l x k).fst=(rst l x j).fst/\IntKind.i64.wrap ((k:Int)+1)=(j:Int)/\True)/\((vcRpL_q2 x)/\((rst l x k).snd.length+1=(rst l x j).snd.length/\contLe ((rst l x k).snd.length+1) 4 (appRow (rst l x k).snd.length (cellsOf' encP (rst l x k).snd) fun (k_1 j:Nat)=>Ax.get [AV.y (.int .u64 (l.getD (Int.toNat (k:Int)) default).id),AV.y (.int .u64 (l.getD (Int.toNat (k:Int)) default).seq),AV.y (.bool (l.getD (Int.toNat (k:Int)) default).here),AV.y (.int .u64 (l.getD (Int.toNat (k:Int)) default).offset)] (k_1*4+j)) (cellsOf' encP (rst l x j).snd))/\True)/\true=true)/\true=true/\()=())/\(((l.getD (Int.toNat (k:Int)) default).id != x.id)=false->∃ j:Nat,l.length - j<l.length - k/\(((vcRpL_q1 b l)/\(0=0/\0=0)/\(0=0/\(rst l x k).snd.length=(rst l x j).snd.length)/\(rst l x k).fst=(rst l x j).fst/\IntKind.i64.wrap ((k:Int)+1)=(j:Int)/\True)/\((vcRpL_q2 x)/\((rst l x k).snd.length=(rst l x j).snd.length/\contLe (rst l x k).snd.length 4 (cellsOf' encP (rst l x k).snd) (cellsOf' encP (rst l x j).snd))/\True)/\true=true)/\true=true/\()=())))/\(decide (x.id<=(l.getD (Int.toNat (k:Int)) default).id)=false->(true&&decide ((k:Int)<(l.length:Int)))=true/\(((l.getD (Int.toNat (k:Int)) default).id != x.id)=true->(true&&decide ((k:Int)<(l.length:Int)))=true/\(decide ((rst l x k).snd.length=(rst l x k).snd.length)&&decide ((rst l x k).snd.length+1<=9223372036854775807)&&decide (((rst l x k).snd.length+1)*32<=140737488355328))=true/\∃ j:Nat,l.length - j<l.length - k/\(((vcRpL_q1 b l)/\(0=0/\0=0)/\(0=0/\(rst l x k).snd.length+1=(rst l x j).snd.length)/\(rst l x k).fst=(rst l x j).fst/\IntKind.i64.wrap ((k:Int)+1)=(j:Int)/\True)/\((vcRpL_q2 x)/\((rst l x k).snd.length+1=(rst l x j).snd.length/\contLe ((rst l x k).snd.length+1) 4 (appRow (rst l x k).snd.length (cellsOf' encP (rst l x k).snd) fun (k_1 j:Nat)=>Ax.get [AV.y (.int .u64 (l.getD (Int.toNat (k:Int)) default).id),AV.y (.int .u64 (l.getD (Int.toNat (k:Int)) default).seq),AV.y (.bool (l.getD (Int.toNat (k:Int)) default).here),AV.y (.int .u64 (l.getD (Int.toNat (k:Int)) default).offset)] (k_1*4+j)) (cellsOf' encP (rst l x j).snd))/\True)/\true=true)/\true=true/\()=())/\(((l.getD (Int.toNat (k:Int)) default).id != x.id)=false->∃ j:Nat,l.length - j<l.length - k/\(((vcRpL_q1 b l)/\(0=0/\0=0)/\(0=0/\(rst l x k).snd.length=(rst l x j).snd.length)/\(rst l x k).fst=(rst l x j).fst/\IntKind.i64.wrap ((k:Int)+1)=(j:Int)/\True)/\((vcRpL_q2 x)/\((rst l x k).snd.length=(rst l x j).snd.length/\contLe (rst l x k).snd.length 4 (cellsOf' encP (rst l x k).snd) (cellsOf' encP (rst l x j).snd))/\True)/\true=true)/\true=true/\()=())))/\(decide ((k:Int)<(l.length:Int))=false->((0=0/\0=0)/\(0=0/\(rst l x k).snd.length=(rst l x l.length).snd.length)/\(rst l x k).fst=(rst l x l.length).fst/\True)/\((vcRpL_q2 x)/\((rst l x k).snd.length=(rst l x l.length).snd.length/\contLe (rst l x k).snd.length 4 (cellsOf' encP (rst l x k).snd) (cellsOf' encP (rst l x l.length).snd))/\True)/\true=true)
theorem vcRpL_eq (b:Bool) (l:List Producer) (x:Producer) (k:Nat):(loopVC Tryz.prog (hT _) 74 4 (fun k=>l.length - k) (rpT b l x) (rpM l x) [1,2,3,4,5] (fun _=>.ret ()) (rpS l x) k)=vcRpL b l x k:=by kernel_rfl
theorem rp_loop (b:Bool) (l:List Producer) (x:Producer) (hl:l.length*32<=140737488355200) (k:Nat) (hk:k<=l.length):LoopOk Tryz.prog 74 4 (loopAt Tryz.prog 74 4) ⟨rpT b l x k,rpM l x k,[]⟩ (T.map (lout [1,2,3,4,5] (rpS l x)) (.ret ())):=by
 refine loop_vc (o:=fun _=>.ret ()) Tryz.mixed (fun _=>rfl) (fun k=>(vcRpL_eq b l x k).mpr ?_) k
 unfold vcRpL vcRpL_q2 vcRpL_q1
 have hlen:=rst_len l x k
 have hc:∀ y:Producer,∀ j,j<4->le0 (Ax.get [.y (.int .u64 y.id),.y (.int .u64 y.seq),.y (.bool y.here),.y (.int .u64 y.offset)] j) (Ax.get (encP y) j):=fun y j hj=>by
  match j,hj with
  | 0,_=>simp [encP]
  | 1,_=>simp [encP]
  | 2,_=>simp [encP]
  | 3,_=>simp [encP]
 simp
 refine ⟨fun h=>?_,fun h=>?_⟩
 · have hst:=rst_step (x:=x) h
   have hw:=wrap_i64 (n:=(k:Int)+1) (by omega) (by omega)
   rw [hw]
   rcases hs:rst l x k with ⟨d,o⟩
   rw [hs] at hlen hst
   generalize l[k]?.getD default=y at *
   by_cases h1:x.id<=y.id<;>cases d<;>by_cases h2:y.id=x.id<;>simp [stp,h1,h2] at hst<;>simp [h,h1,h2]<;>simp at hlen
   all_goals repeat' first | apply And.intro | refine Exists.intro (k+1) ?_ | with_reducible intro _
   all_goals try rw [hst]
   all_goals first
    | omega
    | (simp;done)
    | exact contLe_refl _ _ _
    | exact app_le (contLe_refl _ _ _) rfl (hc _)
    | (show contLe _ _ _ (cellsOf' encP (o++[x,y]));rw [show o++[x,y]=o++[x]++[y] by simp];exact app_le (app_le (contLe_refl _ _ _) rfl (hc _)) (by simp) (hc _))
 · rw [rst_end h];simp
end Go.Proofs.YtckklclehofddaaGreatDoor.P

namespace Go.Proofs.YtckklclehofddaaGreatDoor.P
open Go.Ax
set_option maxRecDepth 1000000
noncomputable def rpH (b:Bool) (l:List Producer) (x:Producer):HintsT Tryz.prog :=
 hh _ (lp1 74 4 (jobOf (rpT b l x) (rpM l x) [1,2,3,4,5] (fun _=>.ret ()) (rpS l x) 0) noLp) noCs (op1 74 1 0 (.row 39 4) noOp)
def rputR (l:List Producer) (x:Producer):T An:=.ret (.own 0 4 0 (rput l x).length,[.row 39 4 (rput l x).length none (cellsOf' encP (rput l x))],[])
def vcRp (b:Bool) (l:List Producer) (x:Producer):Prop :=
 (((b=b/\l.length=l.length/\contLe l.length 4 (cellsOf' encP l) (cellsOf' encP l))/\(0=0/\0=0)/\(0=0/\0=0)/\false=false/\(0:Int)=0/\True)/\((x.id=x.id/\x.seq=x.seq/\x.here=x.here/\x.offset=x.offset/\True)/\(0=0/\contLe 0 4 (fun (x x_1:Nat)=>AV.junk) (cellsOf' encP []))/\True)/\true=true)/\LoopOk Tryz.prog 74 4 (loopAt Tryz.prog 74 4) { t:=rpT b l x 0,m:=rpM l x 0,mv:=[]:St } (T.map (lout [1,2,3,4,5] (rpS l x)) ((fun (x:Nat)=>T.ret ()) 0))/\((!(rst l x l.length).fst)=true->(decide ((rst l x l.length).snd.length=(rst l x l.length).snd.length)&&decide ((rst l x l.length).snd.length+1<=9223372036854775807)&&decide (((rst l x l.length).snd.length+1)*32<=140737488355328))=true/\(0=0/\(rst l x l.length).snd.length+1=(rput l x).length)/\((rst l x l.length).snd.length+1=(rput l x).length/\contLe ((rst l x l.length).snd.length+1) 4 (appRow (rst l x l.length).snd.length (cellsOf' encP (rst l x l.length).snd) fun (k j:Nat)=>Ax.get [AV.y (.int .u64 x.id),AV.y (.int .u64 x.seq),AV.y (.bool x.here),AV.y (.int .u64 x.offset)] (k*4+j)) (cellsOf' encP (rput l x)))/\True)/\((!(rst l x l.length).fst)=false->(0=0/\(rst l x l.length).snd.length=(rput l x).length)/\((rst l x l.length).snd.length=(rput l x).length/\contLe (rst l x l.length).snd.length 4 (cellsOf' encP (rst l x l.length).snd) (cellsOf' encP (rput l x)))/\True)
theorem vcRp_eq (b:Bool) (l:List Producer) (x:Producer):(ctrVC Tryz.prog (rpH b l x) 74 [encPs b l,.agg (encP x)] [] (rputR l x))=vcRp b l x:=by kernel_rfl
theorem rput_c (b:Bool) (l:List Producer) (x:Producer) (hl:l.length*32<=140737488355200):(rputR l x).Sat (ACall' Tryz.prog 74 [encPs b l,.agg (encP x)] []):=by
 refine ctr_vc (ht:=rpH b l x) Tryz.mixed rfl ?_
 rw [vcRp_eq b l x]
 unfold vcRp
 have hL:=rp_loop b l x hl 0 (Nat.zero_le _)
 have hlen:=rst_len l x l.length
 have hc:∀ y:Producer,∀ j,j<4->le0 (Ax.get [.y (.int .u64 y.id),.y (.int .u64 y.seq),.y (.bool y.here),.y (.int .u64 y.offset)] j) (Ax.get (encP y) j):=fun y j hj=>by
  match j,hj with
  | 0,_=>simp [encP]
  | 1,_=>simp [encP]
  | 2,_=>simp [encP]
  | 3,_=>simp [encP]
 rcases hs:rst l x l.length with ⟨d,o⟩
 rw [hs] at hlen
 cases d<;>simp [rput,hs,hL] at hlen ⊢
 all_goals exact ⟨⟨by omega,by omega⟩,app_le (contLe_refl _ _ _) rfl (hc x)⟩
theorem oth_cons (y:Producer) (t:List Producer) (x:Producer):oth (y::t) x=if y.id=x.id then oth t x else y::oth t x:=by
 by_cases h:y.id=x.id
 · rw [if_pos h];unfold oth;rw [List.filter_cons_of_neg (by simp [keep,h])]
 · rw [if_neg h];unfold oth;rw [List.filter_cons_of_pos (by simp [keep,h])]
theorem fold_done (x:Producer):∀ (l o:List Producer),l.foldl (stp x) (true,o)=(true,o++oth l x):=by
 intro l
 induction l with
 | nil=>intro o;simp [oth]
 | cons y t ih =>
   intro o
   by_cases h:y.id=x.id
   · simp [stp,h,ih,oth_cons]
   · simp [stp,h,ih,oth_cons]
theorem putL_cons_lt {y:Producer} {t:List Producer} {x:Producer} (h:y.id<x.id):putL (y::t) x=y::putL t x:=by
 have h':¬ y.id=x.id:=by omega
 simp [putL,oth_cons,below,h,h']
theorem putL_ge {y:Producer} {t:List Producer} {x:Producer} (h:x.id<=y.id) (ht:∀ z∈t,y.id<z.id):putL (y::t) x=x::oth (y::t) x:=by
 have:below (oth (y::t) x) x.id=0:=by
  unfold below
  rw [List.length_eq_zero_iff]
  cases hd:oth (y::t) x with
  | nil=>rfl
  | cons z r =>
    have hz:z∈oth (y::t) x:=by rw [hd];exact List.mem_cons_self
    have hz':z∈y::t:=(List.mem_filter.1 hz).1
    have hlt:¬ z.id<x.id:=by
     rcases List.mem_cons.1 hz' with h1 | h1
     · rw [h1];omega
     · have:=ht z h1;omega
    rw [List.takeWhile_cons_of_neg]
    simpa using hlt
 rw [putL,this];rfl
theorem fold_put (x:Producer):∀ (l o:List Producer),l.Pairwise (fun a b=>a.id<b.id)->(if (l.foldl (stp x) (false,o)).1 then (l.foldl (stp x) (false,o)).2 else (l.foldl (stp x) (false,o)).2++[x])=o++putL l x:=by
 intro l
 induction l with
 | nil=>intro o _;simp [putL,oth,below]
 | cons y t ih =>
   intro o hp
   rw [List.pairwise_cons] at hp
   by_cases h:x.id<=y.id
   · rw [putL_ge h hp.1]
     by_cases h2:y.id=x.id
     · simp [stp,h2,fold_done,oth_cons]
     · simp [stp,h,h2,fold_done,oth_cons]
   · have h2:¬ y.id=x.id:=by omega
     have:=ih (o++[y]) hp.2
     rw [putL_cons_lt (by omega)]
     simp only [List.foldl_cons,stp,h,h2,decide_false,Bool.false_and,Bool.false_eq_true,if_false]
     rw [this];simp
theorem rising_pw (r:List Producer):rising r↔r.Pairwise (fun a b=>a.id<b.id):=by
 rw [List.pairwise_iff_getElem]
 constructor
 · intro h i j hi hj hij
   have:=h i j hij hj
   simpa [hi,hj] using this
 · intro h i j hij hj
   have:=h i j (by omega) hj hij
   simpa [show i<r.length by omega,hj] using this
theorem rput_putL {l:List Producer} {x:Producer} (h:rising l):rput l x=putL l x:=by
 have:=fold_put x l [] ((rising_pw l).1 h)
 simpa [rput,rst] using this
noncomputable def rputN (b:Bool) (l:List Producer) (x:Producer):Ctr Tryz.prog:=⟨74,[encPs b l,.agg (encP x)],[],.need (l.length*32<=140737488355200/\rising l) (putR l x),T.Sat.need fun h=>by
 have:=rput_c b l x h.1
 rw [rputR,rput_putL h.2] at this
 exact this⟩
end Go.Proofs.YtckklclehofddaaGreatDoor.P
