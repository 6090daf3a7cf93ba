import Derived.Test.YtckklclehofddaaGreatDoorW6
import Derived.Test.YtckklclehofddaaGreatDoorW8
set_option linter.unusedVariables false
set_option linter.unusedSimpArgs false
set_option linter.unusedSectionVars false
namespace Go.Proofs.YtckklclehofddaaGreatDoor.Q
open Go.Ax Go.Proofs.YtckklclehofddaaGreatDoor Go.Proofs.YtckklclehofddaaGreatDoor.J
set_option maxRecDepth 1000000
theorem take_on {α:Type} [Inhabited α] {l:List α} {k:Nat} (h:k<l.length):l.take (k+1)=l.take k++[l.getD k default]:=by
 rw [List.take_add_one,List.getElem?_eq_getElem h]
 simp [h]
theorem fm_step {α:Type} [Inhabited α] (f:α->List Int) {l:List α} {k:Nat} (h:k<l.length):(l.take (k+1)).flatMap f=(l.take k).flatMap f++f (l.getD k default):=by
 rw [take_on h,List.flatMap_append]
 simp
theorem fm_le {α:Type} (f:α->List Int) (l:List α) (k:Nat):((l.take k).flatMap f).length<=(l.flatMap f).length:=by
 have h:l.flatMap f=(l.take k).flatMap f++(l.drop k).flatMap f:=by rw [<- List.flatMap_append,List.take_append_drop]
 rw [h,List.length_append]
 omega
structure LsOk (l:List Rec):Prop where
 n:l.length<=1099511627776
 b:(recsB l).length<=17592186044416
 r:∀ k,k<l.length->RcOk (l.getD k default)
theorem lsP_le (l:List Rec) (k:Nat):(lsP l k).length<=(recsB l).length:=by
 have:=fm_le recB l k
 simp only [lsP,recsB,List.length_append]
 omega
theorem lsP_step {l:List Rec} {k:Nat} (h:k<l.length):lsP l (k+1)=lsP l k++recB (l.getD k default):=by
 unfold lsP
 rw [fm_step _ h,List.append_assoc]
theorem ls_loop (b:Bool) (l:List Rec) (h:LsOk l) (k:{ k:Nat // k<=l.length }):LoopOk Tryz.prog 31 3 (loopAt Tryz.prog 31 3) ⟨lsT b l k.1,[rowB (lsP l k.1)],[]⟩ (T.map (lout [0,1,2,3,4,5] (lsS l)) (.ret ())):=by
 refine loop_vcH (o:=fun _=>.ret ()) (stT:=fun (k:{ k:Nat // k<=l.length })=>lsT b l k.1) (stM:=fun k=>[rowB (lsP l k.1)]) Tryz.mixed (fun _=>rfl) (fun k=>(vcLsL_eq b l k).mpr ?_) k
 unfold vcLsL
 obtain ⟨k,hk⟩:=k
 have hn:=h.n
 by_cases hkl:k<l.length
 · have hr:=h.r k hkl
   have hex:∀ q:{ k:Nat // k<=l.length }->Prop,q ⟨k+1,hkl⟩->∃ j,q j:=fun q hq=>⟨_,hq⟩
   have hw:IntKind.i64.wrap ((k:Int)+1)=((k+1:Nat):Int):=by rw [wrap_i64 (by omega) (by omega)];omega
   have hs:=lsP_step hkl
   have hl:=lsP_le l (k+1)
   have hb:=h.b
   rw [hs] at hl
   simp only [Int.toNat_natCast,Nat.zero_add,<- List.length_append,catB_eq,<- hs] at *
   generalize l.getD k default=x at *
   refine ⟨fun _=>?_,fun h=>by simp at h;omega⟩
   repeat' with_reducible apply And.intro
   all_goals first
    | with_reducible rfl
    | exact trivial
    | assumption
    | omega
    | exact contLe_refl _ _ _
    | (simp;done)
    | (simp;omega)
    | (refine hex _ ?_;simp [hw];omega)
 · obtain rfl:k=l.length:=by omega
   refine ⟨fun h=>by simp at h,fun _=>?_⟩
   have e:lsP l l.length=recsB l:=by unfold lsP recsB;rw [List.take_length]
   simp [e]
theorem ls_c (b:Bool) (l:List Rec) (h:LsOk l):(bytesR (recsB l)).Sat (ACall' Tryz.prog 31 [encRs b l] []):=by
 refine ctr_vc (ht:=lsH b l) Tryz.mixed rfl ?_
 rw [vcLs_eq b l]
 unfold vcLs
 have lp:=ls_loop b l h ⟨0,Nat.zero_le _⟩
 have hn:=h.n
 have hw:IntKind.u64.wrap (l.length:Int)=(l.length:Int):=wrap_u64 (by omega) (by omega)
 have hu:UwOk (l.length:Int):=⟨by omega,by omega⟩
 have e:lsP l 0=uintB (l.length:Int):=by simp [lsP]
 refine ⟨⟨hw,trivial⟩,trivial,hu,?_,lp,⟨rfl,rfl⟩,⟨rfl,contLe_refl _ _ _⟩,trivial⟩
 simp [e]
noncomputable def lsC (b:Bool) (l:List Rec):Ctr Tryz.prog:=⟨31,[encRs b l],[],.need (LsOk l) (bytesR (recsB l)),T.Sat.need fun h=>ls_c b l h⟩
def byM (b:Bool) (p:Part) (l:List Int):List Blk:=[.box 30 (encPt b p),rowB l]
def b1T (p:Part) (k:Nat):List AV:=mkT 97 [(1,.ptr 0 0 0 0),(3,.own 1 1 0 (prB p k).length),(4,.y (.int .i64 k))]
def b1S (b:Bool) (p:Part) (_:Unit):Exit×List AV×List Blk:=(.exit 0,mkT 97 [(1,.ptr 0 0 0 0),(3,.own 1 1 0 (prB p p.prods.length).length)],byM b p (prB p p.prods.length))
noncomputable def b1H (p:Part) (k:Nat):HintsT Tryz.prog:=hh _ noLp (cs1 13 9 3 (uwC (p.prods.getD k default).id) (cs1 13 10 3 (uwC (p.prods.getD k default).seq) (cs1 13 11 3 (boC (p.prods.getD k default).here) (cs1 13 12 3 (uwC (p.prods.getD k default).offset) noCs)))) noOp
def bX:List Nat:=[0,1,2,3,4,5,6,7,8,9,10,11,12]
def vcB1 (b:Bool) (p:Part) (k:{ k:Nat // k<=p.prods.length }):Prop :=
 (decide ((↑k.val:Int)<(↑(List.length p.prods):Int))=true->(true&&decide ((↑k.val:Int)<(↑(List.length p.prods):Int)))=true/\((List.getD p.prods (Int.toNat (↑k.val:Int)) (@default P.Producer P.instInhabitedProducer)).id=(List.getD p.prods k.val (@default P.Producer P.instInhabitedProducer)).id/\True)/\True/\UwOk (List.getD p.prods k.val (@default P.Producer P.instInhabitedProducer)).id/\(decide (List.length (prB p k.val)=List.length (prB p k.val))&&decide (List.length (prB p k.val)+List.length (uintB (List.getD p.prods k.val (@default P.Producer P.instInhabitedProducer)).id)<=(9223372036854775807:Nat))&&decide ((List.length (prB p k.val)+List.length (uintB (List.getD p.prods k.val (@default P.Producer P.instInhabitedProducer)).id))*(1:Nat)<=(140737488355328:Nat)))=true/\((List.getD p.prods (Int.toNat (↑k.val:Int)) (@default P.Producer P.instInhabitedProducer)).seq=(List.getD p.prods k.val (@default P.Producer P.instInhabitedProducer)).seq/\True)/\True/\UwOk (List.getD p.prods k.val (@default P.Producer P.instInhabitedProducer)).seq/\(decide (List.length (prB p k.val)+List.length (uintB (List.getD p.prods k.val (@default P.Producer P.instInhabitedProducer)).id)=List.length (prB p k.val)+List.length (uintB (List.getD p.prods k.val (@default P.Producer P.instInhabitedProducer)).id))&&decide (List.length (prB p k.val)+List.length (uintB (List.getD p.prods k.val (@default P.Producer P.instInhabitedProducer)).id)+List.length (uintB (List.getD p.prods k.val (@default P.Producer P.instInhabitedProducer)).seq)<=(9223372036854775807:Nat))&&decide ((List.length (prB p k.val)+List.length (uintB (List.getD p.prods k.val (@default P.Producer P.instInhabitedProducer)).id)+List.length (uintB (List.getD p.prods k.val (@default P.Producer P.instInhabitedProducer)).seq))*(1:Nat)<=(140737488355328:Nat)))=true/\((List.getD p.prods (Int.toNat (↑k.val:Int)) (@default P.Producer P.instInhabitedProducer)).here=(List.getD p.prods k.val (@default P.Producer P.instInhabitedProducer)).here/\True)/\True/\(decide (List.length (prB p k.val)+List.length (uintB (List.getD p.prods k.val (@default P.Producer P.instInhabitedProducer)).id)+List.length (uintB (List.getD p.prods k.val (@default P.Producer P.instInhabitedProducer)).seq)=List.length (prB p k.val)+List.length (uintB (List.getD p.prods k.val (@default P.Producer P.instInhabitedProducer)).id)+List.length (uintB (List.getD p.prods k.val (@default P.Producer P.instInhabitedProducer)).seq))&&decide (List.length (prB p k.val)+List.length (uintB (List.getD p.prods k.val (@default P.Producer P.instInhabitedProducer)).id)+List.length (uintB (List.getD p.prods k.val (@default P.Producer P.instInhabitedProducer)).seq)+List.length [if (List.getD p.prods k.val (@default P.Producer P.instInhabitedProducer)).here=true then (1:Int) else (0:Int)]<=(9223372036854775807:Nat))&&decide ((List.length (prB p k.val)+List.length (uintB (List.getD p.prods k.val (@default P.Producer P.instInhabitedProducer)).id)+List.length (uintB (List.getD p.prods k.val (@default P.Producer P.instInhabitedProducer)).seq)+List.length [if (List.getD p.prods k.val (@default P.Producer P.instInhabitedProducer)).here=true then (1:Int) else (0:Int)])*(1:Nat)<=(140737488355328:Nat)))=true/\((List.getD p.prods (Int.toNat (↑k.val:Int)) (@default P.Producer P.instInhabitedProducer)).offset=(List.getD p.prods k.val (@default P.Producer P.instInhabitedProducer)).offset/\True)/\True/\UwOk (List.getD p.prods k.val (@default P.Producer P.instInhabitedProducer)).offset/\(decide (List.length (prB p k.val)+List.length (uintB (List.getD p.prods k.val (@default P.Producer P.instInhabitedProducer)).id)+List.length (uintB (List.getD p.prods k.val (@default P.Producer P.instInhabitedProducer)).seq)+List.length [if (List.getD p.prods k.val (@default P.Producer P.instInhabitedProducer)).here=true then (1:Int) else (0:Int)]=List.length (prB p k.val)+List.length (uintB (List.getD p.prods k.val (@default P.Producer P.instInhabitedProducer)).id)+List.length (uintB (List.getD p.prods k.val (@default P.Producer P.instInhabitedProducer)).seq)+List.length [if (List.getD p.prods k.val (@default P.Producer P.instInhabitedProducer)).here=true then (1:Int) else (0:Int)])&&decide (List.length (prB p k.val)+List.length (uintB (List.getD p.prods k.val (@default P.Producer P.instInhabitedProducer)).id)+List.length (uintB (List.getD p.prods k.val (@default P.Producer P.instInhabitedProducer)).seq)+List.length [if (List.getD p.prods k.val (@default P.Producer P.instInhabitedProducer)).here=true then (1:Int) else (0:Int)]+List.length (uintB (List.getD p.prods k.val (@default P.Producer P.instInhabitedProducer)).offset)<=(9223372036854775807:Nat))&&decide ((List.length (prB p k.val)+List.length (uintB (List.getD p.prods k.val (@default P.Producer P.instInhabitedProducer)).id)+List.length (uintB (List.getD p.prods k.val (@default P.Producer P.instInhabitedProducer)).seq)+List.length [if (List.getD p.prods k.val (@default P.Producer P.instInhabitedProducer)).here=true then (1:Int) else (0:Int)]+List.length (uintB (List.getD p.prods k.val (@default P.Producer P.instInhabitedProducer)).offset))*(1:Nat)<=(140737488355328:Nat)))=true/\∃ (j:{ k:Nat // k<=List.length p.prods }),List.length p.prods - j.val<List.length p.prods - k.val/\((((0:Nat)=(0:Nat)/\(0:Nat)=(0:Nat))/\((0:Nat)=(0:Nat)/\List.length (prB p k.val)+List.length (uintB (List.getD p.prods k.val (@default P.Producer P.instInhabitedProducer)).id)+List.length (uintB (List.getD p.prods k.val (@default P.Producer P.instInhabitedProducer)).seq)+List.length [if (List.getD p.prods k.val (@default P.Producer P.instInhabitedProducer)).here=true then (1:Int) else (0:Int)]+List.length (uintB (List.getD p.prods k.val (@default P.Producer P.instInhabitedProducer)).offset)=List.length (prB p j.val))/\IntKind.wrap IntKind.i64 ((↑k.val:Int)+(1:Int))=(↑j.val:Int)/\True)/\((ptLe b b p p)/\(List.length (prB p k.val)+List.length (uintB (List.getD p.prods k.val (@default P.Producer P.instInhabitedProducer)).id)+List.length (uintB (List.getD p.prods k.val (@default P.Producer P.instInhabitedProducer)).seq)+List.length [if (List.getD p.prods k.val (@default P.Producer P.instInhabitedProducer)).here=true then (1:Int) else (0:Int)]+List.length (uintB (List.getD p.prods k.val (@default P.Producer P.instInhabitedProducer)).offset)=List.length (prB p j.val)/\contLe (List.length (prB p k.val)+List.length (uintB (List.getD p.prods k.val (@default P.Producer P.instInhabitedProducer)).id)+List.length (uintB (List.getD p.prods k.val (@default P.Producer P.instInhabitedProducer)).seq)+List.length [if (List.getD p.prods k.val (@default P.Producer P.instInhabitedProducer)).here=true then (1:Int) else (0:Int)]+List.length (uintB (List.getD p.prods k.val (@default P.Producer P.instInhabitedProducer)).offset)) (1:Nat) (appRow (List.length (prB p k.val)+List.length (uintB (List.getD p.prods k.val (@default P.Producer P.instInhabitedProducer)).id)+List.length (uintB (List.getD p.prods k.val (@default P.Producer P.instInhabitedProducer)).seq)+List.length [if (List.getD p.prods k.val (@default P.Producer P.instInhabitedProducer)).here=true then (1:Int) else (0:Int)]) (appRow (List.length (prB p k.val)+List.length (uintB (List.getD p.prods k.val (@default P.Producer P.instInhabitedProducer)).id)+List.length (uintB (List.getD p.prods k.val (@default P.Producer P.instInhabitedProducer)).seq)) (appRow (List.length (prB p k.val)+List.length (uintB (List.getD p.prods k.val (@default P.Producer P.instInhabitedProducer)).id)) (appRow (List.length (prB p k.val)) (cellsOf' encB (prB p k.val)) fun (k_1:Nat)=>cellsOf' encB (uintB (List.getD p.prods k.val (@default P.Producer P.instInhabitedProducer)).id) ((0:Nat)+k_1)) fun (k_1:Nat)=>cellsOf' encB (uintB (List.getD p.prods k.val (@default P.Producer P.instInhabitedProducer)).seq) ((0:Nat)+k_1)) fun (k_1:Nat)=>cellsOf' encB [if (List.getD p.prods k.val (@default P.Producer P.instInhabitedProducer)).here=true then (1:Int) else (0:Int)] ((0:Nat)+k_1)) fun (k_1:Nat)=>cellsOf' encB (uintB (List.getD p.prods k.val (@default P.Producer P.instInhabitedProducer)).offset) ((0:Nat)+k_1)) (cellsOf' encB (prB p j.val)))/\True)/\true=true)/\true=true/\()=())/\(decide ((↑k.val:Int)<(↑(List.length p.prods):Int))=false->(((0:Nat)=(0:Nat)/\(0:Nat)=(0:Nat))/\((0:Nat)=(0:Nat)/\List.length (prB p k.val)=List.length (prB p (List.length p.prods)))/\True)/\((ptLe b b p p)/\(List.length (prB p k.val)=List.length (prB p (List.length p.prods))/\contLe (List.length (prB p k.val)) (1:Nat) (cellsOf' encB (prB p k.val)) (cellsOf' encB (prB p (List.length p.prods))))/\True)/\true=true)
theorem vcB1_eq (b:Bool) (p:Part) (k:{ k:Nat // k<=p.prods.length }):(loopVC Tryz.prog (b1H p k.1) 13 6 (fun (k:{ k:Nat // k<=p.prods.length })=>p.prods.length - k.1) (fun k=>b1T p k.1) (fun k=>byM b p (prB p k.1)) bX (fun _=>.ret ()) (b1S b p) k)=vcB1 b p k:=by kernel_rfl
def b2T (p:Part) (k:Nat):List AV:=mkT 97 [(1,.ptr 0 0 0 0),(3,.own 1 1 0 (coB p k).length),(6,.y (.int .i64 k))]
def b2S (b:Bool) (p:Part) (_:Unit):Exit×List AV×List Blk:=(.exit 2,mkT 97 [(3,.own 1 1 0 (partB p).length)],byM b p (partB p))
noncomputable def b2H (p:Part) (k:Nat):HintsT Tryz.prog:=hh _ noLp (cs1 13 17 8 (txC true (strB (p.cons.getD k default).name)) (cs1 13 18 7 (uwC (p.cons.getD k default).off) noCs)) noOp
def vcB2 (b:Bool) (p:Part) (k:{ k:Nat // k<=p.cons.length }):Prop :=
 (decide ((k.val:Int)<(p.cons.length:Int))=true->(true&&decide ((k.val:Int)<(p.cons.length:Int)))=true/\((true=true/\ByteArray.size (p.cons.getD (Int.toNat (k.val:Int)) default).name=(strB (p.cons.getD k.val default).name).length/\contLe (ByteArray.size (p.cons.getD (Int.toNat (k.val:Int)) default).name) 1 (fun (k_1 x:Nat)=>AV.y (.int .u8 ((UInt8.toNat ((p.cons.getD (Int.toNat (k.val:Int)) default).name.data.toList.getD k_1 (0:UInt8))):Int))) (cellsOf' encB (strB (p.cons.getD k.val default).name)))/\True)/\True/\(strB (p.cons.getD k.val default).name).length<=1099511627776/\(decide ((coB p k.val).length=(coB p k.val).length)&&decide ((coB p k.val).length+(textB (strB (p.cons.getD k.val default).name)).length<=9223372036854775807)&&decide (((coB p k.val).length+(textB (strB (p.cons.getD k.val default).name)).length)*1<=140737488355328))=true/\(true&&decide ((k.val:Int)<(p.cons.length:Int)))=true/\((p.cons.getD (Int.toNat (k.val:Int)) default).off=(p.cons.getD k.val default).off/\True)/\True/\UwOk (p.cons.getD k.val default).off/\(decide ((coB p k.val).length+(textB (strB (p.cons.getD k.val default).name)).length=(coB p k.val).length+(textB (strB (p.cons.getD k.val default).name)).length)&&decide ((coB p k.val).length+(textB (strB (p.cons.getD k.val default).name)).length+(uintB (p.cons.getD k.val default).off).length<=9223372036854775807)&&decide (((coB p k.val).length+(textB (strB (p.cons.getD k.val default).name)).length+(uintB (p.cons.getD k.val default).off).length)*1<=140737488355328))=true/\∃ (j:{ k:Nat // k<=p.cons.length }),p.cons.length - j.val<p.cons.length - k.val/\(((0=0/\0=0)/\(0=0/\(coB p k.val).length+(textB (strB (p.cons.getD k.val default).name)).length+(uintB (p.cons.getD k.val default).off).length=(coB p j.val).length)/\IntKind.i64.wrap ((k.val:Int)+1)=(j.val:Int)/\True)/\((ptLe b b p p)/\((coB p k.val).length+(textB (strB (p.cons.getD k.val default).name)).length+(uintB (p.cons.getD k.val default).off).length=(coB p j.val).length/\contLe ((coB p k.val).length+(textB (strB (p.cons.getD k.val default).name)).length+(uintB (p.cons.getD k.val default).off).length) 1 (appRow ((coB p k.val).length+(textB (strB (p.cons.getD k.val default).name)).length) (appRow (coB p k.val).length (cellsOf' encB (coB p k.val)) fun (k_1:Nat)=>cellsOf' encB (textB (strB (p.cons.getD k.val default).name)) (0+k_1)) fun (k_1:Nat)=>cellsOf' encB (uintB (p.cons.getD k.val default).off) (0+k_1)) (cellsOf' encB (coB p j.val)))/\True)/\true=true)/\true=true/\()=())/\(decide ((k.val:Int)<(p.cons.length:Int))=false->((0=0/\(coB p k.val).length=(partB p).length)/\True)/\((ptLe b b p p)/\((coB p k.val).length=(partB p).length/\contLe (coB p k.val).length 1 (cellsOf' encB (coB p k.val)) (cellsOf' encB (partB p)))/\True)/\true=true)
theorem vcB2_eq (b:Bool) (p:Part) (k:{ k:Nat // k<=p.cons.length }):(loopVC Tryz.prog (b2H p k.1) 13 15 (fun (k:{ k:Nat // k<=p.cons.length })=>p.cons.length - k.1) (fun k=>b2T p k.1) (fun k=>byM b p (coB p k.1)) bX (fun _=>.ret ()) (b2S b p) k)=vcB2 b p k:=by kernel_rfl
noncomputable def byH (b:Bool) (p:Part):HintsT Tryz.prog:=hh _ (lp1 13 6 (jobOf (fun (k:{ k:Nat // k<=p.prods.length })=>b1T p k.1) (fun k=>byM b p (prB p k.1)) bX (fun _=>.ret ()) (b1S b p) ⟨0,Nat.zero_le _⟩) (lp1 13 15 (jobOf (fun (k:{ k:Nat // k<=p.cons.length })=>b2T p k.1) (fun k=>byM b p (coB p k.1)) bX (fun _=>.ret ()) (b2S b p) ⟨0,Nat.zero_le _⟩) noLp))
 (cs1 13 1 2 (rgC p.rng) (cs1 13 1 5 (uwC p.epoch) (cs1 13 2 3 (uwC p.frozen) (cs1 13 3 3 (lsC b p.recs) (cs1 13 4 5 (uwC (p.prods.length:Int)) (cs1 13 13 5 (uwC (p.cons.length:Int)) noCs)))))) noOp
def vcBy (b:Bool) (p:Part):Prop :=
 ((p.rng.lo=p.rng.lo/\p.rng.hi=p.rng.hi/\True)/\True)/\True/\RgOk p.rng/\(p.epoch=p.epoch/\True)/\True/\UwOk p.epoch/\(decide ((rngB p.rng).length=(rngB p.rng).length)&&decide ((rngB p.rng).length+(uintB p.epoch).length<=9223372036854775807)&&decide (((rngB p.rng).length+(uintB p.epoch).length)*1<=140737488355328))=true/\(p.frozen=p.frozen/\True)/\True/\UwOk p.frozen/\(decide ((rngB p.rng).length+(uintB p.epoch).length=(rngB p.rng).length+(uintB p.epoch).length)&&decide ((rngB p.rng).length+(uintB p.epoch).length+(uintB p.frozen).length<=9223372036854775807)&&decide (((rngB p.rng).length+(uintB p.epoch).length+(uintB p.frozen).length)*1<=140737488355328))=true/\((b=b/\p.recs.length=p.recs.length/\contLe p.recs.length 5 (cellsOf' encR p.recs) (cellsOf' encR p.recs))/\True)/\True/\LsOk p.recs/\(decide ((rngB p.rng).length+(uintB p.epoch).length+(uintB p.frozen).length=(rngB p.rng).length+(uintB p.epoch).length+(uintB p.frozen).length)&&decide ((rngB p.rng).length+(uintB p.epoch).length+(uintB p.frozen).length+(recsB p.recs).length<=9223372036854775807)&&decide (((rngB p.rng).length+(uintB p.epoch).length+(uintB p.frozen).length+(recsB p.recs).length)*1<=140737488355328))=true/\(IntKind.u64.wrap (p.prods.length:Int)=(p.prods.length:Int)/\True)/\True/\UwOk (p.prods.length:Int)/\(decide ((rngB p.rng).length+(uintB p.epoch).length+(uintB p.frozen).length+(recsB p.recs).length=(rngB p.rng).length+(uintB p.epoch).length+(uintB p.frozen).length+(recsB p.recs).length)&&decide ((rngB p.rng).length+(uintB p.epoch).length+(uintB p.frozen).length+(recsB p.recs).length+(uintB (p.prods.length:Int)).length<=9223372036854775807)&&decide (((rngB p.rng).length+(uintB p.epoch).length+(uintB p.frozen).length+(recsB p.recs).length+(uintB (p.prods.length:Int)).length)*1<=140737488355328))=true/\(((0=0/\0=0)/\(0=0/\(rngB p.rng).length+(uintB p.epoch).length+(uintB p.frozen).length+(recsB p.recs).length+(uintB (p.prods.length:Int)).length=(prB p 0).length)/\(0:Int)=0/\True)/\((ptLe b b p p)/\((rngB p.rng).length+(uintB p.epoch).length+(uintB p.frozen).length+(recsB p.recs).length+(uintB (p.prods.length:Int)).length=(prB p 0).length/\contLe ((rngB p.rng).length+(uintB p.epoch).length+(uintB p.frozen).length+(recsB p.recs).length+(uintB (p.prods.length:Int)).length) 1 (appRow ((rngB p.rng).length+(uintB p.epoch).length+(uintB p.frozen).length+(recsB p.recs).length) (appRow ((rngB p.rng).length+(uintB p.epoch).length+(uintB p.frozen).length) (appRow ((rngB p.rng).length+(uintB p.epoch).length) (appRow (rngB p.rng).length (cellsOf' encB (rngB p.rng)) fun (k:Nat)=>cellsOf' encB (uintB p.epoch) (0+k)) fun (k:Nat)=>cellsOf' encB (uintB p.frozen) (0+k)) fun (k:Nat)=>cellsOf' encB (recsB p.recs) (0+k)) fun (k:Nat)=>cellsOf' encB (uintB (p.prods.length:Int)) (0+k)) (cellsOf' encB (prB p 0)))/\True)/\true=true)/\LoopOk Tryz.prog 13 6 (loopAt Tryz.prog 13 6) { t:=b1T p (⟨0,byH._proof_1 p⟩:{ k:Nat // k<=p.prods.length }).val,m:=byM b p (prB p (⟨0,byH._proof_1 p⟩:{ k:Nat // k<=p.prods.length }).val),mv:=[]:St } (T.map (lout bX (b1S b p)) ((fun (x:{ k:Nat // k<=p.prods.length })=>T.ret ()) (⟨0,byH._proof_1 p⟩:{ k:Nat // k<=p.prods.length })))/\(IntKind.u64.wrap (p.cons.length:Int)=(p.cons.length:Int)/\True)/\True/\UwOk (p.cons.length:Int)/\(decide ((prB p p.prods.length).length=(prB p p.prods.length).length)&&decide ((prB p p.prods.length).length+(uintB (p.cons.length:Int)).length<=9223372036854775807)&&decide (((prB p p.prods.length).length+(uintB (p.cons.length:Int)).length)*1<=140737488355328))=true/\(((0=0/\0=0)/\(0=0/\(prB p p.prods.length).length+(uintB (p.cons.length:Int)).length=(coB p 0).length)/\(0:Int)=0/\True)/\((ptLe b b p p)/\((prB p p.prods.length).length+(uintB (p.cons.length:Int)).length=(coB p 0).length/\contLe ((prB p p.prods.length).length+(uintB (p.cons.length:Int)).length) 1 (appRow (prB p p.prods.length).length (cellsOf' encB (prB p p.prods.length)) fun (k:Nat)=>cellsOf' encB (uintB (p.cons.length:Int)) (0+k)) (cellsOf' encB (coB p 0)))/\True)/\true=true)/\LoopOk Tryz.prog 13 15 (loopAt Tryz.prog 13 15) { t:=b2T p (⟨0,byH._proof_2 p⟩:{ k:Nat // k<=p.cons.length }).val,m:=byM b p (coB p (⟨0,byH._proof_2 p⟩:{ k:Nat // k<=p.cons.length }).val),mv:=[]:St } (T.map (lout bX (b2S b p)) ((fun (x:{ k:Nat // k<=p.cons.length })=>T.ret ()) (⟨0,byH._proof_2 p⟩:{ k:Nat // k<=p.cons.length })))/\(0=0/\(partB p).length=(partB p).length)/\((partB p).length=(partB p).length/\contLe (partB p).length 1 (cellsOf' encB (partB p)) (cellsOf' encB (partB p)))/\True
theorem vcBy_eq (b:Bool) (p:Part):(ctrVC Tryz.prog (byH b p) 13 [.agg (encPt b p)] [] (bytesR (partB p)))=vcBy b p:=by kernel_rfl
structure ByOk (p:Part):Prop where
 rg:RgOk p.rng
 ep:UwOk p.epoch
 fr:UwOk p.frozen
 ls:LsOk p.recs
 pn:p.prods.length<=1099511627776
 cn:p.cons.length<=1099511627776
 n:(partB p).length<=70368744177664
 pr:∀ k,k<p.prods.length->UwOk (p.prods.getD k default).id/\UwOk (p.prods.getD k default).seq/\UwOk (p.prods.getD k default).offset
 co:∀ k,k<p.cons.length->(p.cons.getD k default).name.size<=1099511627776/\UwOk (p.cons.getD k default).off
theorem prB_le (p:Part) (k:Nat):(prB p k).length<=(partB p).length:=by
 have:=fm_le prodB p.prods k
 simp only [partB,coB,prB,List.length_append,List.take_length]
 omega
theorem coB_le (p:Part) (k:Nat):(coB p k).length<=(partB p).length:=by
 have:=fm_le conB p.cons k
 simp only [partB,coB,List.length_append,List.take_length]
 omega
theorem prB_step {p:Part} {k:Nat} (h:k<p.prods.length):prB p (k+1)=prB p k++uintB (p.prods.getD k default).id++uintB (p.prods.getD k default).seq++boolB (p.prods.getD k default).here++uintB (p.prods.getD k default).offset:=by
 unfold prB
 rw [fm_step _ h]
 simp only [prodB,List.append_assoc]
theorem coB_step {p:Part} {k:Nat} (h:k<p.cons.length):coB p (k+1)=coB p k++textB (strB (p.cons.getD k default).name)++uintB (p.cons.getD k default).off:=by
 unfold coB
 rw [fm_step _ h]
 simp only [conB,List.append_assoc]
end Go.Proofs.YtckklclehofddaaGreatDoor.Q

namespace Go.Proofs.YtckklclehofddaaGreatDoor.Q
open Go.Ax Go.Proofs.YtckklclehofddaaGreatDoor Go.Proofs.YtckklclehofddaaGreatDoor.J
set_option maxRecDepth 1000000
attribute [local irreducible] prB coB partB rngB recsB uintB textB strB boolB hdB
theorem boB_eq (b:Bool):boolB b=[if b=true then 1 else 0]:=by unfold boolB;rfl
theorem b1_loop (b:Bool) (p:Part) (h:ByOk p) (k:{ k:Nat // k<=p.prods.length }):LoopOk Tryz.prog 13 6 (loopAt Tryz.prog 13 6) ⟨b1T p k.1,byM b p (prB p k.1),[]⟩ (T.map (lout bX (b1S b p)) (.ret ())):=by
 refine loop_vcH (o:=fun _=>.ret ()) (stT:=fun (k:{ k:Nat // k<=p.prods.length })=>b1T p k.1) (stM:=fun k=>byM b p (prB p k.1)) Tryz.mixed (fun _=>rfl) (fun k=>(vcB1_eq b p k).mpr ?_) k
 unfold vcB1
 obtain ⟨k,hk⟩:=k
 have hn:=h.n
 have hpn:=h.pn
 by_cases hkl:k<p.prods.length
 · obtain ⟨r1,r2,r3⟩:=h.pr k hkl
   have hex:∀ q:{ k:Nat // k<=p.prods.length }->Prop,q ⟨k+1,hkl⟩->∃ j,q j:=fun q hq=>⟨_,hq⟩
   have hw:IntKind.i64.wrap ((k:Int)+1)=((k+1:Nat):Int):=by rw [wrap_i64 (by omega) (by omega)];omega
   have hs:=prB_step hkl
   have hl:=prB_le p k
   simp only [Int.toNat_natCast,Nat.zero_add,<- List.length_append,catB_eq] at *
   generalize p.prods.getD k default=x at *
   have l1:=uintB_len x.id
   have l2:=uintB_len x.seq
   have l3:=uintB_len x.offset
   have l4:=boB_eq x.here
   rw [l4] at hs
   clear l4
   have hs':(prB p (k+1)).length=(prB p k).length+(uintB x.id).length+(uintB x.seq).length+1+(uintB x.offset).length:=by rw [hs];simp;omega
   refine ⟨fun _=>?_,fun h=>by simp at h;omega⟩
   repeat' with_reducible apply And.intro
   all_goals first
    | with_reducible rfl
    | exact trivial
    | assumption
    | omega
    | exact contLe_refl _ _ _
    | (simp;done)
    | (simp;omega)
    | (refine hex _ ?_
       rw [<- hs]
       simp [hw]
       omega)
 · obtain rfl:k=p.prods.length:=by omega
   refine ⟨fun h=>by simp at h,fun _=>?_⟩
   simp
theorem b2_loop (b:Bool) (p:Part) (h:ByOk p) (k:{ k:Nat // k<=p.cons.length }):LoopOk Tryz.prog 13 15 (loopAt Tryz.prog 13 15) ⟨b2T p k.1,byM b p (coB p k.1),[]⟩ (T.map (lout bX (b2S b p)) (.ret ())):=by
 refine loop_vcH (o:=fun _=>.ret ()) (stT:=fun (k:{ k:Nat // k<=p.cons.length })=>b2T p k.1) (stM:=fun k=>byM b p (coB p k.1)) Tryz.mixed (fun _=>rfl) (fun k=>(vcB2_eq b p k).mpr ?_) k
 unfold vcB2
 obtain ⟨k,hk⟩:=k
 have hn:=h.n
 have hcn:=h.cn
 by_cases hkl:k<p.cons.length
 · obtain ⟨r1,r2⟩:=h.co k hkl
   have hex:∀ q:{ k:Nat // k<=p.cons.length }->Prop,q ⟨k+1,hkl⟩->∃ j,q j:=fun q hq=>⟨_,hq⟩
   have hw:IntKind.i64.wrap ((k:Int)+1)=((k+1:Nat):Int):=by rw [wrap_i64 (by omega) (by omega)];omega
   have hs:=coB_step hkl
   have hl:=coB_le p k
   simp only [Int.toNat_natCast,Nat.zero_add,<- List.length_append,catB_eq] at *
   generalize p.cons.getD k default=x at *
   have l1:=uintB_len x.off
   have l2:=textB_len (strB x.name)
   have l3:=strB_len x.name
   have c1:=str_le x.name
   have hs':(coB p (k+1)).length=(coB p k).length+(textB (strB x.name)).length+(uintB x.off).length:=by rw [hs];simp;omega
   refine ⟨fun _=>?_,fun h=>by simp at h;omega⟩
   repeat' with_reducible apply And.intro
   all_goals first
    | with_reducible rfl
    | exact trivial
    | assumption
    | omega
    | exact contLe_refl _ _ _
    | (simp;done)
    | (simp;omega)
    | (refine hex _ ?_
       rw [<- hs]
       simp [hw]
       omega)
 · obtain rfl:k=p.cons.length:=by omega
   refine ⟨fun h=>by simp at h,fun _=>?_⟩
   simp [partB]
theorem by_c (b:Bool) (p:Part) (h:ByOk p):(bytesR (partB p)).Sat (ACall' Tryz.prog 13 [.agg (encPt b p)] []):=by
 refine ctr_vc (ht:=byH b p) Tryz.mixed rfl ?_
 rw [vcBy_eq b p]
 unfold vcBy
 have lp1:=b1_loop b p h ⟨0,Nat.zero_le _⟩
 have lp2:=b2_loop b p h ⟨0,Nat.zero_le _⟩
 obtain ⟨h1,h2,h3,h4,h5,h6,h7,h8,h9⟩:=h
 have w1:IntKind.u64.wrap (p.prods.length:Int)=(p.prods.length:Int):=wrap_u64 (by omega) (by omega)
 have w2:IntKind.u64.wrap (p.cons.length:Int)=(p.cons.length:Int):=wrap_u64 (by omega) (by omega)
 have u1:UwOk (p.prods.length:Int):=⟨by omega,by omega⟩
 have u2:UwOk (p.cons.length:Int):=⟨by omega,by omega⟩
 have e1:prB p 0=rngB p.rng++uintB p.epoch++uintB p.frozen++recsB p.recs++uintB (p.prods.length:Int):=by simp [prB,hdB]
 have e2:coB p 0=prB p p.prods.length++uintB (p.cons.length:Int):=by simp [coB]
 have n1:(prB p 0).length=(rngB p.rng).length+(uintB p.epoch).length+(uintB p.frozen).length+(recsB p.recs).length+(uintB (p.prods.length:Int)).length:=by rw [e1];simp only [List.length_append]
 have n2:(coB p 0).length=(prB p p.prods.length).length+(uintB (p.cons.length:Int)).length:=by rw [e2];simp only [List.length_append]
 have m1:=coB_le p 0
 have m2:=prB_le p p.prods.length
 have m3:=prB_le p 0
 simp only [Nat.zero_add,<- List.length_append,catB_eq,w1,w2,<- e1,<- e2]
 repeat' with_reducible apply And.intro
 all_goals first
  | with_reducible rfl
  | exact trivial
  | assumption
  | omega
  | exact contLe_refl _ _ _
  | (simp;done)
  | (simp;omega)
noncomputable def byC (b:Bool) (p:Part):Ctr Tryz.prog:=⟨13,[.agg (encPt b p)],[],.need (ByOk p) (bytesR (partB p)),T.Sat.need fun h=>by_c b p h⟩
end Go.Proofs.YtckklclehofddaaGreatDoor.Q

namespace Go.Proofs.YtckklclehofddaaGreatDoor.D
open Go.Ax
set_option maxRecDepth 1000000
noncomputable def psC (b1 b2:Bool) (a:List P.Producer):Ctr Tryz.prog:=⟨26,[P.encPs b1 a,P.encPs b2 a],[],.need (a.length<=9223372036854775806) (P.smR a a),T.Sat.need fun h=>P.same_c b1 b2 a a h⟩
noncomputable def samH (p:Part):HintsT Tryz.prog:=hh _ noLp (cs1 11 1 4 (sameC true true p.recs p.recs) (cs1 11 2 4 (psC true true p.prods) (cs1 11 3 4 (scC true true p.cons p.cons) noCs))) noOp
def vcSam (p:Part):Prop :=
 ((true=true/\p.recs.length=p.recs.length/\contLe p.recs.length 5 (cellsOf' encR p.recs) (cellsOf' encR p.recs))/\(true=true/\p.recs.length=p.recs.length/\contLe p.recs.length 5 (cellsOf' encR p.recs) (cellsOf' encR p.recs))/\True)/\True/\(p.recs.length<=9223372036854775806/\p.recs=p.recs)/\((true=true/\p.prods.length=p.prods.length/\contLe p.prods.length 4 (cellsOf' P.encP p.prods) (cellsOf' P.encP p.prods))/\(true=true/\p.prods.length=p.prods.length/\contLe p.prods.length 4 (cellsOf' P.encP p.prods) (cellsOf' P.encP p.prods))/\True)/\True/\p.prods.length<=9223372036854775806/\((true=true/\p.cons.length=p.cons.length/\contLe p.cons.length 2 (cellsOf' encC p.cons) (cellsOf' encC p.cons))/\(true=true/\p.cons.length=p.cons.length/\contLe p.cons.length 2 (cellsOf' encC p.cons) (cellsOf' encC p.cons))/\True)/\True/\(p.cons.length<=9223372036854775806/\p.cons=p.cons)/\(true=true->(P.sameP p.prods p.prods=true->(true=true->((p.rng.lo.data.toList==p.rng.lo.data.toList&&(p.rng.hi.data.toList==p.rng.hi.data.toList&&true))=true->((p.epoch==p.epoch)=true->(p.frozen==p.frozen)=true/\True)/\((p.epoch==p.epoch)=false->false=true/\True))/\((p.rng.lo.data.toList==p.rng.lo.data.toList&&(p.rng.hi.data.toList==p.rng.hi.data.toList&&true))=false->false=true/\True))/\(true=false->false=true/\True))/\(P.sameP p.prods p.prods=false->false=true/\True))/\(true=false->false=true/\True)
theorem vcSam_eq (p:Part):(ctrVC Tryz.prog (samH p) 11 [.agg (encPt true p),.agg (encPt true p)] [] (boolR true))=vcSam p:=by kernel_rfl
theorem sameP_refl (a:List P.Producer):P.sameP a a=true:=by
 unfold P.sameP P.sameFrom
 simp [P.eqP]
theorem sam_c (p:Part) (hp:PartTy p):(boolR true).Sat (ACall' Tryz.prog 11 [.agg (encPt true p),.agg (encPt true p)] []):=by
 refine ctr_vc (ht:=samH p) Tryz.mixed rfl ?_
 rw [vcSam_eq p]
 unfold vcSam
 obtain ⟨h1,h2,h3,_,_⟩:=hp
 have g1:p.recs.length<=9223372036854775806:=by omega
 have g2:p.prods.length<=9223372036854775806:=by omega
 have g3:p.cons.length<=9223372036854775806:=by omega
 simp [g1,g2,g3,sameP_refl]
noncomputable def samC (p q:Part):Ctr Tryz.prog:=⟨11,[.agg (encPt true p),.agg (encPt true q)],[],.need (PartTy p/\p=q) (boolR true),T.Sat.need fun h=>by obtain ⟨h1,rfl⟩:=h;exact sam_c p h1⟩
def okT (A B:Part):T An:=.ret (.tup [.agg (encPt true A),.agg (encPt true B),.s (.int .i64 0)],[],[])
structure SplOk (p:Part) (k:ByteArray) (A B:Part):Prop where
 ty:PartTy p
 sz:k.size<=9223372036854775807
 v:splitE p k=0
 a:A=partOf p (rLow p.rng k)
 b:B=partOf p (rHigh p.rng k)
noncomputable def okC (p:Part) (k:ByteArray) (A B:Part):Ctr Tryz.prog:=⟨9,[.agg (encPt true p),.y (.string k)],[],.need (SplOk p k A B) (okT A B),T.Sat.need fun h=>by
 have:=split_c p k h.ty h.sz
 unfold splitT at this
 rw [h.v] at this
 intro Q hq
 rw [h.a,h.b] at hq
 exact this Q ⟨fun _=>hq,fun e=>by simp at e⟩⟩
def kc:ByteArray:=⟨#[99]⟩
def someP:Part:=⟨⟨ByteArray.empty,ByteArray.empty⟩,3,1,[⟨0,⟨#[97]⟩,[],7,1⟩,⟨1,⟨#[109]⟩,[],7,2⟩,⟨2,⟨#[98]⟩,[],8,1⟩],[⟨7,2,true,1⟩,⟨8,1,true,2⟩],[⟨⟨#[99]⟩,2⟩]⟩
noncomputable def livH:HintsT Tryz.prog:=withSh (hh _ noLp (cs1 8 1 1 (okC someP kc (partOf someP (rLow someP.rng kc)) (partOf someP (rHigh someP.rng kc))) noCs) noOp) (sh1 10 1 9 779 noSh)
def vcLiv (u:Unit):Prop :=
 (({ data:=#[]:ByteArray }=ByteArray.empty/\{ data:=#[]:ByteArray }=ByteArray.empty/\(3:Int)=3/\(1:Int)=1/\(true=true/\3=3/\contLe 3 5 (Ax.rowAt 0 fun (k j:Nat)=>Ax.get [AV.s (.int .u64 0),AV.s (Value.string { data:=#[(97:UInt8)]:ByteArray }),AV.s (Value.slice none 0 0),AV.s (.int .u64 7),AV.s (.int .u64 1),AV.s (.int .u64 1),AV.s (Value.string { data:=#[(109:UInt8)]:ByteArray }),AV.s (Value.slice none 0 0),AV.s (.int .u64 7),AV.s (.int .u64 2),AV.s (.int .u64 2),AV.s (Value.string { data:=#[(98:UInt8)]:ByteArray }),AV.s (Value.slice none 0 0),AV.s (.int .u64 8),AV.s (.int .u64 1)] (k*5+j)) (cellsOf' encR [{ off:=0,key:={ data:=#[(97:UInt8)]:ByteArray },val:=[],prod:=7,seq:=1:Rec },{ off:=1,key:={ data:=#[(109:UInt8)]:ByteArray },val:=[],prod:=7,seq:=2:Rec },{ off:=2,key:={ data:=#[(98:UInt8)]:ByteArray },val:=[],prod:=8,seq:=1:Rec }]))/\(true=true/\2=2/\contLe 2 4 (Ax.rowAt 0 fun (k j:Nat)=>Ax.get [AV.s (.int .u64 7),AV.s (.int .u64 2),AV.s (Value.bool true),AV.s (.int .u64 1),AV.s (.int .u64 8),AV.s (.int .u64 1),AV.s (Value.bool true),AV.s (.int .u64 2)] (k*4+j)) (cellsOf' P.encP [{ id:=7,seq:=2,here:=true,offset:=1:P.Producer },{ id:=8,seq:=1,here:=true,offset:=2:P.Producer }]))/\(true=true/\1=1/\contLe 1 2 (Ax.rowAt 0 fun (k j:Nat)=>Ax.get [AV.s (Value.string { data:=#[(99:UInt8)]:ByteArray }),AV.s (.int .u64 2)] (k*2+j)) (cellsOf' encC [{ name:={ data:=#[(99:UInt8)]:ByteArray },off:=2:Con }]))/\True)/\{ data:=#[(99:UInt8)]:ByteArray }=kc/\True)/\True/\SplOk someP kc (partOf someP (rLow { lo:=ByteArray.empty,hi:=ByteArray.empty:Rng } kc)) (partOf someP (rHigh { lo:=ByteArray.empty,hi:=ByteArray.empty:Rng } kc))/\(true=true->(true=true->true=true/\True)/\(true=false->false=true/\True))/\(true=false->false=true/\True)
theorem vcLiv_eq (u:Unit):(ctrVC Tryz.prog livH 8 [] [] (boolR true))=vcLiv u:=by kernel_rfl
theorem liv_c:(boolR true).Sat (ACall' Tryz.prog 8 [] []):=by
 refine ctr_vc (ht:=livH) Tryz.mixed rfl ?_
 rw [vcLiv_eq ()]
 unfold vcLiv
 have h1:PartTy someP:=by
  refine ⟨by decide,by decide,by decide,?_,?_⟩
  · intro x hx
    simp [someP] at hx
    rcases hx with rfl | rfl<;>decide
  · intro x hx
    simp [someP] at hx
    subst hx
    exact ⟨by decide,by decide⟩
 have two:∀ {a b:Nat} {c c':Nat->Nat->AV},(∀ k,k<a->∀ j,j<b->le0 (c k j) (c' k j))->contLe a b c c':=fun h=>h
 refine ⟨⟨⟨rfl,rfl,rfl,rfl,⟨rfl,rfl,?_⟩,⟨rfl,rfl,?_⟩,⟨rfl,rfl,?_⟩,trivial⟩,rfl,trivial⟩,trivial,⟨h1,by decide,rfl,rfl,rfl⟩,fun _=>⟨fun _=>⟨rfl,trivial⟩,fun e=>by cases e⟩,fun e=>by cases e⟩
 · intro k hk j hj
   match k,hk,j,hj with
   | 0,_,0,_ | 0,_,1,_ | 0,_,3,_ | 0,_,4,_ | 1,_,0,_ | 1,_,1,_ | 1,_,3,_ | 1,_,4,_ | 2,_,0,_ | 2,_,1,_ | 2,_,3,_ | 2,_,4,_=>rfl
   | 0,_,2,_ | 1,_,2,_ | 2,_,2,_=>rfl
 · intro k hk j hj
   match k,hk,j,hj with
   | 0,_,0,_ | 0,_,1,_ | 0,_,2,_ | 0,_,3,_ | 1,_,0,_ | 1,_,1,_ | 1,_,2,_ | 1,_,3,_=>rfl
 · intro k hk j hj
   match k,hk,j,hj with
   | 0,_,0,_ | 0,_,1,_=>rfl
noncomputable def livC:Ctr Tryz.prog:=⟨8,[],[],boolR true,liv_c⟩
end Go.Proofs.YtckklclehofddaaGreatDoor.D

namespace Go.Proofs.YtckklclehofddaaGreatDoor.Q
open Go.Ax Go.Proofs.YtckklclehofddaaGreatDoor Go.Proofs.YtckklclehofddaaGreatDoor.H Go.Proofs.YtckklclehofddaaGreatDoor.D
set_option maxRecDepth 1000000
def ptO (p:Part):List Blk:=[rowR p.recs,rowPr p.prods,rowC p.cons]
noncomputable def safH (p:Part):HintsT Tryz.prog:=hh _ noLp (cs1 11 1 4 (sfC false false p.recs p.recs) (cs1 11 2 4 (psC false false p.prods) (cs1 11 3 4 (scC false false p.cons p.cons) noCs))) noOp
def vcSaf (p:Part):Prop :=
 ((false=false/\p.recs.length=p.recs.length/\contLe p.recs.length 5 (cellsOf' encF p.recs) (cellsOf' encF p.recs))/\(false=false/\p.recs.length=p.recs.length/\contLe p.recs.length 5 (cellsOf' encR p.recs) (cellsOf' encR p.recs))/\True)/\True/\(p.recs.length<=9223372036854775806/\p.recs=p.recs)/\((false=false/\p.prods.length=p.prods.length/\contLe p.prods.length 4 (cellsOf' P.encP p.prods) (cellsOf' P.encP p.prods))/\(false=false/\p.prods.length=p.prods.length/\contLe p.prods.length 4 (cellsOf' P.encP p.prods) (cellsOf' P.encP p.prods))/\True)/\True/\p.prods.length<=9223372036854775806/\((false=false/\p.cons.length=p.cons.length/\contLe p.cons.length 2 (cellsOf' encC p.cons) (cellsOf' encC p.cons))/\(false=false/\p.cons.length=p.cons.length/\contLe p.cons.length 2 (cellsOf' encC p.cons) (cellsOf' encC p.cons))/\True)/\True/\(p.cons.length<=9223372036854775806/\p.cons=p.cons)/\(true=true->(P.sameP p.prods p.prods=true->(true=true->((p.rng.lo.data.toList==p.rng.lo.data.toList&&(p.rng.hi.data.toList==p.rng.hi.data.toList&&true))=true->((p.epoch==p.epoch)=true->(p.frozen==p.frozen)=true/\True)/\((p.epoch==p.epoch)=false->false=true/\True))/\((p.rng.lo.data.toList==p.rng.lo.data.toList&&(p.rng.hi.data.toList==p.rng.hi.data.toList&&true))=false->false=true/\True))/\(true=false->false=true/\True))/\(P.sameP p.prods p.prods=false->false=true/\True))/\(true=false->false=true/\True)
theorem vcSaf_eq (p:Part):(ctrVC Tryz.prog (safH p) 11 [.agg (ptF p),.agg (encPt false p)] [] (boolR true))=vcSaf p:=by kernel_rfl
structure LenOk (p:Part):Prop where
 rl:p.recs.length<=4611686018427387903
 pl:p.prods.length<=4611686018427387903
 cl:p.cons.length<=4611686018427387903
theorem saf_c (p:Part) (hp:LenOk p):(boolR true).Sat (ACall' Tryz.prog 11 [.agg (ptF p),.agg (encPt false p)] []):=by
 refine ctr_vc (ht:=safH p) Tryz.mixed rfl ?_
 rw [vcSaf_eq p]
 unfold vcSaf
 obtain ⟨h1,h2,h3⟩:=hp
 have g1:p.recs.length<=9223372036854775806:=by omega
 have g2:p.prods.length<=9223372036854775806:=by omega
 have g3:p.cons.length<=9223372036854775806:=by omega
 simp [g1,g2,g3,sameP_refl]
noncomputable def safC (p:Part):Ctr Tryz.prog:=⟨11,[.agg (ptF p),.agg (encPt false p)],[],.need (LenOk p) (boolR true),T.Sat.need fun h=>saf_c p h⟩
end Go.Proofs.YtckklclehofddaaGreatDoor.Q

namespace Go.Proofs.YtckklclehofddaaGreatDoor.D
open Go.Ax
set_option maxRecDepth 1000000
structure JoinOk (a b out:List Rec) (ta tb:List Int):Prop where
 la:isLog a=true
 lb:isLog b=true
 n:a.length+b.length<=4096
 r:∃ s,(jo0 a b).run=some s/\out=s.end.out/\ta=s.end.ta/\tb=s.end.tb
def joT0 (out:List Rec) (ta tb:List Int):T An:=.ret (.tup [.own 0 5 0 out.length,.own 1 1 0 ta.length,.own 2 1 0 tb.length,.s (.int .i64 0)],[rowR out,rowU ta,rowU tb],[])
noncomputable def joC0 (b1 b2:Bool) (a b out:List Rec) (ta tb:List Int):Ctr Tryz.prog:=⟨57,[encRs b1 a,encRs b2 b],[],.need (JoinOk a b out ta tb) (joT0 out ta tb),T.Sat.need fun h=>by
 obtain ⟨s,hs,rfl,rfl,rfl⟩:=h.r
 have l1:=log_len h.la
 have l2:=log_len h.lb
 have:=join_c b1 b2 a b (by omega) (by omega)
 unfold joinT at this
 rw [h.la,h.lb,hs] at this
 intro Q hq
 exact this Q ⟨fun _=>⟨fun _=>⟨fun _=>hq,fun e=>by simp at e⟩,fun e=>by simp at e;have:=h.n;omega⟩,fun e=>by simp at e⟩⟩
noncomputable def joC1 (e:Int) (b1 b2:Bool) (a b:List Rec):Ctr Tryz.prog:=⟨57,[encRs b1 a,encRs b2 b],[],.need (isLog a=true/\isLog b=true/\((4096<a.length+b.length/\e=143)∨(a.length+b.length<=4096/\(jo0 a b).run=none/\e=145))) (joE e),T.Sat.need fun h=>by
 obtain ⟨h1,h2,h3⟩:=h
 have l1:=log_len h1
 have l2:=log_len h2
 have:=join_c b1 b2 a b (by omega) (by omega)
 unfold joinT at this
 rw [h1,h2] at this
 intro Q hq
 rcases h3 with ⟨h3,rfl⟩ | ⟨h3,h4,rfl⟩
 · exact this Q ⟨fun _=>⟨fun e=>by simp at e;omega,fun _=>hq⟩,fun e=>by simp at e⟩
 · rw [h4] at this
   exact this Q ⟨fun _=>⟨fun _=>⟨fun e=>by simp at e,fun _=>hq⟩,fun e=>by simp at e;omega⟩,fun e=>by simp at e⟩⟩
structure PbIn (a b:List P.Producer) (ta tb:List Int):Prop where
 na:a.length*32<=140737488355200
 nb:b.length*32<=140737488355200
 nta:ta.length<=9223372036854775806
 ntb:tb.length<=9223372036854775806
 oa:∀ x∈a,0<=x.offset/\x.offset<18446744073709551616
 ob:∀ x∈b,0<=x.offset/\x.offset<18446744073709551616
def pbT0 (ps:List P.Producer):T An:=.ret (.tup [.own 0 4 0 ps.length,.s (.int .i64 0)],[.row 39 4 ps.length none (cellsOf' P.encP ps)],[])
noncomputable def pbC0 (b1 b2 b3 b4:Bool) (a b:List P.Producer) (ta tb:List Int) (ps:List P.Producer):Ctr Tryz.prog:=⟨59,[P.encPs b1 a,P.encPs b2 b,encUs b3 ta,encUs b4 tb],[],.need (PbIn a b ta tb/\P.bothE a b ta tb=0/\ps=P.bothL a b ta tb) (pbT0 ps),T.Sat.need fun h=>by
 obtain ⟨⟨h1,h2,h3,h4,h5,h6⟩,h7,rfl⟩:=h
 have:=P.both_c b1 b2 b3 b4 a b ta tb h1 h2 h3 h4 h5 h6
 unfold P.rowE at this
 rw [h7] at this
 intro Q hq
 exact this Q ⟨fun _=>hq,fun e=>by simp at e⟩⟩
noncomputable def pbC1 (b1 b2 b3 b4:Bool) (a b:List P.Producer) (ta tb:List Int):Ctr Tryz.prog:=⟨59,[P.encPs b1 a,P.encPs b2 b,encUs b3 ta,encUs b4 tb],[],.need (PbIn a b ta tb/\P.bothE a b ta tb=153) (.ret (.tup [.s (.slice none 0 0),.s (.int .i64 153)],[],[])),T.Sat.need fun h=>by
 obtain ⟨⟨h1,h2,h3,h4,h5,h6⟩,h7⟩:=h
 have:=P.both_c b1 b2 b3 b4 a b ta tb h1 h2 h3 h4 h5 h6
 unfold P.rowE at this
 rw [h7] at this
 refine ret_as (r:=.tup [.s (.slice none 0 0),.y (.int .i64 153)]) (fun _ _ _ h=>h) fun Q hq=>?_
 exact this Q ⟨fun e=>by simp at e,fun _=>hq⟩⟩
structure CbIn (a b:List Con) (ta tb:List Int):Prop where
 na:a.length<=9223372036854775806
 nb:b.length<=9223372036854775806
 wa:wfC a
 wb:wfC b
 nta:ta.length<=9223372036854775806
 ntb:tb.length<=9223372036854775806
def cbT0 (cs:List Con):T An:=.ret (.tup [.own 0 2 0 cs.length,.s (.int .i64 0)],[rowC cs],[])
def conB (a b:List Con) (ta tb:List Int):List Con:=boU a b ta tb (a++b).length
noncomputable def cbC0 (b1 b2 b3 b4:Bool) (a b:List Con) (ta tb:List Int) (cs:List Con):Ctr Tryz.prog:=⟨61,[encCs b1 a,encCs b2 b,encUs b3 ta,encUs b4 tb],[],.need (CbIn a b ta tb/\bothE a b ta tb=0/\cs=conB a b ta tb) (cbT0 cs),T.Sat.need fun h=>by
 obtain ⟨⟨h1,h2,h3,h4,h5,h6⟩,h7,rfl⟩:=h
 have:=both_c b1 b2 b3 b4 a b ta tb h1 h2 h3 h4 h5 h6
 unfold rowE at this
 rw [h7] at this
 intro Q hq
 exact this Q ⟨fun _=>hq,fun e=>by simp at e⟩⟩
noncomputable def cbC1 (b1 b2 b3 b4:Bool) (a b:List Con) (ta tb:List Int):Ctr Tryz.prog:=⟨61,[encCs b1 a,encCs b2 b,encUs b3 ta,encUs b4 tb],[],.need (CbIn a b ta tb/\bothE a b ta tb=143) (.ret (.tup [.s (.slice none 0 0),.s (.int .i64 143)],[],[])),T.Sat.need fun h=>by
 obtain ⟨⟨h1,h2,h3,h4,h5,h6⟩,h7⟩:=h
 have:=both_c b1 b2 b3 b4 a b ta tb h1 h2 h3 h4 h5 h6
 unfold rowE at this
 rw [h7] at this
 refine ret_as (r:=.tup [.s (.slice none 0 0),.y (.int .i64 143)]) (fun _ _ _ h=>h) fun Q hq=>?_
 exact this Q ⟨fun e=>by simp at e,fun _=>hq⟩⟩
noncomputable def pkC (i:Int) (b:Bool) (p:Part):Ctr Tryz.prog:=⟨15,[.agg (encPt b p)],[],.need (PartIn p/\((partOk p=true/\i=0)∨(partOk p=false/\i=165))) (.ret (.s (.int .i64 i),[],[])),T.Sat.need fun h=>by
 obtain ⟨h1,h2⟩:=h
 have:=pc_c b p h1
 unfold errR at this
 intro Q hq
 rcases h2 with ⟨h2,rfl⟩ | ⟨h2,rfl⟩
 · rw [h2] at this;exact this Q ⟨fun _=>hq,fun e=>by simp at e⟩
 · rw [h2] at this;exact this Q ⟨fun e=>by simp at e,fun _=>hq⟩⟩
structure Mrg where
 a:Part
 b:Part
 out:List Rec
 ta:List Int
 tb:List Int
 ps:List P.Producer
 cs:List Con
def Mrg.ep (x:Mrg):Int:=IntKind.u64.wrap ((if x.b.epoch > x.a.epoch then x.b.epoch else x.a.epoch)+1)
def Mrg.m (x:Mrg):Part:=⟨⟨x.a.rng.lo,x.b.rng.hi⟩,x.ep,0,x.out,x.ps,x.cs⟩
def mrE (e:Int):T An:=.ret (.tup [.agg (encPt true default),.s (.int .i64 e)],[],[])
def mSub:List Nat:=[54,56,58,60]
noncomputable def mrK (ur um uj up uc uk:Ctr Tryz.prog):HintsT Tryz.prog:=withSh (withSub (hh _ noLp (cs1 28 1 3 ur (cs1 54 1 4 um (cs1 56 1 4 uj (cs1 58 1 6 up (cs1 60 1 6 uc (cs1 28 14 1 uk noCs)))))) noOp) mSub) (sh1 12 4 0 779 noSh)
noncomputable def mr1H (x:Mrg):HintsT Tryz.prog:=mrK (usC172 x.a x.b) (kmC0 x.a.rng x.b.rng) (joC0 true true x.a.recs x.b.recs x.out x.ta x.tb) (pbC0 true true false false x.a.prods x.b.prods x.ta x.tb x.ps) (cbC0 true true false false x.a.cons x.b.cons x.ta x.tb x.cs) (pkC 0 false x.m)
def vcM1 (x:Mrg):Prop :=
 ((false=false/\2=2/\contLe 2 7 (fun (k j:Nat)=>Ax.get [AV.y (.string x.a.rng.lo),AV.y (.string x.a.rng.hi),AV.y (.int .u64 x.a.epoch),AV.y (.int .u64 x.a.frozen),AV.ys true 5 x.a.recs.length (cellsOf' encR x.a.recs),AV.ys true 4 x.a.prods.length (cellsOf' P.encP x.a.prods),AV.ys true 2 x.a.cons.length (cellsOf' encC x.a.cons),AV.y (.string x.b.rng.lo),AV.y (.string x.b.rng.hi),AV.y (.int .u64 x.b.epoch),AV.y (.int .u64 x.b.frozen),AV.ys true 5 x.b.recs.length (cellsOf' encR x.b.recs),AV.ys true 4 x.b.prods.length (cellsOf' P.encP x.b.prods),AV.ys true 2 x.b.cons.length (cellsOf' encC x.b.cons)] ((0+k)*7+j)) fun (k j:Nat)=>Ax.get [AV.y (.string x.a.rng.lo),AV.y (.string x.a.rng.hi),AV.y (.int .u64 x.a.epoch),AV.y (.int .u64 x.a.frozen),AV.ys true 5 x.a.recs.length (cellsOf' encR x.a.recs),AV.ys true 4 x.a.prods.length (cellsOf' P.encP x.a.prods),AV.ys true 2 x.a.cons.length (cellsOf' encC x.a.cons),AV.y (.string x.b.rng.lo),AV.y (.string x.b.rng.hi),AV.y (.int .u64 x.b.epoch),AV.y (.int .u64 x.b.frozen),AV.ys true 5 x.b.recs.length (cellsOf' encR x.b.recs),AV.ys true 4 x.b.prods.length (cellsOf' P.encP x.b.prods),AV.ys true 2 x.b.cons.length (cellsOf' encC x.b.cons)] (k*7+j))/\True)/\True/\(PartTy x.a/\PartTy x.b/\(bad x.a||bad x.b)=true)/\true=true/\True/\(({ data:=#[]:ByteArray }=ByteArray.empty/\{ data:=#[]:ByteArray }=ByteArray.empty/\(0:Int)=0/\(0:Int)=0/\0=0/\0=0/\0=0/\True)/\(172:Int)=172/\True)/\True
theorem vcM1_eq (x:Mrg):(ctrVC Tryz.prog (mr1H x) 12 [.agg (encPt true x.a),.agg (encPt true x.b)] [] (mrE 172))=vcM1 x:=by kernel_rfl
noncomputable def mr2H (x:Mrg):HintsT Tryz.prog:=mrK (usC171 x.a x.b) (kmC0 x.a.rng x.b.rng) (joC0 true true x.a.recs x.b.recs x.out x.ta x.tb) (pbC0 true true false false x.a.prods x.b.prods x.ta x.tb x.ps) (cbC0 true true false false x.a.cons x.b.cons x.ta x.tb x.cs) (pkC 0 false x.m)
def vcM2 (x:Mrg):Prop :=
 ((false=false/\2=2/\contLe 2 7 (fun (k j:Nat)=>Ax.get [AV.y (.string x.a.rng.lo),AV.y (.string x.a.rng.hi),AV.y (.int .u64 x.a.epoch),AV.y (.int .u64 x.a.frozen),AV.ys true 5 x.a.recs.length (cellsOf' encR x.a.recs),AV.ys true 4 x.a.prods.length (cellsOf' P.encP x.a.prods),AV.ys true 2 x.a.cons.length (cellsOf' encC x.a.cons),AV.y (.string x.b.rng.lo),AV.y (.string x.b.rng.hi),AV.y (.int .u64 x.b.epoch),AV.y (.int .u64 x.b.frozen),AV.ys true 5 x.b.recs.length (cellsOf' encR x.b.recs),AV.ys true 4 x.b.prods.length (cellsOf' P.encP x.b.prods),AV.ys true 2 x.b.cons.length (cellsOf' encC x.b.cons)] ((0+k)*7+j)) fun (k j:Nat)=>Ax.get [AV.y (.string x.a.rng.lo),AV.y (.string x.a.rng.hi),AV.y (.int .u64 x.a.epoch),AV.y (.int .u64 x.a.frozen),AV.ys true 5 x.a.recs.length (cellsOf' encR x.a.recs),AV.ys true 4 x.a.prods.length (cellsOf' P.encP x.a.prods),AV.ys true 2 x.a.cons.length (cellsOf' encC x.a.cons),AV.y (.string x.b.rng.lo),AV.y (.string x.b.rng.hi),AV.y (.int .u64 x.b.epoch),AV.y (.int .u64 x.b.frozen),AV.ys true 5 x.b.recs.length (cellsOf' encR x.b.recs),AV.ys true 4 x.b.prods.length (cellsOf' P.encP x.b.prods),AV.ys true 2 x.b.cons.length (cellsOf' encC x.b.cons)] (k*7+j))/\True)/\True/\(PartTy x.a/\PartTy x.b/\bad x.a=false/\bad x.b=false/\live2 x.a x.b=true)/\true=true/\True/\(({ data:=#[]:ByteArray }=ByteArray.empty/\{ data:=#[]:ByteArray }=ByteArray.empty/\(0:Int)=0/\(0:Int)=0/\0=0/\0=0/\0=0/\True)/\(171:Int)=171/\True)/\True
theorem vcM2_eq (x:Mrg):(ctrVC Tryz.prog (mr2H x) 12 [.agg (encPt true x.a),.agg (encPt true x.b)] [] (mrE 171))=vcM2 x:=by kernel_rfl
noncomputable def mr3H (x:Mrg):HintsT Tryz.prog:=mrK (usC0 x.a x.b) (kmC1 x.a.rng x.b.rng) (joC0 true true x.a.recs x.b.recs x.out x.ta x.tb) (pbC0 true true false false x.a.prods x.b.prods x.ta x.tb x.ps) (cbC0 true true false false x.a.cons x.b.cons x.ta x.tb x.cs) (pkC 0 false x.m)
def vcM3 (x:Mrg):Prop :=
 ((false=false/\2=2/\contLe 2 7 (fun (k j:Nat)=>Ax.get [AV.y (.string x.a.rng.lo),AV.y (.string x.a.rng.hi),AV.y (.int .u64 x.a.epoch),AV.y (.int .u64 x.a.frozen),AV.ys true 5 x.a.recs.length (cellsOf' encR x.a.recs),AV.ys true 4 x.a.prods.length (cellsOf' P.encP x.a.prods),AV.ys true 2 x.a.cons.length (cellsOf' encC x.a.cons),AV.y (.string x.b.rng.lo),AV.y (.string x.b.rng.hi),AV.y (.int .u64 x.b.epoch),AV.y (.int .u64 x.b.frozen),AV.ys true 5 x.b.recs.length (cellsOf' encR x.b.recs),AV.ys true 4 x.b.prods.length (cellsOf' P.encP x.b.prods),AV.ys true 2 x.b.cons.length (cellsOf' encC x.b.cons)] ((0+k)*7+j)) fun (k j:Nat)=>Ax.get [AV.y (.string x.a.rng.lo),AV.y (.string x.a.rng.hi),AV.y (.int .u64 x.a.epoch),AV.y (.int .u64 x.a.frozen),AV.ys true 5 x.a.recs.length (cellsOf' encR x.a.recs),AV.ys true 4 x.a.prods.length (cellsOf' P.encP x.a.prods),AV.ys true 2 x.a.cons.length (cellsOf' encC x.a.cons),AV.y (.string x.b.rng.lo),AV.y (.string x.b.rng.hi),AV.y (.int .u64 x.b.epoch),AV.y (.int .u64 x.b.frozen),AV.ys true 5 x.b.recs.length (cellsOf' encR x.b.recs),AV.ys true 4 x.b.prods.length (cellsOf' P.encP x.b.prods),AV.ys true 2 x.b.cons.length (cellsOf' encC x.b.cons)] (k*7+j))/\True)/\True/\(PartTy x.a/\PartTy x.b/\bad x.a=false/\bad x.b=false/\live2 x.a x.b=false)/\true=true/\True/\((x.a.rng.lo=x.a.rng.lo/\x.a.rng.hi=x.a.rng.hi/\True)/\(x.b.rng.lo=x.b.rng.lo/\x.b.rng.hi=x.b.rng.hi/\True)/\True)/\True/\kmE x.a.rng x.b.rng=133/\(({ data:=#[]:ByteArray }=ByteArray.empty/\{ data:=#[]:ByteArray }=ByteArray.empty/\(0:Int)=0/\(0:Int)=0/\0=0/\0=0/\0=0/\True)/\(133:Int)=133/\True)/\True
theorem vcM3_eq (x:Mrg):(ctrVC Tryz.prog (mr3H x) 12 [.agg (encPt true x.a),.agg (encPt true x.b)] [] (mrE 133))=vcM3 x:=by kernel_rfl
noncomputable def mr4H (x:Mrg):HintsT Tryz.prog:=mrK (usC0 x.a x.b) (kmC0 x.a.rng x.b.rng) (joC1 143 true true x.a.recs x.b.recs) (pbC0 true true false false x.a.prods x.b.prods x.ta x.tb x.ps) (cbC0 true true false false x.a.cons x.b.cons x.ta x.tb x.cs) (pkC 0 false x.m)
def vcM4 (x:Mrg):Prop :=
 ((false=false/\2=2/\contLe 2 7 (fun (k j:Nat)=>Ax.get [AV.y (.string x.a.rng.lo),AV.y (.string x.a.rng.hi),AV.y (.int .u64 x.a.epoch),AV.y (.int .u64 x.a.frozen),AV.ys true 5 x.a.recs.length (cellsOf' encR x.a.recs),AV.ys true 4 x.a.prods.length (cellsOf' P.encP x.a.prods),AV.ys true 2 x.a.cons.length (cellsOf' encC x.a.cons),AV.y (.string x.b.rng.lo),AV.y (.string x.b.rng.hi),AV.y (.int .u64 x.b.epoch),AV.y (.int .u64 x.b.frozen),AV.ys true 5 x.b.recs.length (cellsOf' encR x.b.recs),AV.ys true 4 x.b.prods.length (cellsOf' P.encP x.b.prods),AV.ys true 2 x.b.cons.length (cellsOf' encC x.b.cons)] ((0+k)*7+j)) fun (k j:Nat)=>Ax.get [AV.y (.string x.a.rng.lo),AV.y (.string x.a.rng.hi),AV.y (.int .u64 x.a.epoch),AV.y (.int .u64 x.a.frozen),AV.ys true 5 x.a.recs.length (cellsOf' encR x.a.recs),AV.ys true 4 x.a.prods.length (cellsOf' P.encP x.a.prods),AV.ys true 2 x.a.cons.length (cellsOf' encC x.a.cons),AV.y (.string x.b.rng.lo),AV.y (.string x.b.rng.hi),AV.y (.int .u64 x.b.epoch),AV.y (.int .u64 x.b.frozen),AV.ys true 5 x.b.recs.length (cellsOf' encR x.b.recs),AV.ys true 4 x.b.prods.length (cellsOf' P.encP x.b.prods),AV.ys true 2 x.b.cons.length (cellsOf' encC x.b.cons)] (k*7+j))/\True)/\True/\(PartTy x.a/\PartTy x.b/\bad x.a=false/\bad x.b=false/\live2 x.a x.b=false)/\true=true/\True/\((x.a.rng.lo=x.a.rng.lo/\x.a.rng.hi=x.a.rng.hi/\True)/\(x.b.rng.lo=x.b.rng.lo/\x.b.rng.hi=x.b.rng.hi/\True)/\True)/\True/\kmE x.a.rng x.b.rng=0/\((true=true/\x.a.recs.length=x.a.recs.length/\contLe x.a.recs.length 5 (cellsOf' encR x.a.recs) (cellsOf' encR x.a.recs))/\(true=true/\x.b.recs.length=x.b.recs.length/\contLe x.b.recs.length 5 (cellsOf' encR x.b.recs) (cellsOf' encR x.b.recs))/\True)/\True/\(isLog x.a.recs=true/\isLog x.b.recs=true/\(4096<x.a.recs.length+x.b.recs.length/\(143:Int)=143∨x.a.recs.length+x.b.recs.length<=4096/\Jo.run (jo0 x.a.recs x.b.recs)=none/\(143:Int)=145))/\(({ data:=#[]:ByteArray }=ByteArray.empty/\{ data:=#[]:ByteArray }=ByteArray.empty/\(0:Int)=0/\(0:Int)=0/\0=0/\0=0/\0=0/\True)/\(143:Int)=143/\True)/\True
theorem vcM4_eq (x:Mrg):(ctrVC Tryz.prog (mr4H x) 12 [.agg (encPt true x.a),.agg (encPt true x.b)] [] (mrE 143))=vcM4 x:=by kernel_rfl
noncomputable def mr5H (x:Mrg):HintsT Tryz.prog:=mrK (usC0 x.a x.b) (kmC0 x.a.rng x.b.rng) (joC1 145 true true x.a.recs x.b.recs) (pbC0 true true false false x.a.prods x.b.prods x.ta x.tb x.ps) (cbC0 true true false false x.a.cons x.b.cons x.ta x.tb x.cs) (pkC 0 false x.m)
def vcM5 (x:Mrg):Prop :=
 ((false=false/\2=2/\contLe 2 7 (fun (k j:Nat)=>Ax.get [AV.y (.string x.a.rng.lo),AV.y (.string x.a.rng.hi),AV.y (.int .u64 x.a.epoch),AV.y (.int .u64 x.a.frozen),AV.ys true 5 x.a.recs.length (cellsOf' encR x.a.recs),AV.ys true 4 x.a.prods.length (cellsOf' P.encP x.a.prods),AV.ys true 2 x.a.cons.length (cellsOf' encC x.a.cons),AV.y (.string x.b.rng.lo),AV.y (.string x.b.rng.hi),AV.y (.int .u64 x.b.epoch),AV.y (.int .u64 x.b.frozen),AV.ys true 5 x.b.recs.length (cellsOf' encR x.b.recs),AV.ys true 4 x.b.prods.length (cellsOf' P.encP x.b.prods),AV.ys true 2 x.b.cons.length (cellsOf' encC x.b.cons)] ((0+k)*7+j)) fun (k j:Nat)=>Ax.get [AV.y (.string x.a.rng.lo),AV.y (.string x.a.rng.hi),AV.y (.int .u64 x.a.epoch),AV.y (.int .u64 x.a.frozen),AV.ys true 5 x.a.recs.length (cellsOf' encR x.a.recs),AV.ys true 4 x.a.prods.length (cellsOf' P.encP x.a.prods),AV.ys true 2 x.a.cons.length (cellsOf' encC x.a.cons),AV.y (.string x.b.rng.lo),AV.y (.string x.b.rng.hi),AV.y (.int .u64 x.b.epoch),AV.y (.int .u64 x.b.frozen),AV.ys true 5 x.b.recs.length (cellsOf' encR x.b.recs),AV.ys true 4 x.b.prods.length (cellsOf' P.encP x.b.prods),AV.ys true 2 x.b.cons.length (cellsOf' encC x.b.cons)] (k*7+j))/\True)/\True/\(PartTy x.a/\PartTy x.b/\bad x.a=false/\bad x.b=false/\live2 x.a x.b=false)/\true=true/\True/\((x.a.rng.lo=x.a.rng.lo/\x.a.rng.hi=x.a.rng.hi/\True)/\(x.b.rng.lo=x.b.rng.lo/\x.b.rng.hi=x.b.rng.hi/\True)/\True)/\True/\kmE x.a.rng x.b.rng=0/\((true=true/\x.a.recs.length=x.a.recs.length/\contLe x.a.recs.length 5 (cellsOf' encR x.a.recs) (cellsOf' encR x.a.recs))/\(true=true/\x.b.recs.length=x.b.recs.length/\contLe x.b.recs.length 5 (cellsOf' encR x.b.recs) (cellsOf' encR x.b.recs))/\True)/\True/\(isLog x.a.recs=true/\isLog x.b.recs=true/\(4096<x.a.recs.length+x.b.recs.length/\(145:Int)=143∨x.a.recs.length+x.b.recs.length<=4096/\Jo.run (jo0 x.a.recs x.b.recs)=none/\(145:Int)=145))/\(({ data:=#[]:ByteArray }=ByteArray.empty/\{ data:=#[]:ByteArray }=ByteArray.empty/\(0:Int)=0/\(0:Int)=0/\0=0/\0=0/\0=0/\True)/\(145:Int)=145/\True)/\True
theorem vcM5_eq (x:Mrg):(ctrVC Tryz.prog (mr5H x) 12 [.agg (encPt true x.a),.agg (encPt true x.b)] [] (mrE 145))=vcM5 x:=by kernel_rfl
noncomputable def mr6H (x:Mrg):HintsT Tryz.prog:=mrK (usC0 x.a x.b) (kmC0 x.a.rng x.b.rng) (joC0 true true x.a.recs x.b.recs x.out x.ta x.tb) (pbC1 true true false false x.a.prods x.b.prods x.ta x.tb) (cbC0 true true false false x.a.cons x.b.cons x.ta x.tb x.cs) (pkC 0 false x.m)
def vcM6 (x:Mrg):Prop :=
 ((false=false/\2=2/\contLe 2 7 (fun (k j:Nat)=>Ax.get [AV.y (.string x.a.rng.lo),AV.y (.string x.a.rng.hi),AV.y (.int .u64 x.a.epoch),AV.y (.int .u64 x.a.frozen),AV.ys true 5 x.a.recs.length (cellsOf' encR x.a.recs),AV.ys true 4 x.a.prods.length (cellsOf' P.encP x.a.prods),AV.ys true 2 x.a.cons.length (cellsOf' encC x.a.cons),AV.y (.string x.b.rng.lo),AV.y (.string x.b.rng.hi),AV.y (.int .u64 x.b.epoch),AV.y (.int .u64 x.b.frozen),AV.ys true 5 x.b.recs.length (cellsOf' encR x.b.recs),AV.ys true 4 x.b.prods.length (cellsOf' P.encP x.b.prods),AV.ys true 2 x.b.cons.length (cellsOf' encC x.b.cons)] ((0+k)*7+j)) fun (k j:Nat)=>Ax.get [AV.y (.string x.a.rng.lo),AV.y (.string x.a.rng.hi),AV.y (.int .u64 x.a.epoch),AV.y (.int .u64 x.a.frozen),AV.ys true 5 x.a.recs.length (cellsOf' encR x.a.recs),AV.ys true 4 x.a.prods.length (cellsOf' P.encP x.a.prods),AV.ys true 2 x.a.cons.length (cellsOf' encC x.a.cons),AV.y (.string x.b.rng.lo),AV.y (.string x.b.rng.hi),AV.y (.int .u64 x.b.epoch),AV.y (.int .u64 x.b.frozen),AV.ys true 5 x.b.recs.length (cellsOf' encR x.b.recs),AV.ys true 4 x.b.prods.length (cellsOf' P.encP x.b.prods),AV.ys true 2 x.b.cons.length (cellsOf' encC x.b.cons)] (k*7+j))/\True)/\True/\(PartTy x.a/\PartTy x.b/\bad x.a=false/\bad x.b=false/\live2 x.a x.b=false)/\true=true/\True/\((x.a.rng.lo=x.a.rng.lo/\x.a.rng.hi=x.a.rng.hi/\True)/\(x.b.rng.lo=x.b.rng.lo/\x.b.rng.hi=x.b.rng.hi/\True)/\True)/\True/\kmE x.a.rng x.b.rng=0/\((true=true/\x.a.recs.length=x.a.recs.length/\contLe x.a.recs.length 5 (cellsOf' encR x.a.recs) (cellsOf' encR x.a.recs))/\(true=true/\x.b.recs.length=x.b.recs.length/\contLe x.b.recs.length 5 (cellsOf' encR x.b.recs) (cellsOf' encR x.b.recs))/\True)/\True/\JoinOk x.a.recs x.b.recs x.out x.ta x.tb/\((true=true/\x.a.prods.length=x.a.prods.length/\contLe x.a.prods.length 4 (cellsOf' P.encP x.a.prods) (cellsOf' P.encP x.a.prods))/\(true=true/\x.b.prods.length=x.b.prods.length/\contLe x.b.prods.length 4 (cellsOf' P.encP x.b.prods) (cellsOf' P.encP x.b.prods))/\(false=false/\x.ta.length=x.ta.length/\contLe x.ta.length 1 (Ax.rowAt 0 (cellsOf' encU x.ta)) (cellsOf' encU x.ta))/\(false=false/\x.tb.length=x.tb.length/\contLe x.tb.length 1 (Ax.rowAt 0 (cellsOf' encU x.tb)) (cellsOf' encU x.tb))/\True)/\True/\(PbIn x.a.prods x.b.prods x.ta x.tb/\P.bothE x.a.prods x.b.prods x.ta x.tb=153)/\true=true/\True/\(({ data:=#[]:ByteArray }=ByteArray.empty/\{ data:=#[]:ByteArray }=ByteArray.empty/\(0:Int)=0/\(0:Int)=0/\0=0/\0=0/\0=0/\True)/\(153:Int)=153/\True)/\True
theorem vcM6_eq (x:Mrg):(ctrVC Tryz.prog (mr6H x) 12 [.agg (encPt true x.a),.agg (encPt true x.b)] [] (mrE 153))=vcM6 x:=by kernel_rfl
noncomputable def mr7H (x:Mrg):HintsT Tryz.prog:=mrK (usC0 x.a x.b) (kmC0 x.a.rng x.b.rng) (joC0 true true x.a.recs x.b.recs x.out x.ta x.tb) (pbC0 true true false false x.a.prods x.b.prods x.ta x.tb x.ps) (cbC1 true true false false x.a.cons x.b.cons x.ta x.tb) (pkC 0 false x.m)
def vcM7 (x:Mrg):Prop :=
 ((false=false/\2=2/\contLe 2 7 (fun (k j:Nat)=>Ax.get [AV.y (.string x.a.rng.lo),AV.y (.string x.a.rng.hi),AV.y (.int .u64 x.a.epoch),AV.y (.int .u64 x.a.frozen),AV.ys true 5 x.a.recs.length (cellsOf' encR x.a.recs),AV.ys true 4 x.a.prods.length (cellsOf' P.encP x.a.prods),AV.ys true 2 x.a.cons.length (cellsOf' encC x.a.cons),AV.y (.string x.b.rng.lo),AV.y (.string x.b.rng.hi),AV.y (.int .u64 x.b.epoch),AV.y (.int .u64 x.b.frozen),AV.ys true 5 x.b.recs.length (cellsOf' encR x.b.recs),AV.ys true 4 x.b.prods.length (cellsOf' P.encP x.b.prods),AV.ys true 2 x.b.cons.length (cellsOf' encC x.b.cons)] ((0+k)*7+j)) fun (k j:Nat)=>Ax.get [AV.y (.string x.a.rng.lo),AV.y (.string x.a.rng.hi),AV.y (.int .u64 x.a.epoch),AV.y (.int .u64 x.a.frozen),AV.ys true 5 x.a.recs.length (cellsOf' encR x.a.recs),AV.ys true 4 x.a.prods.length (cellsOf' P.encP x.a.prods),AV.ys true 2 x.a.cons.length (cellsOf' encC x.a.cons),AV.y (.string x.b.rng.lo),AV.y (.string x.b.rng.hi),AV.y (.int .u64 x.b.epoch),AV.y (.int .u64 x.b.frozen),AV.ys true 5 x.b.recs.length (cellsOf' encR x.b.recs),AV.ys true 4 x.b.prods.length (cellsOf' P.encP x.b.prods),AV.ys true 2 x.b.cons.length (cellsOf' encC x.b.cons)] (k*7+j))/\True)/\True/\(PartTy x.a/\PartTy x.b/\bad x.a=false/\bad x.b=false/\live2 x.a x.b=false)/\true=true/\True/\((x.a.rng.lo=x.a.rng.lo/\x.a.rng.hi=x.a.rng.hi/\True)/\(x.b.rng.lo=x.b.rng.lo/\x.b.rng.hi=x.b.rng.hi/\True)/\True)/\True/\kmE x.a.rng x.b.rng=0/\((true=true/\x.a.recs.length=x.a.recs.length/\contLe x.a.recs.length 5 (cellsOf' encR x.a.recs) (cellsOf' encR x.a.recs))/\(true=true/\x.b.recs.length=x.b.recs.length/\contLe x.b.recs.length 5 (cellsOf' encR x.b.recs) (cellsOf' encR x.b.recs))/\True)/\True/\JoinOk x.a.recs x.b.recs x.out x.ta x.tb/\((true=true/\x.a.prods.length=x.a.prods.length/\contLe x.a.prods.length 4 (cellsOf' P.encP x.a.prods) (cellsOf' P.encP x.a.prods))/\(true=true/\x.b.prods.length=x.b.prods.length/\contLe x.b.prods.length 4 (cellsOf' P.encP x.b.prods) (cellsOf' P.encP x.b.prods))/\(false=false/\x.ta.length=x.ta.length/\contLe x.ta.length 1 (Ax.rowAt 0 (cellsOf' encU x.ta)) (cellsOf' encU x.ta))/\(false=false/\x.tb.length=x.tb.length/\contLe x.tb.length 1 (Ax.rowAt 0 (cellsOf' encU x.tb)) (cellsOf' encU x.tb))/\True)/\True/\(PbIn x.a.prods x.b.prods x.ta x.tb/\P.bothE x.a.prods x.b.prods x.ta x.tb=0/\x.ps=P.bothL x.a.prods x.b.prods x.ta x.tb)/\true=true/\((∀ k,k<x.ps.length->∀ j,j<4->tagT (cellsOf' P.encP x.ps k j)=true)/\True)/\((true=true/\x.a.cons.length=x.a.cons.length/\contLe x.a.cons.length 2 (cellsOf' encC x.a.cons) (cellsOf' encC x.a.cons))/\(true=true/\x.b.cons.length=x.b.cons.length/\contLe x.b.cons.length 2 (cellsOf' encC x.b.cons) (cellsOf' encC x.b.cons))/\(false=false/\x.ta.length=x.ta.length/\contLe x.ta.length 1 (Ax.rowAt 0 (cellsOf' encU x.ta)) (cellsOf' encU x.ta))/\(false=false/\x.tb.length=x.tb.length/\contLe x.tb.length 1 (Ax.rowAt 0 (cellsOf' encU x.tb)) (cellsOf' encU x.tb))/\True)/\True/\(CbIn x.a.cons x.b.cons x.ta x.tb/\bothE x.a.cons x.b.cons x.ta x.tb=143)/\true=true/\True/\(({ data:=#[]:ByteArray }=ByteArray.empty/\{ data:=#[]:ByteArray }=ByteArray.empty/\(0:Int)=0/\(0:Int)=0/\0=0/\0=0/\0=0/\True)/\(143:Int)=143/\True)/\True
theorem vcM7_eq (x:Mrg):(ctrVC Tryz.prog (mr7H x) 12 [.agg (encPt true x.a),.agg (encPt true x.b)] [] (mrE 143))=vcM7 x:=by kernel_rfl
noncomputable def mr8H (x:Mrg):HintsT Tryz.prog:=mrK (usC0 x.a x.b) (kmC0 x.a.rng x.b.rng) (joC0 true true x.a.recs x.b.recs x.out x.ta x.tb) (pbC0 true true false false x.a.prods x.b.prods x.ta x.tb x.ps) (cbC0 true true false false x.a.cons x.b.cons x.ta x.tb x.cs) (pkC 165 false x.m)
def vcM8 (x:Mrg):Prop :=
 ((false=false/\2=2/\contLe 2 7 (fun (k j:Nat)=>Ax.get [AV.y (.string x.a.rng.lo),AV.y (.string x.a.rng.hi),AV.y (.int .u64 x.a.epoch),AV.y (.int .u64 x.a.frozen),AV.ys true 5 x.a.recs.length (cellsOf' encR x.a.recs),AV.ys true 4 x.a.prods.length (cellsOf' P.encP x.a.prods),AV.ys true 2 x.a.cons.length (cellsOf' encC x.a.cons),AV.y (.string x.b.rng.lo),AV.y (.string x.b.rng.hi),AV.y (.int .u64 x.b.epoch),AV.y (.int .u64 x.b.frozen),AV.ys true 5 x.b.recs.length (cellsOf' encR x.b.recs),AV.ys true 4 x.b.prods.length (cellsOf' P.encP x.b.prods),AV.ys true 2 x.b.cons.length (cellsOf' encC x.b.cons)] ((0+k)*7+j)) fun (k j:Nat)=>Ax.get [AV.y (.string x.a.rng.lo),AV.y (.string x.a.rng.hi),AV.y (.int .u64 x.a.epoch),AV.y (.int .u64 x.a.frozen),AV.ys true 5 x.a.recs.length (cellsOf' encR x.a.recs),AV.ys true 4 x.a.prods.length (cellsOf' P.encP x.a.prods),AV.ys true 2 x.a.cons.length (cellsOf' encC x.a.cons),AV.y (.string x.b.rng.lo),AV.y (.string x.b.rng.hi),AV.y (.int .u64 x.b.epoch),AV.y (.int .u64 x.b.frozen),AV.ys true 5 x.b.recs.length (cellsOf' encR x.b.recs),AV.ys true 4 x.b.prods.length (cellsOf' P.encP x.b.prods),AV.ys true 2 x.b.cons.length (cellsOf' encC x.b.cons)] (k*7+j))/\True)/\True/\(PartTy x.a/\PartTy x.b/\bad x.a=false/\bad x.b=false/\live2 x.a x.b=false)/\true=true/\True/\((x.a.rng.lo=x.a.rng.lo/\x.a.rng.hi=x.a.rng.hi/\True)/\(x.b.rng.lo=x.b.rng.lo/\x.b.rng.hi=x.b.rng.hi/\True)/\True)/\True/\kmE x.a.rng x.b.rng=0/\((true=true/\x.a.recs.length=x.a.recs.length/\contLe x.a.recs.length 5 (cellsOf' encR x.a.recs) (cellsOf' encR x.a.recs))/\(true=true/\x.b.recs.length=x.b.recs.length/\contLe x.b.recs.length 5 (cellsOf' encR x.b.recs) (cellsOf' encR x.b.recs))/\True)/\True/\JoinOk x.a.recs x.b.recs x.out x.ta x.tb/\((true=true/\x.a.prods.length=x.a.prods.length/\contLe x.a.prods.length 4 (cellsOf' P.encP x.a.prods) (cellsOf' P.encP x.a.prods))/\(true=true/\x.b.prods.length=x.b.prods.length/\contLe x.b.prods.length 4 (cellsOf' P.encP x.b.prods) (cellsOf' P.encP x.b.prods))/\(false=false/\x.ta.length=x.ta.length/\contLe x.ta.length 1 (Ax.rowAt 0 (cellsOf' encU x.ta)) (cellsOf' encU x.ta))/\(false=false/\x.tb.length=x.tb.length/\contLe x.tb.length 1 (Ax.rowAt 0 (cellsOf' encU x.tb)) (cellsOf' encU x.tb))/\True)/\True/\(PbIn x.a.prods x.b.prods x.ta x.tb/\P.bothE x.a.prods x.b.prods x.ta x.tb=0/\x.ps=P.bothL x.a.prods x.b.prods x.ta x.tb)/\true=true/\((∀ k,k<x.ps.length->∀ j,j<4->tagT (cellsOf' P.encP x.ps k j)=true)/\True)/\((true=true/\x.a.cons.length=x.a.cons.length/\contLe x.a.cons.length 2 (cellsOf' encC x.a.cons) (cellsOf' encC x.a.cons))/\(true=true/\x.b.cons.length=x.b.cons.length/\contLe x.b.cons.length 2 (cellsOf' encC x.b.cons) (cellsOf' encC x.b.cons))/\(false=false/\x.ta.length=x.ta.length/\contLe x.ta.length 1 (Ax.rowAt 0 (cellsOf' encU x.ta)) (cellsOf' encU x.ta))/\(false=false/\x.tb.length=x.tb.length/\contLe x.tb.length 1 (Ax.rowAt 0 (cellsOf' encU x.tb)) (cellsOf' encU x.tb))/\True)/\True/\(CbIn x.a.cons x.b.cons x.ta x.tb/\bothE x.a.cons x.b.cons x.ta x.tb=0/\x.cs=conB x.a.cons x.b.cons x.ta x.tb)/\true=true/\((∀ k,k<x.cs.length->∀ j,j<2->tagT (cellsOf' encC x.cs k j)=true)/\True)/\((x.a.rng.lo=x.a.rng.lo/\x.b.rng.hi=x.b.rng.hi/\IntKind.u64.wrap ((if x.b.epoch > x.a.epoch then x.b.epoch else x.a.epoch)+1)=Mrg.ep x/\(0:Int)=0/\(false=false/\x.out.length=x.out.length/\contLe x.out.length 5 (Ax.rowAt 0 (cellsOf' encR x.out)) (cellsOf' encR x.out))/\(false=false/\x.ps.length=x.ps.length/\contLe x.ps.length 4 (Ax.rowAt 0 (cellsOf' P.encP x.ps)) (cellsOf' P.encP x.ps))/\(false=false/\x.cs.length=x.cs.length/\contLe x.cs.length 2 (Ax.rowAt 0 (cellsOf' encC x.cs)) (cellsOf' encC x.cs))/\True)/\True)/\True/\(PartIn (Mrg.m x)/\(partOk (Mrg.m x)=true/\(165:Int)=0∨partOk (Mrg.m x)=false/\(165:Int)=165))/\true=true/\True/\(({ data:=#[]:ByteArray }=ByteArray.empty/\{ data:=#[]:ByteArray }=ByteArray.empty/\(0:Int)=0/\(0:Int)=0/\0=0/\0=0/\0=0/\True)/\(172:Int)=172/\True)/\True
theorem vcM8_eq (x:Mrg):(ctrVC Tryz.prog (mr8H x) 12 [.agg (encPt true x.a),.agg (encPt true x.b)] [] (mrE 172))=vcM8 x:=by kernel_rfl
structure MrgIn (x:Mrg):Prop where
 ta:PartTy x.a
 tb:PartTy x.b
 ba:bad x.a=false
 bb:bad x.b=false
 lv:live2 x.a x.b=false
end Go.Proofs.YtckklclehofddaaGreatDoor.D
