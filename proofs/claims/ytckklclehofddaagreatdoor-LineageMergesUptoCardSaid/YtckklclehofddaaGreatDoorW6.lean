import Derived.Test.YtckklclehofddaaGreatDoorW2
import Derived.Test.YtckklclehofddaaGreatDoorW5
set_option linter.unusedVariables false
set_option linter.unusedSimpArgs false
set_option linter.unusedSectionVars false
namespace Go.Proofs.YtckklclehofddaaGreatDoor
open Go.Ax
set_option maxRecDepth 1000000
def lostB (p:Part) (x:P.Producer):Bool:=x.here&&(decide ((p.recs.length:Int)<=x.offset)||((p.recs.getD x.offset.toNat default).prod != x.id||(p.recs.getD x.offset.toNat default).seq != x.seq))
def lostE (b:Bool) (p:Part):List AV:=[.ip false 1 (get [.y (.int .u64 (IntKind.u64.wrap p.recs.length))]),.ip false 7 (get (encPt b p))]
def vcLost (b:Bool) (p:Part) (x:P.Producer):Prop :=
 (x.here=true->(decide (IntKind.u64.wrap (p.recs.length:Int)<=x.offset)=true->true=lostB p x/\True)/\(decide (IntKind.u64.wrap (p.recs.length:Int)<=x.offset)=false->(decide (0<=x.offset)&&decide (x.offset<(p.recs.length:Int)))=true/\(((p.recs.getD (Int.toNat x.offset) default).prod != x.id)=true->true=lostB p x/\True)/\(((p.recs.getD (Int.toNat x.offset) default).prod != x.id)=false->(decide (0<=x.offset)&&decide (x.offset<(p.recs.length:Int)))=true/\((p.recs.getD (Int.toNat x.offset) default).seq != x.seq)=lostB p x/\True)))/\(x.here=false->false=lostB p x/\True)
theorem vcLost_eq (b:Bool) (p:Part) (x:P.Producer):(ctrVC Tryz.prog (hT _) 39 ([.agg (P.encP x)]++lostE b p) [] (boolR (lostB p x)))=vcLost b p x:=by kernel_rfl
def aheadB (n:Nat) (x:Con):Bool:=decide ((n:Int)<x.off)
def aheadE (n:Nat):List AV:=[.ip false 1 (get [.y (.int .u64 (IntKind.u64.wrap n))])]
def vcAhead (n:Nat) (x:Con):Prop :=
 decide (IntKind.u64.wrap (n:Int)<x.off)=aheadB n x/\True
theorem vcAhead_eq (n:Nat) (x:Con):(ctrVC Tryz.prog (hT _) 40 ([.agg (encC x)]++aheadE n) [] (boolR (aheadB n x)))=vcAhead n x:=by kernel_rfl
theorem lost_c (b:Bool) (p:Part) (x:P.Producer) (h1:p.recs.length<=9223372036854775806) (h2:0<=x.offset):(boolR (lostB p x)).Sat (ACall' Tryz.prog 39 ([.agg (P.encP x)]++lostE b p) []):=by
 refine ctr_vc (ht:=hT _) Tryz.mixed rfl ?_
 rw [vcLost_eq b p x]
 unfold vcLost
 have hw:IntKind.u64.wrap (p.recs.length:Int)=p.recs.length:=wrap_u64 (by omega) (by omega)
 simp only [hw]
 unfold lostB
 generalize p.recs.getD x.offset.toNat default=y
 cases hh:x.here
 · simp
 · by_cases h3:(p.recs.length:Int)<=x.offset
   · simp [h3]
   · have h4:x.offset<p.recs.length:=by omega
     by_cases h5:y.prod=x.id<;>by_cases h6:y.seq=x.seq<;>simp [h3,h4,h2,h5,h6]
theorem ahead_c (n:Nat) (x:Con) (h1:n<=9223372036854775806):(boolR (aheadB n x)).Sat (ACall' Tryz.prog 40 ([.agg (encC x)]++aheadE n) []):=by
 refine ctr_vc (ht:=hT _) Tryz.mixed rfl ?_
 rw [vcAhead_eq n x]
 unfold vcAhead
 have hw:IntKind.u64.wrap (n:Int)=n:=wrap_u64 (by omega) (by omega)
 simp [hw,aheadB]
def loFn (b:Bool) (p:Part):AV:=.fn (.func 39) [] (lostE b p)
def loAny (b:Bool) (p:Part) (l:List P.Producer):Bool:=l.any (lostB p)
theorem loAny_nil (b:Bool) (p:Part):loAny b p []=false:=rfl
theorem loAny_cons (b:Bool) (p:Part) (y:P.Producer) (l:List P.Producer):loAny b p (y::l)=(lostB p y||loAny b p l):=rfl
noncomputable def loC (b:Bool) (p:Part) (x:P.Producer):Ctr Tryz.prog:=⟨39,[.agg (P.encP x)]++(lostE b p),[],.need (p.recs.length<=9223372036854775806/\0<=x.offset) (boolR (lostB p x)),T.Sat.need fun h=>lost_c b p x h.1 h.2⟩
def loT (b:Bool) (p:Part) (bb:Bool) (l:List P.Producer) (k:Nat):List AV:=mkT 19 [(0,.ys bb 4 l.length (cellsOf' P.encP l)),(1,loFn b p),(4,.s (.int .i64 0)),(7,.y (.int .i64 l.length)),(8,.y (.int .i64 k))]
def loS (r:Bool×Nat):Exit×List AV×List Blk:=match r.1 with
 | true=>(.ret,mkT 19 [(4,.y (.int .i64 r.2))],[])
 | false=>(.exit 0,mkT 19 [],[])
def loO (b:Bool) (p:Part) (l:List P.Producer) (k:Nat):T (Bool×Nat):=.ite (loAny b p (l.drop k)) (.ret (true,k+(l.drop k).findIdx (lostB p))) (.ret (false,0))
noncomputable def loHL (b:Bool) (p:Part) (l:List P.Producer) (k:Nat):HintsT Tryz.prog:=hh _ noLp (cs1 79 4 5 (loC b p (l.getD k default)) noCs) noOp
def vcloL (b:Bool) (p:Part) (bb:Bool) (l:List P.Producer) (k:Nat):Prop :=
 (decide ((↑k:Int)<(↑(List.length l):Int))=true->(true&&decide ((↑k:Int)<(↑(List.length l):Int)))=true/\(((List.getD l (Int.toNat (↑k:Int)) (@default P.Producer P.instInhabitedProducer)).id=(List.getD l k (@default P.Producer P.instInhabitedProducer)).id/\(List.getD l (Int.toNat (↑k:Int)) (@default P.Producer P.instInhabitedProducer)).seq=(List.getD l k (@default P.Producer P.instInhabitedProducer)).seq/\(List.getD l (Int.toNat (↑k:Int)) (@default P.Producer P.instInhabitedProducer)).here=(List.getD l k (@default P.Producer P.instInhabitedProducer)).here/\(List.getD l (Int.toNat (↑k:Int)) (@default P.Producer P.instInhabitedProducer)).offset=(List.getD l k (@default P.Producer P.instInhabitedProducer)).offset/\True)/\(false=false/\(1:Nat)<=(1:Nat)/\cellLe (1:Nat) (Ax.get [AV.y (Value.int IntKind.u64 (IntKind.wrap IntKind.u64 (↑(List.length p.recs):Int)))]) (Ax.get [AV.y (Value.int IntKind.u64 (IntKind.wrap IntKind.u64 (↑(List.length p.recs):Int)))]))/\(false=false/\(7:Nat)<=(7:Nat)/\cellLe (7:Nat) (Ax.get [AV.y (Value.string p.rng.lo),AV.y (Value.string p.rng.hi),AV.y (Value.int IntKind.u64 p.epoch),AV.y (Value.int IntKind.u64 p.frozen),AV.ys b (5:Nat) (List.length p.recs) (cellsOf' encR p.recs),AV.ys b (4:Nat) (List.length p.prods) (cellsOf' P.encP p.prods),AV.ys b (2:Nat) (List.length p.cons) (cellsOf' encC p.cons)]) (Ax.get [AV.y (Value.string p.rng.lo),AV.y (Value.string p.rng.hi),AV.y (Value.int IntKind.u64 p.epoch),AV.y (Value.int IntKind.u64 p.frozen),AV.ys b (5:Nat) (List.length p.recs) (cellsOf' encR p.recs),AV.ys b (4:Nat) (List.length p.prods) (cellsOf' P.encP p.prods),AV.ys b (2:Nat) (List.length p.cons) (cellsOf' encC p.cons)]))/\True)/\True/\(List.length p.recs<=(9223372036854775806:Nat)/\(0:Int)<=(List.getD l k (@default P.Producer P.instInhabitedProducer)).offset)/\(lostB p (List.getD l k (@default P.Producer P.instInhabitedProducer))=true->(loAny b p (List.drop k l)=true->((↑k:Int)=(↑(k+List.findIdx (lostB p) (List.drop k l)):Int)/\True)/\True/\true=true)/\(loAny b p (List.drop k l)=false->False))/\(lostB p (List.getD l k (@default P.Producer P.instInhabitedProducer))=false->∃ (j:Nat),List.length l - j<List.length l - k/\(((bb=bb/\List.length l=List.length l/\contLe (List.length l) (4:Nat) (cellsOf' P.encP l) (cellsOf' P.encP l))/\(True/\(false=false/\(1:Nat)<=(1:Nat)/\cellLe (1:Nat) (Ax.get [AV.y (Value.int IntKind.u64 (IntKind.wrap IntKind.u64 (↑(List.length p.recs):Int)))]) (Ax.get [AV.y (Value.int IntKind.u64 (IntKind.wrap IntKind.u64 (↑(List.length p.recs):Int)))]))/\(false=false/\(7:Nat)<=(7:Nat)/\cellLe (7:Nat) (Ax.get [AV.y (Value.string p.rng.lo),AV.y (Value.string p.rng.hi),AV.y (Value.int IntKind.u64 p.epoch),AV.y (Value.int IntKind.u64 p.frozen),AV.ys b (5:Nat) (List.length p.recs) (cellsOf' encR p.recs),AV.ys b (4:Nat) (List.length p.prods) (cellsOf' P.encP p.prods),AV.ys b (2:Nat) (List.length p.cons) (cellsOf' encC p.cons)]) (Ax.get [AV.y (Value.string p.rng.lo),AV.y (Value.string p.rng.hi),AV.y (Value.int IntKind.u64 p.epoch),AV.y (Value.int IntKind.u64 p.frozen),AV.ys b (5:Nat) (List.length p.recs) (cellsOf' encR p.recs),AV.ys b (4:Nat) (List.length p.prods) (cellsOf' P.encP p.prods),AV.ys b (2:Nat) (List.length p.cons) (cellsOf' encC p.cons)]))/\True)/\(0:Int)=(0:Int)/\(↑(List.length l):Int)=(↑(List.length l):Int)/\IntKind.wrap IntKind.i64 ((↑k:Int)+(1:Int))=(↑j:Int)/\True)/\True/\true=true)/\true=true/\(loAny b p (List.drop j l)=true->(loAny b p (List.drop k l)=true->(true,j+List.findIdx (lostB p) (List.drop j l))=(true,k+List.findIdx (lostB p) (List.drop k l)))/\(loAny b p (List.drop k l)=false->(true,j+List.findIdx (lostB p) (List.drop j l))=(false,(0:Nat))))/\(loAny b p (List.drop j l)=false->(loAny b p (List.drop k l)=true->(false,(0:Nat))=(true,k+List.findIdx (lostB p) (List.drop k l)))/\(loAny b p (List.drop k l)=false->(false,(0:Nat))=(false,(0:Nat))))))/\(decide ((↑k:Int)<(↑(List.length l):Int))=false->(loAny b p (List.drop k l)=true->False)/\(loAny b p (List.drop k l)=false->True/\True/\true=true))
theorem vcloL_eq (b:Bool) (p:Part) (bb:Bool) (l:List P.Producer) (k:Nat):(loopVC Tryz.prog (loHL b p l k) 79 2 (fun k=>l.length - k) (loT b p bb l) (fun _=>[]) [0] (loO b p l) loS k)=vcloL b p bb l k:=by kernel_rfl
theorem lo_loop (b:Bool) (p:Part) (bb:Bool) (l:List P.Producer) (hl:l.length<=9223372036854775806) (hn:∀ k,k<l.length->(p.recs.length<=9223372036854775806/\0<=(l.getD k default).offset)) (k:Nat):LoopOk Tryz.prog 79 2 (loopAt Tryz.prog 79 2) ⟨loT b p bb l k,[],[]⟩ ((loO b p l k).map (lout [0] loS)):=by
 refine loop_vcH (ht:=fun k=>loHL b p l k) Tryz.mixed (fun _=>rfl) (fun k=>(vcloL_eq b p bb l k).mpr ?_) k
 unfold vcloL
 by_cases h:k<l.length
 · have hw:IntKind.i64.wrap ((k:Int)+1)=((k+1:Nat):Int):=by rw [wrap_i64 (by omega) (by omega)];omega
   have hz:decide ((k:Int)<l.length)=true:=by simp;omega
   have hd:l.drop k=l.getD k default::l.drop (k+1):=by rw [drop_cons h];simp
   have hk:=hn k h
   rw [Int.toNat_natCast]
   simp only [hz,hd,loAny_cons,List.findIdx_cons]
   generalize l.getD k default=y at *
   cases hp:lostB p y
   · simp [hw,hk]
     exact ⟨k+1,by omega,by omega,by grind⟩
   · simp [hk]
 · have hz:decide ((k:Int)<l.length)=false:=by simp;omega
   simp only [hz,drop_end (Nat.le_of_not_lt h),loAny_nil]
   simp
noncomputable def loH (b:Bool) (p:Part) (bb:Bool) (l:List P.Producer):HintsT Tryz.prog:=hh _ (lp1 79 2 (jobOf (loT b p bb l) (fun _=>[]) [0] (loO b p l) loS 0) noLp) noCs noOp
def vcloF (b:Bool) (p:Part) (bb:Bool) (l:List P.Producer):Prop :=
 (((bb=bb/\l.length=l.length/\contLe l.length 4 (cellsOf' P.encP l) (cellsOf' P.encP l))/\(True/\(false=false/\1<=1/\cellLe 1 (Ax.get [AV.y (.int .u64 (IntKind.u64.wrap (p.recs.length:Int)))]) (Ax.get [AV.y (.int .u64 (IntKind.u64.wrap (p.recs.length:Int)))]))/\(false=false/\7<=7/\cellLe 7 (Ax.get [AV.y (.string p.rng.lo),AV.y (.string p.rng.hi),AV.y (.int .u64 p.epoch),AV.y (.int .u64 p.frozen),AV.ys b 5 p.recs.length (cellsOf' encR p.recs),AV.ys b 4 p.prods.length (cellsOf' P.encP p.prods),AV.ys b 2 p.cons.length (cellsOf' encC p.cons)]) (Ax.get [AV.y (.string p.rng.lo),AV.y (.string p.rng.hi),AV.y (.int .u64 p.epoch),AV.y (.int .u64 p.frozen),AV.ys b 5 p.recs.length (cellsOf' encR p.recs),AV.ys b 4 p.prods.length (cellsOf' P.encP p.prods),AV.ys b 2 p.cons.length (cellsOf' encC p.cons)]))/\True)/\(0:Int)=0/\(l.length:Int)=(l.length:Int)/\(0:Int)=0/\True)/\True/\true=true)/\LoopOk Tryz.prog 79 2 (loopAt Tryz.prog 79 2) { t:=loT b p bb l 0,m:=[],mv:=[]:St } (T.map (lout [0] loS) (loO b p l 0))/\(loAny b p (List.drop 0 l)=true->true=loAny b p l/\True)/\(loAny b p (List.drop 0 l)=false->false=loAny b p l/\True)
theorem vcloF_eq (b:Bool) (p:Part) (bb:Bool) (l:List P.Producer):(ctrVC Tryz.prog (loH b p bb l) 46 [.ys bb 4 l.length (cellsOf' P.encP l),loFn b p] [] (boolR (loAny b p l)))=vcloF b p bb l:=by kernel_rfl
theorem lo_has (b:Bool) (p:Part) (bb:Bool) (l:List P.Producer) (hl:l.length<=9223372036854775806) (hn:∀ k,k<l.length->(p.recs.length<=9223372036854775806/\0<=(l.getD k default).offset)):(boolR (loAny b p l)).Sat (ACall' Tryz.prog 46 [.ys bb 4 l.length (cellsOf' P.encP l),loFn b p] []):=by
 refine ctr_vc (ht:=loH b p bb l) Tryz.mixed rfl ?_
 rw [vcloF_eq b p bb l]
 unfold vcloF
 have:=lo_loop b p bb l hl hn 0
 simp [this]
noncomputable def loHas (b:Bool) (p:Part) (bb:Bool) (l:List P.Producer):Ctr Tryz.prog:=⟨46,[.ys bb 4 l.length (cellsOf' P.encP l),loFn b p],[],.need (l.length<=9223372036854775806/\∀ k,k<l.length->(p.recs.length<=9223372036854775806/\0<=(l.getD k default).offset)) (boolR (loAny b p l)),T.Sat.need fun h=>lo_has b p bb l h.1 h.2⟩
def ahFn (m:Nat):AV:=.fn (.func 40) [] (aheadE m)
def ahAny (m:Nat) (l:List Con):Bool:=l.any (aheadB m)
theorem ahAny_nil (m:Nat):ahAny m []=false:=rfl
theorem ahAny_cons (m:Nat) (y:Con) (l:List Con):ahAny m (y::l)=(aheadB m y||ahAny m l):=rfl
noncomputable def ahC (m:Nat) (x:Con):Ctr Tryz.prog:=⟨40,[.agg (encC x)]++(aheadE m),[],.need (m<=9223372036854775806) (boolR (aheadB m x)),T.Sat.need fun h=>ahead_c m x h⟩
def ahT (m:Nat) (bb:Bool) (l:List Con) (k:Nat):List AV:=mkT 19 [(0,.ys bb 2 l.length (cellsOf' encC l)),(1,ahFn m),(4,.s (.int .i64 0)),(7,.y (.int .i64 l.length)),(8,.y (.int .i64 k))]
def ahS (r:Bool×Nat):Exit×List AV×List Blk:=match r.1 with
 | true=>(.ret,mkT 19 [(4,.y (.int .i64 r.2))],[])
 | false=>(.exit 0,mkT 19 [],[])
def ahO (m:Nat) (l:List Con) (k:Nat):T (Bool×Nat):=.ite (ahAny m (l.drop k)) (.ret (true,k+(l.drop k).findIdx (aheadB m))) (.ret (false,0))
noncomputable def ahHL (m:Nat) (l:List Con) (k:Nat):HintsT Tryz.prog:=hh _ noLp (cs1 80 4 5 (ahC m (l.getD k default)) noCs) noOp
def vcahL (m:Nat) (bb:Bool) (l:List Con) (k:Nat):Prop :=
 (decide ((↑k:Int)<(↑(List.length l):Int))=true->(true&&decide ((↑k:Int)<(↑(List.length l):Int)))=true/\(((List.getD l (Int.toNat (↑k:Int)) (@default Con instInhabitedCon)).name=(List.getD l k (@default Con instInhabitedCon)).name/\(List.getD l (Int.toNat (↑k:Int)) (@default Con instInhabitedCon)).off=(List.getD l k (@default Con instInhabitedCon)).off/\True)/\(false=false/\(1:Nat)<=(1:Nat)/\cellLe (1:Nat) (Ax.get [AV.y (Value.int IntKind.u64 (IntKind.wrap IntKind.u64 (↑m:Int)))]) (Ax.get [AV.y (Value.int IntKind.u64 (IntKind.wrap IntKind.u64 (↑m:Int)))]))/\True)/\True/\m<=(9223372036854775806:Nat)/\(aheadB m (List.getD l k (@default Con instInhabitedCon))=true->(ahAny m (List.drop k l)=true->((↑k:Int)=(↑(k+List.findIdx (aheadB m) (List.drop k l)):Int)/\True)/\True/\true=true)/\(ahAny m (List.drop k l)=false->False))/\(aheadB m (List.getD l k (@default Con instInhabitedCon))=false->∃ (j:Nat),List.length l - j<List.length l - k/\(((bb=bb/\List.length l=List.length l/\contLe (List.length l) (2:Nat) (cellsOf' encC l) (cellsOf' encC l))/\(True/\(false=false/\(1:Nat)<=(1:Nat)/\cellLe (1:Nat) (Ax.get [AV.y (Value.int IntKind.u64 (IntKind.wrap IntKind.u64 (↑m:Int)))]) (Ax.get [AV.y (Value.int IntKind.u64 (IntKind.wrap IntKind.u64 (↑m:Int)))]))/\True)/\(0:Int)=(0:Int)/\(↑(List.length l):Int)=(↑(List.length l):Int)/\IntKind.wrap IntKind.i64 ((↑k:Int)+(1:Int))=(↑j:Int)/\True)/\True/\true=true)/\true=true/\(ahAny m (List.drop j l)=true->(ahAny m (List.drop k l)=true->(true,j+List.findIdx (aheadB m) (List.drop j l))=(true,k+List.findIdx (aheadB m) (List.drop k l)))/\(ahAny m (List.drop k l)=false->(true,j+List.findIdx (aheadB m) (List.drop j l))=(false,(0:Nat))))/\(ahAny m (List.drop j l)=false->(ahAny m (List.drop k l)=true->(false,(0:Nat))=(true,k+List.findIdx (aheadB m) (List.drop k l)))/\(ahAny m (List.drop k l)=false->(false,(0:Nat))=(false,(0:Nat))))))/\(decide ((↑k:Int)<(↑(List.length l):Int))=false->(ahAny m (List.drop k l)=true->False)/\(ahAny m (List.drop k l)=false->True/\True/\true=true))
theorem vcahL_eq (m:Nat) (bb:Bool) (l:List Con) (k:Nat):(loopVC Tryz.prog (ahHL m l k) 80 2 (fun k=>l.length - k) (ahT m bb l) (fun _=>[]) [0] (ahO m l) ahS k)=vcahL m bb l k:=by kernel_rfl
theorem ah_loop (m:Nat) (bb:Bool) (l:List Con) (hl:l.length<=9223372036854775806) (hn:∀ k,k<l.length->(m<=9223372036854775806)) (k:Nat):LoopOk Tryz.prog 80 2 (loopAt Tryz.prog 80 2) ⟨ahT m bb l k,[],[]⟩ ((ahO m l k).map (lout [0] ahS)):=by
 refine loop_vcH (ht:=fun k=>ahHL m l k) Tryz.mixed (fun _=>rfl) (fun k=>(vcahL_eq m bb l k).mpr ?_) k
 unfold vcahL
 by_cases h:k<l.length
 · have hw:IntKind.i64.wrap ((k:Int)+1)=((k+1:Nat):Int):=by rw [wrap_i64 (by omega) (by omega)];omega
   have hz:decide ((k:Int)<l.length)=true:=by simp;omega
   have hd:l.drop k=l.getD k default::l.drop (k+1):=by rw [drop_cons h];simp
   have hk:=hn k h
   rw [Int.toNat_natCast]
   simp only [hz,hd,ahAny_cons,List.findIdx_cons]
   generalize l.getD k default=y at *
   cases hp:aheadB m y
   · simp [hw,hk]
     exact ⟨k+1,by omega,by omega,by grind⟩
   · simp [hk]
 · have hz:decide ((k:Int)<l.length)=false:=by simp;omega
   simp only [hz,drop_end (Nat.le_of_not_lt h),ahAny_nil]
   simp
noncomputable def ahH (m:Nat) (bb:Bool) (l:List Con):HintsT Tryz.prog:=hh _ (lp1 80 2 (jobOf (ahT m bb l) (fun _=>[]) [0] (ahO m l) ahS 0) noLp) noCs noOp
def vcahF (m:Nat) (bb:Bool) (l:List Con):Prop :=
 (((bb=bb/\l.length=l.length/\contLe l.length 2 (cellsOf' encC l) (cellsOf' encC l))/\(True/\(false=false/\1<=1/\cellLe 1 (Ax.get [AV.y (.int .u64 (IntKind.u64.wrap (m:Int)))]) (Ax.get [AV.y (.int .u64 (IntKind.u64.wrap (m:Int)))]))/\True)/\(0:Int)=0/\(l.length:Int)=(l.length:Int)/\(0:Int)=0/\True)/\True/\true=true)/\LoopOk Tryz.prog 80 2 (loopAt Tryz.prog 80 2) { t:=ahT m bb l 0,m:=[],mv:=[]:St } (T.map (lout [0] ahS) (ahO m l 0))/\(ahAny m (List.drop 0 l)=true->true=ahAny m l/\True)/\(ahAny m (List.drop 0 l)=false->false=ahAny m l/\True)
theorem vcahF_eq (m:Nat) (bb:Bool) (l:List Con):(ctrVC Tryz.prog (ahH m bb l) 47 [.ys bb 2 l.length (cellsOf' encC l),ahFn m] [] (boolR (ahAny m l)))=vcahF m bb l:=by kernel_rfl
theorem ah_has (m:Nat) (bb:Bool) (l:List Con) (hl:l.length<=9223372036854775806) (hn:∀ k,k<l.length->(m<=9223372036854775806)):(boolR (ahAny m l)).Sat (ACall' Tryz.prog 47 [.ys bb 2 l.length (cellsOf' encC l),ahFn m] []):=by
 refine ctr_vc (ht:=ahH m bb l) Tryz.mixed rfl ?_
 rw [vcahF_eq m bb l]
 unfold vcahF
 have:=ah_loop m bb l hl hn 0
 simp [this]
noncomputable def ahHas (m:Nat) (bb:Bool) (l:List Con):Ctr Tryz.prog:=⟨47,[.ys bb 2 l.length (cellsOf' encC l),ahFn m],[],.need (l.length<=9223372036854775806/\∀ k,k<l.length->(m<=9223372036854775806)) (boolR (ahAny m l)),T.Sat.need fun h=>ah_has m bb l h.1 h.2⟩
end Go.Proofs.YtckklclehofddaaGreatDoor

namespace Go.Proofs.YtckklclehofddaaGreatDoor
open Go.Ax
set_option maxRecDepth 1000000
def partOk (p:Part):Bool:=(chkK p.rng==0)&&(!(p.epoch==0)&&(isLog p.recs&&(P.isTable p.prods&&(isCons p.cons&&(orFrom p 0&&(!p.prods.any (lostB p)&&!p.cons.any (aheadB p.recs.length)))))))
def errR (b:Bool) (e:Int):T An:=.ite b (.ret (.s (.int .i64 0),[],[])) (.ret (.s (.int .i64 e),[],[]))
noncomputable def pcH (b:Bool) (p:Part):HintsT Tryz.prog:=hh _ noLp
 (cs1 15 4 2 (chkC p.rng) (cs1 15 6 2 (lgC b p.recs) (cs1 15 7 2 (P.tabN b p.prods) (cs1 15 8 2 (coC b p.cons)
 (cs1 15 10 1 (orC b p) (cs1 15 11 3 (loHas b p b p.prods) (cs1 15 12 3 (ahHas p.recs.length b p.cons) noCs))))))) noOp
def vcPc (b:Bool) (p:Part):Prop :=
 ((p.rng.lo=p.rng.lo/\p.rng.hi=p.rng.hi/\True)/\True)/\True/\((chkK p.rng != 0)=true->(partOk p=true->(165:Int)=0/\True)/\(partOk p=false->(165:Int)=165/\True))/\((chkK p.rng != 0)=false->((p.epoch==0)=true->(partOk p=true->(165:Int)=0/\True)/\(partOk p=false->(165:Int)=165/\True))/\((p.epoch==0)=false->((b=b/\p.recs.length=p.recs.length/\contLe p.recs.length 5 (cellsOf' encR p.recs) (cellsOf' encR p.recs))/\True)/\True/\p.recs.length<=9223372036854775806/\((!isLog p.recs)=true->(partOk p=true->(165:Int)=0/\True)/\(partOk p=false->(165:Int)=165/\True))/\((!isLog p.recs)=false->((b=b/\p.prods.length=p.prods.length/\contLe p.prods.length 4 (cellsOf' P.encP p.prods) (cellsOf' P.encP p.prods))/\True)/\True/\p.prods.length<=9223372036854775806/\((!P.isTable p.prods)=true->(partOk p=true->(165:Int)=0/\True)/\(partOk p=false->(165:Int)=165/\True))/\((!P.isTable p.prods)=false->((b=b/\p.cons.length=p.cons.length/\contLe p.cons.length 2 (cellsOf' encC p.cons) (cellsOf' encC p.cons))/\True)/\True/\p.cons.length<=9223372036854775806/\((!isCons p.cons)=true->(partOk p=true->(165:Int)=0/\True)/\(partOk p=false->(165:Int)=165/\True))/\((!isCons p.cons)=false->((ptLe b b p p)/\True)/\True/\(p.prods.length<=9223372036854775806/\p.recs.length<=9223372036854775806)/\((!orFrom p 0)=true->(partOk p=true->(165:Int)=0/\True)/\(partOk p=false->(165:Int)=165/\True))/\((!orFrom p 0)=false->((b=b/\p.prods.length=p.prods.length/\contLe p.prods.length 4 (cellsOf' P.encP p.prods) (cellsOf' P.encP p.prods))/\(True/\(false=false/\1<=1/\cellLe 1 (fun (j:Nat)=>Ax.get [AV.y (.int .u64 (IntKind.u64.wrap (p.recs.length:Int)))] (0+j)) (Ax.get [AV.y (.int .u64 (IntKind.u64.wrap (p.recs.length:Int)))]))/\(false=false/\7<=7/\cellLe 7 (fun (j:Nat)=>Ax.get [AV.y (.string p.rng.lo),AV.y (.string p.rng.hi),AV.y (.int .u64 p.epoch),AV.y (.int .u64 p.frozen),AV.ys b 5 p.recs.length (cellsOf' encR p.recs),AV.ys b 4 p.prods.length (cellsOf' P.encP p.prods),AV.ys b 2 p.cons.length (cellsOf' encC p.cons)] (0+j)) (Ax.get [AV.y (.string p.rng.lo),AV.y (.string p.rng.hi),AV.y (.int .u64 p.epoch),AV.y (.int .u64 p.frozen),AV.ys b 5 p.recs.length (cellsOf' encR p.recs),AV.ys b 4 p.prods.length (cellsOf' P.encP p.prods),AV.ys b 2 p.cons.length (cellsOf' encC p.cons)]))/\True)/\True)/\True/\(p.prods.length<=9223372036854775806/\∀ k,k<p.prods.length->p.recs.length<=9223372036854775806/\0<=(p.prods.getD k default).offset)/\true=true/\True/\(loAny b p p.prods=true->(partOk p=true->(165:Int)=0/\True)/\(partOk p=false->(165:Int)=165/\True))/\(loAny b p p.prods=false->((b=b/\p.cons.length=p.cons.length/\contLe p.cons.length 2 (cellsOf' encC p.cons) (cellsOf' encC p.cons))/\(True/\(false=false/\1<=1/\cellLe 1 (fun (j:Nat)=>Ax.get [AV.y (.int .u64 (IntKind.u64.wrap (p.recs.length:Int)))] (0+j)) (Ax.get [AV.y (.int .u64 (IntKind.u64.wrap (p.recs.length:Int)))]))/\True)/\True)/\True/\(p.cons.length<=9223372036854775806/\∀ k,k<p.cons.length->p.recs.length<=9223372036854775806)/\true=true/\True/\(ahAny p.recs.length p.cons=true->(partOk p=true->(165:Int)=0/\True)/\(partOk p=false->(165:Int)=165/\True))/\(ahAny p.recs.length p.cons=false->(partOk p=true->(0:Int)=0/\True)/\(partOk p=false->(0:Int)=165/\True)))))))))
theorem vcPc_eq (b:Bool) (p:Part):(ctrVC Tryz.prog (pcH b p) 15 [.agg (encPt b p)] [] (errR (partOk p) 165))=vcPc b p:=by kernel_rfl
structure PartIn (p:Part):Prop where
 rl:p.recs.length<=4611686018427387903
 pl:p.prods.length<=4611686018427387903
 cl:p.cons.length<=4611686018427387903
 po:∀ k,k<p.prods.length->0<=(p.prods.getD k default).offset
theorem pc_c (b:Bool) (p:Part) (h:PartIn p):(errR (partOk p) 165).Sat (ACall' Tryz.prog 15 [.agg (encPt b p)] []):=by
 refine ctr_vc (ht:=pcH b p) Tryz.mixed rfl ?_
 rw [vcPc_eq b p]
 unfold vcPc
 obtain ⟨h1,h2,h3,h4⟩:=h
 have e1:loAny b p p.prods=p.prods.any (lostB p):=rfl
 have e2:ahAny p.recs.length p.cons=p.cons.any (aheadB p.recs.length):=rfl
 have hw:IntKind.u64.wrap (p.recs.length:Int)=p.recs.length:=wrap_u64 (by omega) (by omega)
 simp only [e1,e2,hw]
 unfold partOk
 have g1:p.recs.length<=9223372036854775806:=by omega
 have g2:p.prods.length<=9223372036854775806:=by omega
 have g3:p.cons.length<=9223372036854775806:=by omega
 generalize orFrom p 0=a1
 generalize p.prods.any (lostB p)=a2
 generalize p.cons.any (aheadB p.recs.length)=a3
 generalize isLog p.recs=a4
 generalize P.isTable p.prods=a5
 generalize isCons p.cons=a6
 by_cases c1:chkK p.rng=0<;>by_cases c2:p.epoch=0<;>cases a1<;>cases a2<;>cases a3<;>cases a4<;>cases a5<;>cases a6<;>simp [c1,c2,g1,g2,g3]<;>exact h4
noncomputable def pcC (b:Bool) (p:Part):Ctr Tryz.prog:=⟨15,[.agg (encPt b p)],[],.need (PartIn p) (errR (partOk p) 165),T.Sat.need fun h=>pc_c b p h⟩
end Go.Proofs.YtckklclehofddaaGreatDoor

namespace Go.Proofs.YtckklclehofddaaGreatDoor.D
open Go.Ax
set_option maxRecDepth 1000000
def beqB (a b:ByteArray):Bool:=a.data.toList==b.data.toList
def splE (r:Rng) (k:ByteArray):Int:=if !(chkK r==0) then chkK r else if 32<k.size then 131 else if (beqB k r.lo||!hasK r k)=true then 132 else 0
def rLow (r:Rng) (k:ByteArray):Rng:=⟨r.lo,k⟩
def rHigh (r:Rng) (k:ByteArray):Rng:=⟨k,r.hi⟩
def splT (r:Rng) (k:ByteArray):T An:=.ite (splE r k==0)
 (.ret (.tup [.agg (encG (rLow r k)),.agg (encG (rHigh r k)),.s (.int .i64 0)],[],[]))
 (.ret (.tup [.agg (encG default),.agg (encG default),.y (.int .i64 (splE r k))],[],[]))
noncomputable def ksH (r:Rng) (k:ByteArray):HintsT Tryz.prog:=hh _ noLp (cs1 20 1 1 (chkC r) (cs1 20 6 7 (hasC r k) noCs)) noOp
def vcKs (r:Rng) (k:ByteArray):Prop :=
 ((r.lo=r.lo/\r.hi=r.hi/\True)/\True)/\True/\((chkK r != 0)=true->((splE r k==0)=true->(({ data:=#[]:ByteArray }=r.lo/\{ data:=#[]:ByteArray }=k/\True)/\({ data:=#[]:ByteArray }=k/\{ data:=#[]:ByteArray }=r.hi/\True)/\chkK r=0/\True)/\True)/\((splE r k==0)=false->(({ data:=#[]:ByteArray }=ByteArray.empty/\{ data:=#[]:ByteArray }=ByteArray.empty/\True)/\({ data:=#[]:ByteArray }=ByteArray.empty/\{ data:=#[]:ByteArray }=ByteArray.empty/\True)/\chkK r=splE r k/\True)/\True))/\((chkK r != 0)=false->(decide (32<((ByteArray.size k):Int))=true->((splE r k==0)=true->(({ data:=#[]:ByteArray }=r.lo/\{ data:=#[]:ByteArray }=k/\True)/\({ data:=#[]:ByteArray }=k/\{ data:=#[]:ByteArray }=r.hi/\True)/\(131:Int)=0/\True)/\True)/\((splE r k==0)=false->(({ data:=#[]:ByteArray }=ByteArray.empty/\{ data:=#[]:ByteArray }=ByteArray.empty/\True)/\({ data:=#[]:ByteArray }=ByteArray.empty/\{ data:=#[]:ByteArray }=ByteArray.empty/\True)/\131=splE r k/\True)/\True))/\(decide (32<((ByteArray.size k):Int))=false->((k.data.toList==r.lo.data.toList)=true->((splE r k==0)=true->(({ data:=#[]:ByteArray }=r.lo/\{ data:=#[]:ByteArray }=k/\True)/\({ data:=#[]:ByteArray }=k/\{ data:=#[]:ByteArray }=r.hi/\True)/\(132:Int)=0/\True)/\True)/\((splE r k==0)=false->(({ data:=#[]:ByteArray }=ByteArray.empty/\{ data:=#[]:ByteArray }=ByteArray.empty/\True)/\({ data:=#[]:ByteArray }=ByteArray.empty/\{ data:=#[]:ByteArray }=ByteArray.empty/\True)/\132=splE r k/\True)/\True))/\((k.data.toList==r.lo.data.toList)=false->((r.lo=r.lo/\r.hi=r.hi/\True)/\k=k/\True)/\True/\((!hasK r k)=true->((splE r k==0)=true->(({ data:=#[]:ByteArray }=r.lo/\{ data:=#[]:ByteArray }=k/\True)/\({ data:=#[]:ByteArray }=k/\{ data:=#[]:ByteArray }=r.hi/\True)/\(132:Int)=0/\True)/\True)/\((splE r k==0)=false->(({ data:=#[]:ByteArray }=ByteArray.empty/\{ data:=#[]:ByteArray }=ByteArray.empty/\True)/\({ data:=#[]:ByteArray }=ByteArray.empty/\{ data:=#[]:ByteArray }=ByteArray.empty/\True)/\132=splE r k/\True)/\True))/\((!hasK r k)=false->((splE r k==0)=true->((r.lo=r.lo/\k=k/\True)/\(k=k/\r.hi=r.hi/\True)/\(0:Int)=0/\True)/\True)/\((splE r k==0)=false->((r.lo=ByteArray.empty/\k=ByteArray.empty/\True)/\(k=ByteArray.empty/\r.hi=ByteArray.empty/\True)/\0=splE r k/\True)/\True)))))
theorem vcKs_eq (r:Rng) (k:ByteArray):(ctrVC Tryz.prog (ksH r k) 20 [.agg (encG r),.y (.string k)] [] (splT r k))=vcKs r k:=by kernel_rfl
def toOf (r:Rng) (l:List Rec):List Int:=(ke r l).end.to
def outOf (r:Rng) (l:List Rec):List Rec:=(ke r l).end.out
def keepT (r:Rng) (l:List Rec):T An:=keR (ke r l).end
theorem keep1_c (b:Bool) (r:Rng) (l:List Rec) (h1:isLog l=true) (h2:chkK r=0):(keepT r l).Sat (ACall' Tryz.prog 22 [encRs b l,.agg (encG r)] []):=by
 have hl:=log_len h1
 have:=keep_c b r l (by omega)
 unfold keT at this
 rw [h1,h2] at this
 intro Q hq
 exact this Q ⟨fun _=>hq,fun e=>by simp at e⟩
noncomputable def keepC1 (b:Bool) (r:Rng) (l:List Rec):Ctr Tryz.prog:=⟨22,[encRs b l,.agg (encG r)],[],.need (isLog l=true/\chkK r=0) (keepT r l),T.Sat.need fun h=>keep1_c b r l h.1 h.2⟩
def partOf (p:Part) (r:Rng):Part:=⟨r,IntKind.u64.wrap (p.epoch+1),0,outOf r p.recs,P.moveL p.prods (toOf r p.recs),mapU p.cons (toOf r p.recs) p.cons.length⟩
noncomputable def dofH (p:Part) (r:Rng):HintsT Tryz.prog:=withSh (hh _ noLp (cs1 21 1 3 (keepC1 true r p.recs) (cs1 21 2 8 (P.moveN true false p.prods (toOf r p.recs)) (cs1 21 2 12 (mpC true false p.cons (toOf r p.recs)) noCs))) noOp) (sh1 21 2 13 779 noSh)
def partR (p:Part):T An:=.ret (.agg (encPt true p),[],[])
def vcDof (p:Part) (r:Rng):Prop :=
 ((true=true/\p.recs.length=p.recs.length/\contLe p.recs.length 5 (cellsOf' encR p.recs) (cellsOf' encR p.recs))/\(r.lo=r.lo/\r.hi=r.hi/\True)/\True)/\True/\(isLog p.recs=true/\chkK r=0)/\((true=true/\p.prods.length=p.prods.length/\contLe p.prods.length 4 (cellsOf' P.encP p.prods) (cellsOf' P.encP p.prods))/\(false=false/\((ke r p.recs).to++[IntKind.u64.wrap ((ke r p.recs).out.length:Int)]).length=(toOf r p.recs).length/\contLe ((ke r p.recs).to++[IntKind.u64.wrap ((ke r p.recs).out.length:Int)]).length 1 (Ax.rowAt 0 (cellsOf' encU ((ke r p.recs).to++[IntKind.u64.wrap ((ke r p.recs).out.length:Int)]))) (cellsOf' P.encI (toOf r p.recs)))/\True)/\True/\(p.prods.length*32<=140737488355200/\(toOf r p.recs).length<=9223372036854775806/\∀ (x:P.Producer),x∈p.prods->0<=x.offset/\x.offset<18446744073709551616)/\true=true/\((∀ k,k<(P.moveL p.prods (toOf r p.recs)).length->∀ j,j<4->tagT (cellsOf' P.encP (P.moveL p.prods (toOf r p.recs)) k j)=true)/\True)/\((true=true/\p.cons.length=p.cons.length/\contLe p.cons.length 2 (cellsOf' encC p.cons) (cellsOf' encC p.cons))/\(false=false/\((ke r p.recs).to++[IntKind.u64.wrap ((ke r p.recs).out.length:Int)]).length=(toOf r p.recs).length/\contLe ((ke r p.recs).to++[IntKind.u64.wrap ((ke r p.recs).out.length:Int)]).length 1 (Ax.rowAt 0 (cellsOf' encU ((ke r p.recs).to++[IntKind.u64.wrap ((ke r p.recs).out.length:Int)]))) (cellsOf' encU (toOf r p.recs)))/\True)/\True/\((toOf r p.recs).length<=9223372036854775806/\p.cons.length*24<=140737488355200/\∀ (x:Con),x∈p.cons->0<=x.off/\x.off<18446744073709551616)/\true=true/\((∀ k,k<(mapU p.cons (toOf r p.recs) p.cons.length).length->∀ j,j<2->tagT (cellsOf' encC (mapU p.cons (toOf r p.recs) p.cons.length) k j)=true)/\True)/\(∀ k,k<(ke r p.recs).out.length->∀ j,j<5->tagT (cellsOf' encR (ke r p.recs).out k j)=true)/\(∀ k,k<(P.moveL p.prods (toOf r p.recs)).length->∀ j,j<4->tagT (cellsOf' P.encP (P.moveL p.prods (toOf r p.recs)) k j)=true)/\(∀ k,k<(mapU p.cons (toOf r p.recs) p.cons.length).length->∀ j,j<2->tagT (cellsOf' encC (mapU p.cons (toOf r p.recs) p.cons.length) k j)=true)/\(r.lo=r.lo/\r.hi=r.hi/\IntKind.u64.wrap (p.epoch+1)=IntKind.u64.wrap (p.epoch+1)/\(0:Int)=0/\(true=true/\(ke r p.recs).out.length=(outOf r p.recs).length/\contLe (ke r p.recs).out.length 5 (Ax.rowAt 0 (cellsOf' encR (ke r p.recs).out)) (cellsOf' encR (outOf r p.recs)))/\(true=true/\(P.moveL p.prods (toOf r p.recs)).length=(P.moveL p.prods (toOf r p.recs)).length/\contLe (P.moveL p.prods (toOf r p.recs)).length 4 (Ax.rowAt 0 (cellsOf' P.encP (P.moveL p.prods (toOf r p.recs)))) (cellsOf' P.encP (P.moveL p.prods (toOf r p.recs))))/\(true=true/\(mapU p.cons (toOf r p.recs) p.cons.length).length=(mapU p.cons (toOf r p.recs) p.cons.length).length/\contLe (mapU p.cons (toOf r p.recs) p.cons.length).length 2 (Ax.rowAt 0 (cellsOf' encC (mapU p.cons (toOf r p.recs) p.cons.length))) (cellsOf' encC (mapU p.cons (toOf r p.recs) p.cons.length)))/\True)/\True
theorem vcDof_eq (p:Part) (r:Rng):(ctrVC Tryz.prog (dofH p r) 21 [.agg (encG r),.ip false 7 (get (encPt true p))] [] (partR (partOf p r)))=vcDof p r:=by kernel_rfl
theorem ks_c (r:Rng) (k:ByteArray) (hk:k.size<=9223372036854775807):(splT r k).Sat (ACall' Tryz.prog 20 [.agg (encG r),.y (.string k)] []):=by
 refine ctr_vc (ht:=ksH r k) Tryz.mixed rfl ?_
 rw [vcKs_eq r k]
 unfold vcKs
 unfold splE beqB
 by_cases h1:chkK r=0
 · by_cases h2:32<k.size
   · have h3:(32:Int)<k.size:=by omega
     simp [h1,h2,h3]
     rfl
   · have h3:¬ (32:Int)<k.size:=by omega
     generalize (k.data.toList==r.lo.data.toList)=q
     cases q<;>cases hasK r k<;>simp [h1,h2,h3]<;>first | done | rfl
 · simp [h1]
   rfl
noncomputable def ksC (r:Rng) (k:ByteArray):Ctr Tryz.prog:=⟨20,[.agg (encG r),.y (.string k)],[],.need (k.size<=9223372036854775807) (splT r k),T.Sat.need fun h=>ks_c r k h⟩
structure PartTy (p:Part):Prop where
 rl:p.recs.length<=4611686018427387903
 pl:p.prods.length<=4611686018427387903
 cl:p.cons.length<=4611686018427387903
 po:∀ x∈p.prods,0<=x.offset/\x.offset<18446744073709551616
 co:wfC p.cons
theorem PartTy.isIn {p:Part} (h:PartTy p):PartIn p:=⟨h.rl,h.pl,h.cl,fun k hk=>(h.po _ (by simp [hk])).1⟩
theorem tagP (x:P.Producer) (j:Nat) (hj:j<4):tagT (Ax.get (P.encP x) j)=true:=by
 match j,hj with
 | 0,_=>rfl
 | 1,_=>rfl
 | 2,_=>rfl
 | 3,_=>rfl
theorem tagC (x:Con) (j:Nat) (hj:j<2):tagT (Ax.get (encC x) j)=true:=by
 match j,hj with
 | 0,_=>rfl
 | 1,_=>rfl
theorem dof_c (p:Part) (r:Rng) (h:PartTy p) (h1:isLog p.recs=true) (h2:P.isTable p.prods=true) (h3:isCons p.cons=true) (h4:chkK r=0):(partR (partOf p r)).Sat (ACall' Tryz.prog 21 [.agg (encG r),.ip false 7 (get (encPt true p))] []):=by
 refine ctr_vc (ht:=dofH p r) Tryz.mixed rfl ?_
 rw [vcDof_eq p r]
 unfold vcDof
 have q1:=log_len h1
 have q2:p.prods.length<=256:=by simp [P.isTable] at h2;exact h2.2
 have q3:p.cons.length<=64:=by simp [isCons] at h3;exact h3.2
 obtain ⟨q4,q5⟩:=ke_len' r p.recs
 have e1:(ke r p.recs).to++[IntKind.u64.wrap ((ke r p.recs).out.length:Nat)]=toOf r p.recs:=rfl
 have e2:(ke r p.recs).out=outOf r p.recs:=rfl
 have e3:(toOf r p.recs).length=p.recs.length+1:=by rw [<- e1];simp [q4]
 have e4:cellsOf' P.encI (toOf r p.recs)=cellsOf' encU (toOf r p.recs):=rfl
 have e5:(P.moveL p.prods (toOf r p.recs)).length=p.prods.length:=by simp [P.moveL]
 rw [e1]
 simp only [h1,h4,e2,e4,rowAt_zero]
 have t1:∀ (k:Nat),k<(outOf r p.recs).length->∀ (j:Nat),j<5->tagT (cellsOf' encR (outOf r p.recs) k j)=true:=fun k _ j hj=>tagR _ j hj
 have t2:∀ (k:Nat),k<(P.moveL p.prods (toOf r p.recs)).length->∀ (j:Nat),j<4->tagT (cellsOf' P.encP (P.moveL p.prods (toOf r p.recs)) k j)=true:=fun k _ j hj=>tagP _ j hj
 have t3:∀ (k:Nat),k<(mapU p.cons (toOf r p.recs) p.cons.length).length->∀ (j:Nat),j<2->tagT (cellsOf' encC (mapU p.cons (toOf r p.recs) p.cons.length) k j)=true:=fun k _ j hj=>tagC _ j hj
 have g1:p.prods.length*32<=140737488355200:=by omega
 have g2:(toOf r p.recs).length<=9223372036854775806:=by omega
 have g3:p.cons.length*24<=140737488355200:=by omega
 have g4:=h.po
 have g5:∀ (x:Con),x∈p.cons->(0:Int)<=x.off/\x.off<18446744073709551616:=h.co
 simp only [contLe_refl,partOf,and_true,true_and]
 repeat' with_reducible apply And.intro
 all_goals first | rfl | trivial | assumption | skip
end Go.Proofs.YtckklclehofddaaGreatDoor.D

namespace Go.Proofs.YtckklclehofddaaGreatDoor.D
open Go.Ax
set_option maxRecDepth 1000000
def bad (p:Part):Bool:=!partOk p||IntKind.u64.wrap (p.epoch+1)==0
def splitE (p:Part) (k:ByteArray):Int:=if bad p=true then 172 else if p.frozen=0 then 171 else splE p.rng k
def splitT (p:Part) (k:ByteArray):T An:=.ite (splitE p k==0)
 (.ret (.tup [.agg (encPt true (partOf p (rLow p.rng k))),.agg (encPt true (partOf p (rHigh p.rng k))),.s (.int .i64 0)],[],[]))
 (.ret (.tup [.agg (encPt true default),.agg (encPt true default),.y (.int .i64 (splitE p k))],[],[]))
noncomputable def dofC (p:Part) (r:Rng):Ctr Tryz.prog:=⟨21,[.agg (encG r),.ip false 7 (get (encPt true p))],[],.need (PartTy p/\isLog p.recs=true/\P.isTable p.prods=true/\isCons p.cons=true/\chkK r=0) (partR (partOf p r)),T.Sat.need fun h=>dof_c p r h.1 h.2.1 h.2.2.1 h.2.2.2.1 h.2.2.2.2⟩
noncomputable def splH (p:Part) (k:ByteArray):HintsT Tryz.prog:=hh _ noLp (cs1 18 5 1 (pcC true p) (cs1 9 4 3 (ksC p.rng k) (cs1 9 8 2 (dofC p (rLow p.rng k)) (cs1 9 8 5 (dofC p (rHigh p.rng k)) noCs)))) noOp
def vcSplit_q1 (p:Part) (k:ByteArray):Prop:=((splitE p k==0)=true->((p.rng.lo=p.rng.lo/\k=k/\IntKind.u64.wrap (p.epoch+1)=IntKind.u64.wrap (p.epoch+1)/\(0:Int)=0/\(true=true/\(outOf (rLow p.rng k) p.recs).length=(outOf (rLow p.rng k) p.recs).length/\contLe (outOf (rLow p.rng k) p.recs).length 5 (cellsOf' encR (outOf (rLow p.rng k) p.recs)) (cellsOf' encR (outOf (rLow p.rng k) p.recs)))/\(true=true/\(P.moveL p.prods (toOf (rLow p.rng k) p.recs)).length=(P.moveL p.prods (toOf (rLow p.rng k) p.recs)).length/\contLe (P.moveL p.prods (toOf (rLow p.rng k) p.recs)).length 4 (cellsOf' P.encP (P.moveL p.prods (toOf (rLow p.rng k) p.recs))) (cellsOf' P.encP (P.moveL p.prods (toOf (rLow p.rng k) p.recs))))/\(true=true/\(mapU p.cons (toOf (rLow p.rng k) p.recs) p.cons.length).length=(mapU p.cons (toOf (rLow p.rng k) p.recs) p.cons.length).length/\contLe (mapU p.cons (toOf (rLow p.rng k) p.recs) p.cons.length).length 2 (cellsOf' encC (mapU p.cons (toOf (rLow p.rng k) p.recs) p.cons.length)) (cellsOf' encC (mapU p.cons (toOf (rLow p.rng k) p.recs) p.cons.length)))/\True)/\(k=k/\p.rng.hi=p.rng.hi/\IntKind.u64.wrap (p.epoch+1)=IntKind.u64.wrap (p.epoch+1)/\(0:Int)=0/\(true=true/\(outOf (rHigh p.rng k) p.recs).length=(outOf (rHigh p.rng k) p.recs).length/\contLe (outOf (rHigh p.rng k) p.recs).length 5 (cellsOf' encR (outOf (rHigh p.rng k) p.recs)) (cellsOf' encR (outOf (rHigh p.rng k) p.recs)))/\(true=true/\(P.moveL p.prods (toOf (rHigh p.rng k) p.recs)).length=(P.moveL p.prods (toOf (rHigh p.rng k) p.recs)).length/\contLe (P.moveL p.prods (toOf (rHigh p.rng k) p.recs)).length 4 (cellsOf' P.encP (P.moveL p.prods (toOf (rHigh p.rng k) p.recs))) (cellsOf' P.encP (P.moveL p.prods (toOf (rHigh p.rng k) p.recs))))/\(true=true/\(mapU p.cons (toOf (rHigh p.rng k) p.recs) p.cons.length).length=(mapU p.cons (toOf (rHigh p.rng k) p.recs) p.cons.length).length/\contLe (mapU p.cons (toOf (rHigh p.rng k) p.recs) p.cons.length).length 2 (cellsOf' encC (mapU p.cons (toOf (rHigh p.rng k) p.recs) p.cons.length)) (cellsOf' encC (mapU p.cons (toOf (rHigh p.rng k) p.recs) p.cons.length)))/\True)/\(0:Int)=0/\True)/\True)
def vcSplit_q2 (p:Part):Prop:=(false=false/\7<=7/\cellLe 7 (fun (j:Nat)=>Ax.get [AV.y (.string p.rng.lo),AV.y (.string p.rng.hi),AV.y (.int .u64 p.epoch),AV.y (.int .u64 p.frozen),AV.ys true 5 p.recs.length (cellsOf' encR p.recs),AV.ys true 4 p.prods.length (cellsOf' P.encP p.prods),AV.ys true 2 p.cons.length (cellsOf' encC p.cons)] (0+j)) (Ax.get [AV.y (.string p.rng.lo),AV.y (.string p.rng.hi),AV.y (.int .u64 p.epoch),AV.y (.int .u64 p.frozen),AV.ys true 5 p.recs.length (cellsOf' encR p.recs),AV.ys true 4 p.prods.length (cellsOf' P.encP p.prods),AV.ys true 2 p.cons.length (cellsOf' encC p.cons)]))
def vcSplit_q3 (p:Part) (k:ByteArray):Prop:=((splitE p k==0)=false->((p.rng.lo=ByteArray.empty/\k=ByteArray.empty/\IntKind.u64.wrap (p.epoch+1)=0/\(0:Int)=0/\(true=true/\(outOf (rLow p.rng k) p.recs).length=0/\contLe (outOf (rLow p.rng k) p.recs).length 5 (cellsOf' encR (outOf (rLow p.rng k) p.recs)) (cellsOf' encR []))/\(true=true/\(P.moveL p.prods (toOf (rLow p.rng k) p.recs)).length=0/\contLe (P.moveL p.prods (toOf (rLow p.rng k) p.recs)).length 4 (cellsOf' P.encP (P.moveL p.prods (toOf (rLow p.rng k) p.recs))) (cellsOf' P.encP []))/\(true=true/\(mapU p.cons (toOf (rLow p.rng k) p.recs) p.cons.length).length=0/\contLe (mapU p.cons (toOf (rLow p.rng k) p.recs) p.cons.length).length 2 (cellsOf' encC (mapU p.cons (toOf (rLow p.rng k) p.recs) p.cons.length)) (cellsOf' encC []))/\True)/\(k=ByteArray.empty/\p.rng.hi=ByteArray.empty/\IntKind.u64.wrap (p.epoch+1)=0/\(0:Int)=0/\(true=true/\(outOf (rHigh p.rng k) p.recs).length=0/\contLe (outOf (rHigh p.rng k) p.recs).length 5 (cellsOf' encR (outOf (rHigh p.rng k) p.recs)) (cellsOf' encR []))/\(true=true/\(P.moveL p.prods (toOf (rHigh p.rng k) p.recs)).length=0/\contLe (P.moveL p.prods (toOf (rHigh p.rng k) p.recs)).length 4 (cellsOf' P.encP (P.moveL p.prods (toOf (rHigh p.rng k) p.recs))) (cellsOf' P.encP []))/\(true=true/\(mapU p.cons (toOf (rHigh p.rng k) p.recs) p.cons.length).length=0/\contLe (mapU p.cons (toOf (rHigh p.rng k) p.recs) p.cons.length).length 2 (cellsOf' encC (mapU p.cons (toOf (rHigh p.rng k) p.recs) p.cons.length)) (cellsOf' encC []))/\True)/\0=splitE p k/\True)/\True)
def vcSplit_q4:Prop:=({ data:=#[]:ByteArray }=ByteArray.empty/\{ data:=#[]:ByteArray }=ByteArray.empty/\(0:Int)=0/\(0:Int)=0/\0=0/\0=0/\0=0/\True)
def vcSplit_q5 (p:Part) (k:ByteArray):Prop:=({ data:=#[]:ByteArray }=k/\{ data:=#[]:ByteArray }=p.rng.hi/\0=IntKind.u64.wrap (p.epoch+1)/\(0:Int)=0/\(outOf (rHigh p.rng k) p.recs).length=0/\(P.moveL p.prods (toOf (rHigh p.rng k) p.recs)).length=0/\(mapU p.cons (toOf (rHigh p.rng k) p.recs) p.cons.length).length=0/\True)
def vcSplit_q6 (p:Part) (k:ByteArray):Prop:=({ data:=#[]:ByteArray }=p.rng.lo/\{ data:=#[]:ByteArray }=k/\0=IntKind.u64.wrap (p.epoch+1)/\(0:Int)=0/\(outOf (rLow p.rng k) p.recs).length=0/\(P.moveL p.prods (toOf (rLow p.rng k) p.recs)).length=0/\(mapU p.cons (toOf (rLow p.rng k) p.recs) p.cons.length).length=0/\True)
def vcSplit (p:Part) (k:ByteArray):Prop :=
 ((ptLe true true p p)/\True)/\True/\PartIn p/\(partOk p=true->((IntKind.u64.wrap (p.epoch+1)==0)=true->true=true/\True/\((splitE p k==0)=true->((vcSplit_q6 p k)/\(vcSplit_q5 p k)/\(172:Int)=0/\True)/\True)/\((splitE p k==0)=false->((vcSplit_q4)/\(vcSplit_q4)/\172=splitE p k/\True)/\True))/\((IntKind.u64.wrap (p.epoch+1)==0)=false->((p.frozen==0)=true->true=true/\True/\((splitE p k==0)=true->((vcSplit_q6 p k)/\(vcSplit_q5 p k)/\(171:Int)=0/\True)/\True)/\((splitE p k==0)=false->((vcSplit_q4)/\(vcSplit_q4)/\171=splitE p k/\True)/\True))/\((p.frozen==0)=false->true=true/\True/\((p.rng.lo=p.rng.lo/\p.rng.hi=p.rng.hi/\True)/\k=k/\True)/\True/\ByteArray.size k<=9223372036854775807/\((splE p.rng k==0)=true->((p.rng.lo=p.rng.lo/\k=k/\True)/\(vcSplit_q2 p)/\True)/\True/\(PartTy p/\isLog p.recs=true/\P.isTable p.prods=true/\isCons p.cons=true/\chkK (rLow p.rng k)=0)/\true=true/\True/\((k=k/\p.rng.hi=p.rng.hi/\True)/\(vcSplit_q2 p)/\True)/\True/\(PartTy p/\isLog p.recs=true/\P.isTable p.prods=true/\isCons p.cons=true/\chkK (rHigh p.rng k)=0)/\true=true/\True/\(vcSplit_q1 p k)/\(vcSplit_q3 p k))/\((splE p.rng k==0)=false->((splE p.rng k != 0)=true->((splitE p k==0)=true->((vcSplit_q6 p k)/\(vcSplit_q5 p k)/\splE p.rng k=0/\True)/\True)/\((splitE p k==0)=false->((vcSplit_q4)/\(vcSplit_q4)/\splE p.rng k=splitE p k/\True)/\True))/\((splE p.rng k != 0)=false->((ByteArray.empty=p.rng.lo/\ByteArray.empty=k/\True)/\(vcSplit_q2 p)/\True)/\True/\(PartTy p/\isLog p.recs=true/\P.isTable p.prods=true/\isCons p.cons=true/\chkK (rLow p.rng k)=0)/\true=true/\True/\((ByteArray.empty=k/\ByteArray.empty=p.rng.hi/\True)/\(vcSplit_q2 p)/\True)/\True/\(PartTy p/\isLog p.recs=true/\P.isTable p.prods=true/\isCons p.cons=true/\chkK (rHigh p.rng k)=0)/\true=true/\True/\(vcSplit_q1 p k)/\(vcSplit_q3 p k))))))/\(partOk p=false->true=true/\True/\((splitE p k==0)=true->((vcSplit_q6 p k)/\(vcSplit_q5 p k)/\(172:Int)=0/\True)/\True)/\((splitE p k==0)=false->((vcSplit_q4)/\(vcSplit_q4)/\172=splitE p k/\True)/\True))
theorem vcSplit_eq (p:Part) (k:ByteArray):(ctrVC Tryz.prog (splH p k) 9 [.agg (encPt true p),.y (.string k)] [] (splitT p k))=vcSplit p k:=by kernel_rfl
theorem less_irr:∀ l:List UInt8,Op.bytesLess l l=false
 | []=>rfl
 | a::l=>by simp [Op.bytesLess,less_irr l]
theorem lt_irr (a:ByteArray):lt a a=false:=less_irr _
theorem beqB_iff {a b:ByteArray}:beqB a b=true↔a=b:=by
 obtain ⟨⟨a⟩⟩:=a
 obtain ⟨⟨b⟩⟩:=b
 simp [beqB]
theorem lst_iff {a b:ByteArray}:(a.data.toList==b.data.toList)=true↔a=b:=beqB_iff
theorem spl_ok {r:Rng} {k:ByteArray} (h:splE r k=0):chkK r=0/\k.size<=32/\k≠r.lo/\hasK r k=true:=by
 unfold splE at h
 split at h
 · rename_i h1;simp at h1;exact absurd h h1
 · split at h
   · cases h
   · split at h
     · cases h
     · rename_i h1 h2 h3
       simp at h1 h3
       refine ⟨h1,by omega,fun e=>?_,h3.2⟩
       rw [beqB_iff.2 e] at h3
       simp at h3
theorem chk_iff {r:Rng}:chkK r=0↔r.lo.size<=32/\r.hi.size<=32/\(r.hi.data.toList=[]∨(lt r.hi r.lo=false/\r.hi≠r.lo)):=by
 unfold chkK
 by_cases h1:32<r.lo.size∨32<r.hi.size
 · rw [if_pos h1]
   constructor
   · intro h;cases h
   · rintro ⟨a,b,_⟩;omega
 · rw [if_neg h1]
   have h2:r.lo.size<=32/\r.hi.size<=32:=by omega
   have h3:(r.hi.data.toList==r.lo.data.toList)=decide (r.hi=r.lo):=by
    rw [Bool.eq_iff_iff,lst_iff,decide_eq_true_iff]
   rw [h3]
   clear h3
   generalize r.hi.data.toList=L
   by_cases h4:L=[]
   · simp [h4,h2]
   · by_cases h5:lt r.hi r.lo=true
     · simp [h4,h5]
     · by_cases h6:r.hi=r.lo
       · simp [h4,h6]
       · simp [h4,h5,h6,h2]
theorem has_iff {r:Rng} {k:ByteArray}:hasK r k=true↔chkK r=0/\k.size<=32/\(lt r.lo k=true∨r.lo=k)/\(r.hi.data.toList=[]∨lt k r.hi=true):=by
 unfold hasK
 have h3:(r.lo.data.toList==k.data.toList)=decide (r.lo=k):=by
  rw [Bool.eq_iff_iff,lst_iff,decide_eq_true_iff]
 rw [h3]
 simp only [Bool.and_eq_true,Bool.or_eq_true,beq_iff_eq,decide_eq_true_iff]
 constructor
 · rintro ⟨a,b,c,d⟩;exact ⟨a,by omega,c,d⟩
 · rintro ⟨a,b,c,d⟩;exact ⟨a,by omega,c,d⟩
theorem low_chk {r:Rng} {k:ByteArray} (h:splE r k=0):chkK (rLow r k)=0:=by
 obtain ⟨h1,h2,h3,h4⟩:=spl_ok h
 obtain ⟨c1,c2,c3⟩:=chk_iff.1 h1
 obtain ⟨_,_,h5,h6⟩:=has_iff.1 h4
 refine chk_iff.2 ⟨c1,h2,.inr ?_⟩
 have h5:lt r.lo k=true:=h5.resolve_right fun e=>h3 e.symm
 refine ⟨?_,h3⟩
 show lt k r.lo=false
 cases hh:lt k r.lo
 · rfl
 · have:=lt_trans' h5 hh
   rw [lt_irr] at this;cases this
theorem high_chk {r:Rng} {k:ByteArray} (h:splE r k=0):chkK (rHigh r k)=0:=by
 obtain ⟨h1,h2,h3,h4⟩:=spl_ok h
 obtain ⟨c1,c2,c3⟩:=chk_iff.1 h1
 obtain ⟨_,_,h5,h6⟩:=has_iff.1 h4
 refine chk_iff.2 ⟨h2,c2,?_⟩
 rcases h6 with h6 | h6
 · exact .inl h6
 · refine .inr ⟨?_,?_⟩
   · show lt r.hi k=false
     cases hh:lt r.hi k
     · rfl
     · have:=lt_trans' h6 hh
       rw [lt_irr] at this;cases this
   · intro e
     have e:r.hi=k:=e
     rw [e,lt_irr] at h6;cases h6
theorem ok_parts {p:Part} (h:partOk p=true):chkK p.rng=0/\p.epoch≠0/\isLog p.recs=true/\P.isTable p.prods=true/\isCons p.cons=true/\orFrom p 0=true/\p.prods.any (lostB p)=false/\p.cons.any (aheadB p.recs.length)=false:=by
 simp only [partOk,Bool.and_eq_true,Bool.not_eq_true',beq_iff_eq] at h
 obtain ⟨a,b,c,d,e,f,g,i⟩:=h
 exact ⟨a,by simpa using b,c,d,e,f,g,i⟩
theorem split_c (p:Part) (k:ByteArray) (hp:PartTy p) (hk:k.size<=9223372036854775807):(splitT p k).Sat (ACall' Tryz.prog 9 [.agg (encPt true p),.y (.string k)] []):=by
 refine ctr_vc (ht:=splH p k) Tryz.mixed rfl ?_
 rw [vcSplit_eq p k]
 unfold vcSplit vcSplit_q6 vcSplit_q5 vcSplit_q4 vcSplit_q3 vcSplit_q2 vcSplit_q1
 have eb:({ data:=#[] }:ByteArray)=ByteArray.empty:=rfl
 have hi:=hp.isIn
 rw [eb]
 cases h1:partOk p
 · have e1:splitE p k=172:=by simp [splitE,bad,h1]
   simp [e1,hi]
 · by_cases h2:IntKind.u64.wrap (p.epoch+1)=0
   · have e1:splitE p k=172:=by simp [splitE,bad,h1,h2]
     simp [e1,hi,h2]
   · by_cases h3:p.frozen=0
     · have e1:splitE p k=171:=by simp [splitE,bad,h1,h2,h3]
       simp [e1,hi,h2,h3]
     · have e1:splitE p k=splE p.rng k:=by simp [splitE,bad,h1,h2,h3]
       obtain ⟨o1,o2,o3,o4,o5,_⟩:=ok_parts h1
       by_cases h4:splE p.rng k=0
       · have c1:=low_chk h4
         have c2:=high_chk h4
         simp [e1,hi,h2,h3,h4,hk,c1,c2,hp,o3,o4,o5,partOf,rLow,rHigh]
         exact ⟨c1,c2⟩
       · simp [e1,hi,h2,h3,h4,hk]
end Go.Proofs.YtckklclehofddaaGreatDoor.D

namespace Go.Proofs.YtckklclehofddaaGreatDoor.D
open Go.Ax
set_option maxRecDepth 1000000
theorem sel_put (s:Kn) (a b x:Int):Kn.sel (Kn.put s a b) x=if a=x then b else Kn.sel s x:=by
 unfold Kn.sel Kn.put updHas updC selI
 by_cases h:a=x
 · simp [h]
 · simp [h]
end Go.Proofs.YtckklclehofddaaGreatDoor.D

namespace Go.Proofs.YtckklclehofddaaGreatDoor.D
open Go.Ax
set_option maxRecDepth 1000000
theorem map_len (l:List Con) (to:List Int) (h:to.length≠0):(mapU l to l.length).length=l.length:=by
 simp [mapU,h]
theorem map_at {l:List Con} {to:List Int} (h:to.length≠0) {k:Nat} (hk:k<l.length):(mapU l to l.length).getD k default=movC to (l.getD k default):=by
 simp [mapU,h,hk]
theorem cons_iff (l:List Con):coFrom l 0=true↔∀ k,k<l.length->coOk l k=true:=by
 unfold coFrom
 rw [List.all_eq_true]
 constructor
 · intro h k hk;exact h k (by simp;omega)
 · intro h k hk
   simp at hk
   exact h k (by omega)
theorem map_cons {l:List Con} {to:List Int} (ht:to.length≠0) (h:isCons l=true):isCons (mapU l to l.length)=true:=by
 simp only [isCons,Bool.and_eq_true,decide_eq_true_eq] at h ⊢
 rw [map_len l to ht]
 refine ⟨(cons_iff _).2 fun k hk=>?_,h.2⟩
 rw [map_len l to ht] at hk
 have h1:=(cons_iff _).1 h.1 k hk
 unfold coOk at *
 rw [map_at ht hk]
 by_cases h0:0<k
 · rw [map_at ht (show k - 1<l.length by omega)]
   exact h1
 · simp only [h0,decide_false,Bool.false_and] at h1 ⊢
   exact h1
end Go.Proofs.YtckklclehofddaaGreatDoor.D

namespace Go.Proofs.YtckklclehofddaaGreatDoor.D
open Go.Ax
set_option maxRecDepth 1000000
def frz (p:Part) (f:Int):Part:=⟨p.rng,p.epoch,f,p.recs,p.prods,p.cons⟩
end Go.Proofs.YtckklclehofddaaGreatDoor.D

namespace Go.Proofs.YtckklclehofddaaGreatDoor.D
open Go.Ax
set_option maxRecDepth 1000000
def two (a b:Part):AV:=.sl false 7 2 (fun k j=>get (encPt true a++encPt true b) (k*7+j))
def ifE (e:Int):AV:=.ifc 31 (.s (.int .i64 e))
def live2 (a b:Part):Bool:=a.frozen==0||b.frozen==0
def usT (a b:Part):T An:=.ite (bad a||bad b) (.ret (ifE 172,[],[])) (.ite (live2 a b) (.ret (ifE 171,[],[])) (.ret (.s .nilIface,[],[])))
noncomputable def usH (a b:Part):HintsT Tryz.prog:=withCa (hT _) (ca1 18 5 1 8 0 (pcC true a) (ca1 18 5 1 8 1 (pcC true b) noCa))
def vcUs (a b:Part):Prop :=
 ((ptLe true true a a)/\True)/\True/\PartIn a/\(partOk a=true->((IntKind.u64.wrap (a.epoch+1)==0)=true->((bad a||bad b)=true->(172:Int)=172/\True)/\((bad a||bad b)=false->(live2 a b=true->(172:Int)=171/\True)/\(live2 a b=false->False/\True)))/\((IntKind.u64.wrap (a.epoch+1)==0)=false->((a.frozen==0)=true->((ptLe true true b b)/\True)/\True/\PartIn b/\(partOk b=true->((IntKind.u64.wrap (b.epoch+1)==0)=true->((bad a||bad b)=true->(172:Int)=172/\True)/\((bad a||bad b)=false->(live2 a b=true->(172:Int)=171/\True)/\(live2 a b=false->False/\True)))/\((IntKind.u64.wrap (b.epoch+1)==0)=false->((b.frozen==0)=true->((bad a||bad b)=true->(171:Int)=172/\True)/\((bad a||bad b)=false->(live2 a b=true->(171:Int)=171/\True)/\(live2 a b=false->False/\True)))/\((b.frozen==0)=false->((bad a||bad b)=true->(171:Int)=172/\True)/\((bad a||bad b)=false->(live2 a b=true->(171:Int)=171/\True)/\(live2 a b=false->False/\True)))))/\(partOk b=false->((bad a||bad b)=true->(172:Int)=172/\True)/\((bad a||bad b)=false->(live2 a b=true->(172:Int)=171/\True)/\(live2 a b=false->False/\True))))/\((a.frozen==0)=false->((ptLe true true b b)/\True)/\True/\PartIn b/\(partOk b=true->((IntKind.u64.wrap (b.epoch+1)==0)=true->((bad a||bad b)=true->(172:Int)=172/\True)/\((bad a||bad b)=false->(live2 a b=true->(172:Int)=171/\True)/\(live2 a b=false->False/\True)))/\((IntKind.u64.wrap (b.epoch+1)==0)=false->((b.frozen==0)=true->((bad a||bad b)=true->(171:Int)=172/\True)/\((bad a||bad b)=false->(live2 a b=true->(171:Int)=171/\True)/\(live2 a b=false->False/\True)))/\((b.frozen==0)=false->((bad a||bad b)=true->False/\True)/\((bad a||bad b)=false->(live2 a b=true->False/\True)/\(live2 a b=false->True/\True)))))/\(partOk b=false->((bad a||bad b)=true->(172:Int)=172/\True)/\((bad a||bad b)=false->(live2 a b=true->(172:Int)=171/\True)/\(live2 a b=false->False/\True))))))/\(partOk a=false->((bad a||bad b)=true->(172:Int)=172/\True)/\((bad a||bad b)=false->(live2 a b=true->(172:Int)=171/\True)/\(live2 a b=false->False/\True)))
theorem vcUs_eq (a b:Part):(ctrVC Tryz.prog (usH a b) 18 [two a b] [] (usT a b))=vcUs a b:=by kernel_rfl
def kmE (a b:Rng):Int:=if !(chkK a==0) then chkK a else if !(chkK b==0) then chkK b else if (a.hi.data.toList==[]||a.hi.data.toList != b.lo.data.toList)=true then 133 else 0
def kmT (a b:Rng):T An:=.ite (kmE a b==0)
 (.ret (.tup [.agg (encG ⟨a.lo,b.hi⟩),.s (.int .i64 0)],[],[]))
 (.ret (.tup [.agg (encG default),.y (.int .i64 (kmE a b))],[],[]))
noncomputable def kmH (a b:Rng):HintsT Tryz.prog:=withCa (hT _) (ca1 55 4 1 13 0 (chkC a) (ca1 55 4 1 13 1 (chkC b) noCa))
def vcKm (a b:Rng):Prop :=
 ((a.lo=a.lo/\a.hi=a.hi/\True)/\True)/\True/\((chkK a != 0)=true->((kmE a b==0)=true->(({ data:=#[]:ByteArray }=a.lo/\{ data:=#[]:ByteArray }=b.hi/\True)/\chkK a=0/\True)/\True)/\((kmE a b==0)=false->(({ data:=#[]:ByteArray }=ByteArray.empty/\{ data:=#[]:ByteArray }=ByteArray.empty/\True)/\chkK a=kmE a b/\True)/\True))/\((chkK a != 0)=false->((b.lo=b.lo/\b.hi=b.hi/\True)/\True)/\True/\((chkK b != 0)=true->((kmE a b==0)=true->(({ data:=#[]:ByteArray }=a.lo/\{ data:=#[]:ByteArray }=b.hi/\True)/\chkK b=0/\True)/\True)/\((kmE a b==0)=false->(({ data:=#[]:ByteArray }=ByteArray.empty/\{ data:=#[]:ByteArray }=ByteArray.empty/\True)/\chkK b=kmE a b/\True)/\True))/\((chkK b != 0)=false->((a.hi.data.toList==[])=true->((kmE a b==0)=true->(({ data:=#[]:ByteArray }=a.lo/\{ data:=#[]:ByteArray }=b.hi/\True)/\(133:Int)=0/\True)/\True)/\((kmE a b==0)=false->(({ data:=#[]:ByteArray }=ByteArray.empty/\{ data:=#[]:ByteArray }=ByteArray.empty/\True)/\133=kmE a b/\True)/\True))/\((a.hi.data.toList==[])=false->((!(a.hi.data.toList==b.lo.data.toList&&true))=true->((kmE a b==0)=true->(({ data:=#[]:ByteArray }=a.lo/\{ data:=#[]:ByteArray }=b.hi/\True)/\(133:Int)=0/\True)/\True)/\((kmE a b==0)=false->(({ data:=#[]:ByteArray }=ByteArray.empty/\{ data:=#[]:ByteArray }=ByteArray.empty/\True)/\133=kmE a b/\True)/\True))/\((!(a.hi.data.toList==b.lo.data.toList&&true))=false->((kmE a b==0)=true->((a.lo=a.lo/\b.hi=b.hi/\True)/\(0:Int)=0/\True)/\True)/\((kmE a b==0)=false->((a.lo=ByteArray.empty/\b.hi=ByteArray.empty/\True)/\0=kmE a b/\True)/\True)))))
theorem vcKm_eq (a b:Rng):(ctrVC Tryz.prog (kmH a b) 55 [.agg (encG a),.agg (encG b)] [] (kmT a b))=vcKm a b:=by kernel_rfl
theorem us_c (a b:Part) (ha:PartTy a) (hb:PartTy b):(usT a b).Sat (ACall' Tryz.prog 18 [two a b] []):=by
 refine ctr_vc (ht:=usH a b) Tryz.mixed rfl ?_
 rw [vcUs_eq a b]
 unfold vcUs
 have h1:=ha.isIn
 have h2:=hb.isIn
 unfold bad live2
 by_cases q1:IntKind.u64.wrap (a.epoch+1)=0<;>by_cases q2:IntKind.u64.wrap (b.epoch+1)=0<;>by_cases q3:a.frozen=0<;>by_cases q4:b.frozen=0<;>cases partOk a<;>cases partOk b<;>simp [h1,h2,q1,q2,q3,q4]
theorem km_c (a b:Rng):(kmT a b).Sat (ACall' Tryz.prog 55 [.agg (encG a),.agg (encG b)] []):=by
 refine ctr_vc (ht:=kmH a b) Tryz.mixed rfl ?_
 rw [vcKm_eq a b]
 unfold vcKm kmE
 have eb:({ data:=#[] }:ByteArray)=ByteArray.empty:=rfl
 rw [eb]
 have e3:(a.hi.data.toList != b.lo.data.toList)=!(a.hi.data.toList==b.lo.data.toList):=rfl
 rw [e3]
 generalize (a.hi.data.toList==[])=q
 generalize (a.hi.data.toList==b.lo.data.toList)=r
 by_cases h1:chkK a=0<;>by_cases h2:chkK b=0<;>cases q<;>cases r<;>simp [h1,h2]
theorem ret_as {P:Program} {g:FuncId} {args:List AV} {m M:List Blk} {mv:List Nat} {r r':AV} (hr:∀ H E v,Rel r H E v->Rel r' H E v) (h:(T.ret (r,M,mv):T An).Sat (ACall' P g args m)):(T.ret (r',M,mv):T An).Sat (ACall' P g args m):=by
 obtain ⟨a,ha,rfl⟩:=h (fun a=>a=(r,M,mv)) rfl
 refine T.Sat.ret fun H E w vals hC hargs=>(ha H E w vals hC hargs).mono ?_
 rintro e w' ⟨v,H1,E1,q1,q2,q3⟩
 exact ⟨v,H1,E1,q1,hr _ _ _ q2,q3⟩
noncomputable def usC0 (a b:Part):Ctr Tryz.prog:=⟨18,[two a b],[],.need (PartTy a/\PartTy b/\bad a=false/\bad b=false/\live2 a b=false) (.ret (.s .nilIface,[],[])),T.Sat.need fun h=>by
 obtain ⟨h1,h2,h3,h4,h5⟩:=h
 have:=us_c a b h1 h2
 unfold usT at this
 rw [h3,h4,h5] at this
 intro Q hq
 exact this Q ⟨fun e=>by simp at e,fun _=>⟨fun e=>by simp at e,fun _=>hq⟩⟩⟩
noncomputable def usC171 (a b:Part):Ctr Tryz.prog:=⟨18,[two a b],[],.need (PartTy a/\PartTy b/\bad a=false/\bad b=false/\live2 a b=true) (.ret (ifE 171,[],[])),T.Sat.need fun h=>by
 obtain ⟨h1,h2,h3,h4,h5⟩:=h
 have:=us_c a b h1 h2
 unfold usT at this
 rw [h3,h4,h5] at this
 intro Q hq
 exact this Q ⟨fun e=>by simp at e,fun _=>⟨fun _=>hq,fun e=>by simp at e⟩⟩⟩
noncomputable def usC172 (a b:Part):Ctr Tryz.prog:=⟨18,[two a b],[],.need (PartTy a/\PartTy b/\(bad a||bad b)=true) (.ret (ifE 172,[],[])),T.Sat.need fun h=>by
 obtain ⟨h1,h2,h3⟩:=h
 have:=us_c a b h1 h2
 unfold usT at this
 rw [h3] at this
 intro Q hq
 exact this Q ⟨fun _=>hq,fun e=>by simp at e⟩⟩
noncomputable def kmC0 (a b:Rng):Ctr Tryz.prog:=⟨55,[.agg (encG a),.agg (encG b)],[],.need (kmE a b=0) (.ret (.tup [.agg (encG ⟨a.lo,b.hi⟩),.s (.int .i64 0)],[],[])),T.Sat.need fun h=>by
 have:=km_c a b
 unfold kmT at this
 rw [h] at this
 intro Q hq
 exact this Q ⟨fun _=>hq,fun e=>by simp at e⟩⟩
noncomputable def kmC1 (a b:Rng):Ctr Tryz.prog:=⟨55,[.agg (encG a),.agg (encG b)],[],.need (kmE a b=133) (.ret (.tup [.agg (encG default),.s (.int .i64 133)],[],[])),T.Sat.need fun h=>by
 have:=km_c a b
 unfold kmT at this
 rw [h] at this
 refine ret_as (r:=.tup [.agg (encG default),.y (.int .i64 133)]) (fun _ _ _ h=>h) fun Q hq=>?_
 exact this Q ⟨fun e=>by simp at e,fun _=>hq⟩⟩
end Go.Proofs.YtckklclehofddaaGreatDoor.D

namespace Go.Proofs.YtckklclehofddaaGreatDoor.H
open Go.Ax Go.Proofs.YtckklclehofddaaGreatDoor
set_option maxRecDepth 1000000
def trRec (x:Rec) (j:Nat):Tr:=match j with
 | 0=>.av (.y (.int .u64 x.off))
 | 1=>.av (.y (.string x.key))
 | 2=>.frow 5 1 x.val.length (cellsOf' encB x.val)
 | 3=>.av (.y (.int .u64 x.prod))
 | 4=>.av (.y (.int .u64 x.seq))
 | _=>.av .junk
def trRs (l:List Rec) (k:Nat):Nat->Tr:=trRec (l.getD k default)
def zR:List Value:=[.int .u64 0,.string ⟨#[]⟩,.slice none 0 0,.int .u64 0,.int .u64 0]
def towN (l:List Rec) (k:Nat):Blk:=.trow 37 5 k none (trRs l) [] zR
def towR (l:List Rec):Blk:=towN l l.length
def recW (x:Rec):T An:=.ret (.agg [.y (.int .u64 x.off),.y (.string x.key),.own 0 1 0 x.val.length,.y (.int .u64 x.prod),.y (.int .u64 x.seq)],[.row 5 1 x.val.length none (cellsOf' encB x.val)],[])
noncomputable def owwH (b:Bool) (x:Rec):HintsT Tryz.prog:=withSh (hh _ noLp (cs1 52 1 4 (clnC true x.val.length (cellsOf' encB x.val)) noCs) noOp) noSh
def vcOww (x:Rec) (o:Int):Prop :=
 ((bsLe x.val x.val)/\True)/\True/\x.val.length<=140737488355328/\(IntKind.u64.wrap o=IntKind.u64.wrap o/\x.key=x.key/\(0=0/\x.val.length=x.val.length)/\x.prod=x.prod/\x.seq=x.seq/\True)/\(x.val.length=x.val.length/\contLe x.val.length 1 (cellsOf' encB x.val) (cellsOf' encB x.val))/\True
theorem vcOww_eq (x:Rec) (o:Int):(ctrVC Tryz.prog (owwH true x) 52 [.agg (encR x),.y (.int .i64 o)] [] (recW (x.to (IntKind.u64.wrap o))))=vcOww x o:=by kernel_rfl
theorem oww_c (x:Rec) (o:Int) (h:x.val.length<=140737488355328):(recW (x.to (IntKind.u64.wrap o))).Sat (ACall' Tryz.prog 52 [.agg (encR x),.y (.int .i64 o)] []):=by
 refine ctr_vc (ht:=owwH true x) Tryz.mixed rfl ?_
 rw [vcOww_eq x o]
 unfold vcOww
 simp [h,Rec.to]
noncomputable def owwC (x:Rec) (o:Int):Ctr Tryz.prog:=⟨52,[.agg (encR x),.y (.int .i64 o)],[],.need (x.val.length<=140737488355328) (recW (x.to (IntKind.u64.wrap o))),T.Sat.need fun h=>oww_c x o h⟩
end Go.Proofs.YtckklclehofddaaGreatDoor.H

namespace Go.Proofs.YtckklclehofddaaGreatDoor.H
open Go.Ax Go.Proofs.YtckklclehofddaaGreatDoor
set_option maxRecDepth 1000000
end Go.Proofs.YtckklclehofddaaGreatDoor.H

namespace Go.Proofs.YtckklclehofddaaGreatDoor.H
open Go.Ax Go.Proofs.YtckklclehofddaaGreatDoor
set_option maxRecDepth 1000000
def encF (x:Rec):List AV:=[.y (.int .u64 x.off),.y (.string x.key),encBs false x.val,.y (.int .u64 x.prod),.y (.int .u64 x.seq)]
def encFs (b:Bool) (l:List Rec):AV:=.ys b 5 l.length (cellsOf' encF l)
def sfT (b1 b2:Bool) (a:List Rec) (k:Nat):List AV:=mkT 82 [(0,encFs b1 a),(1,encRs b2 a),(5,.y (.int .i64 k))]
def sfS (_:Unit):Exit×List AV×List Blk:=(.exit 0,mkT 82 [],[])
def vcSfL (b1:Bool) (b2:Bool) (a:List Rec) (k:Nat):Prop :=
 (decide ((↑k:Int)<(↑(List.length a):Int))=true->(true&&decide ((↑k:Int)<(↑(List.length a):Int)))=true/\(true&&decide ((↑k:Int)<(↑(List.length a):Int)))=true/\(((List.getD a (Int.toNat (↑k:Int)) (@default Rec instInhabitedRec)).off != (List.getD a (Int.toNat (↑k:Int)) (@default Rec instInhabitedRec)).off)=true->False)/\(((List.getD a (Int.toNat (↑k:Int)) (@default Rec instInhabitedRec)).off != (List.getD a (Int.toNat (↑k:Int)) (@default Rec instInhabitedRec)).off)=false->(true&&decide ((↑k:Int)<(↑(List.length a):Int)))=true/\(true&&decide ((↑k:Int)<(↑(List.length a):Int)))=true/\((!(List.getD a (Int.toNat (↑k:Int)) (@default Rec instInhabitedRec)).key.data.toList==(List.getD a (Int.toNat (↑k:Int)) (@default Rec instInhabitedRec)).key.data.toList)=true->False)/\((!(List.getD a (Int.toNat (↑k:Int)) (@default Rec instInhabitedRec)).key.data.toList==(List.getD a (Int.toNat (↑k:Int)) (@default Rec instInhabitedRec)).key.data.toList)=false->(true&&decide ((↑k:Int)<(↑(List.length a):Int)))=true/\(∀ (k_1:Nat),k_1<List.length (List.getD a (Int.toNat (↑k:Int)) (@default Rec instInhabitedRec)).val->true=true)/\(true&&decide ((↑k:Int)<(↑(List.length a):Int)))=true/\(∀ (k_1:Nat),k_1<List.length (List.getD a (Int.toNat (↑k:Int)) (@default Rec instInhabitedRec)).val->true=true)/\((!List.map (fun (a:AV)=>match match a with | AV.s (Value.int IntKind.u8 n)=>some n | AV.y (Value.int IntKind.u8 n)=>some n | x=>none with | some n=>UInt8.ofNat (Int.toNat n) | none=>(0:UInt8)) (List.map (fun (k_1:Nat)=>AV.y (Value.int IntKind.u8 (List.getD (List.getD a (Int.toNat (↑k:Int)) (@default Rec instInhabitedRec)).val k_1 (0:Int)))) (List.range (List.length (List.getD a (Int.toNat (↑k:Int)) (@default Rec instInhabitedRec)).val)))==List.map (fun (a:AV)=>match match a with | AV.s (Value.int IntKind.u8 n)=>some n | AV.y (Value.int IntKind.u8 n)=>some n | x=>none with | some n=>UInt8.ofNat (Int.toNat n) | none=>(0:UInt8)) (List.map (fun (k_1:Nat)=>AV.y (Value.int IntKind.u8 (List.getD (List.getD a (Int.toNat (↑k:Int)) (@default Rec instInhabitedRec)).val k_1 (0:Int)))) (List.range (List.length (List.getD a (Int.toNat (↑k:Int)) (@default Rec instInhabitedRec)).val))))=true->False)/\((!List.map (fun (a:AV)=>match match a with | AV.s (Value.int IntKind.u8 n)=>some n | AV.y (Value.int IntKind.u8 n)=>some n | x=>none with | some n=>UInt8.ofNat (Int.toNat n) | none=>(0:UInt8)) (List.map (fun (k_1:Nat)=>AV.y (Value.int IntKind.u8 (List.getD (List.getD a (Int.toNat (↑k:Int)) (@default Rec instInhabitedRec)).val k_1 (0:Int)))) (List.range (List.length (List.getD a (Int.toNat (↑k:Int)) (@default Rec instInhabitedRec)).val)))==List.map (fun (a:AV)=>match match a with | AV.s (Value.int IntKind.u8 n)=>some n | AV.y (Value.int IntKind.u8 n)=>some n | x=>none with | some n=>UInt8.ofNat (Int.toNat n) | none=>(0:UInt8)) (List.map (fun (k_1:Nat)=>AV.y (Value.int IntKind.u8 (List.getD (List.getD a (Int.toNat (↑k:Int)) (@default Rec instInhabitedRec)).val k_1 (0:Int)))) (List.range (List.length (List.getD a (Int.toNat (↑k:Int)) (@default Rec instInhabitedRec)).val))))=false->(true&&decide ((↑k:Int)<(↑(List.length a):Int)))=true/\(true&&decide ((↑k:Int)<(↑(List.length a):Int)))=true/\(((List.getD a (Int.toNat (↑k:Int)) (@default Rec instInhabitedRec)).prod != (List.getD a (Int.toNat (↑k:Int)) (@default Rec instInhabitedRec)).prod)=true->False)/\(((List.getD a (Int.toNat (↑k:Int)) (@default Rec instInhabitedRec)).prod != (List.getD a (Int.toNat (↑k:Int)) (@default Rec instInhabitedRec)).prod)=false->(true&&decide ((↑k:Int)<(↑(List.length a):Int)))=true/\(true&&decide ((↑k:Int)<(↑(List.length a):Int)))=true/\(((List.getD a (Int.toNat (↑k:Int)) (@default Rec instInhabitedRec)).seq != (List.getD a (Int.toNat (↑k:Int)) (@default Rec instInhabitedRec)).seq)=true->False)/\(((List.getD a (Int.toNat (↑k:Int)) (@default Rec instInhabitedRec)).seq != (List.getD a (Int.toNat (↑k:Int)) (@default Rec instInhabitedRec)).seq)=false->∃ (j:Nat),List.length a - j<List.length a - k/\(((b1=b1/\List.length a=List.length a/\contLe (List.length a) (5:Nat) (cellsOf' encF a) (cellsOf' encF a))/\(b2=b2/\List.length a=List.length a/\contLe (List.length a) (5:Nat) (cellsOf' encR a) (cellsOf' encR a))/\IntKind.wrap IntKind.i64 ((↑k:Int)+(1:Int))=(↑j:Int)/\True)/\True/\true=true)/\true=true/\()=()))))))/\(decide ((↑k:Int)<(↑(List.length a):Int))=false->True/\True/\true=true)
theorem vcSfL_eq (b1:Bool) (b2:Bool) (a:List Rec) (k:Nat):(loopVC Tryz.prog (hT _) 25 4 (fun k=>a.length - k) (sfT b1 b2 a) (fun _=>[]) [0] (fun _=>.ret ()) sfS k)=vcSfL b1 b2 a k:=by kernel_rfl
noncomputable def sfH (b1 b2:Bool) (a:List Rec):HintsT Tryz.prog:=hh _ (lp1 25 4 (jobOf (sfT b1 b2 a) (fun _=>[]) [0] (fun _=>.ret ()) sfS 0) noLp) noCs noOp
def vcSf (b1:Bool) (b2:Bool) (a:List Rec):Prop :=
 (((a.length:Int) != (a.length:Int))=true->false=true/\True)/\(((a.length:Int) != (a.length:Int))=false->(((b1=b1/\a.length=a.length/\contLe a.length 5 (cellsOf' encF a) (cellsOf' encF a))/\(b2=b2/\a.length=a.length/\contLe a.length 5 (cellsOf' encR a) (cellsOf' encR a))/\(0:Int)=0/\True)/\True/\true=true)/\LoopOk Tryz.prog 25 4 (loopAt Tryz.prog 25 4) { t:=sfT b1 b2 a 0,m:=[],mv:=[]:St } (T.map (lout [0] sfS) ((fun (x:Nat)=>T.ret ()) 0))/\true=true/\True)
theorem vcSf_eq (b1:Bool) (b2:Bool) (a:List Rec):(ctrVC Tryz.prog (sfH b1 b2 a) 25 [encFs b1 a,encRs b2 a] [] (boolR true))=vcSf b1 b2 a:=by kernel_rfl
theorem sf_loop (b1 b2:Bool) (a:List Rec) (hl:a.length<=9223372036854775806) (k:Nat):LoopOk Tryz.prog 25 4 (loopAt Tryz.prog 25 4) ⟨sfT b1 b2 a k,[],[]⟩ (T.map (lout [0] sfS) (.ret ())):=by
 refine loop_vc (o:=fun _=>.ret ()) Tryz.mixed (fun _=>rfl) (fun k=>(vcSfL_eq b1 b2 a k).mpr ?_) k
 unfold vcSfL
 simp
 intro h
 have hb:∀ q:Nat,isU8 (cellsOf' encB (a[k]?.getD default).val q 0)=true:=fun _=>rfl
 simp [h,hb]
 exact ⟨k+1,by omega,by rw [wrap_i64 (by omega) (by omega)];omega⟩
theorem sf_c (b1 b2:Bool) (a:List Rec) (hl:a.length<=9223372036854775806):(boolR true).Sat (ACall' Tryz.prog 25 [encFs b1 a,encRs b2 a] []):=by
 refine ctr_vc (ht:=sfH b1 b2 a) Tryz.mixed rfl ?_
 rw [vcSf_eq b1 b2 a]
 unfold vcSf
 simp [sf_loop b1 b2 a hl 0]
noncomputable def sfC (b1 b2:Bool) (a b:List Rec):Ctr Tryz.prog:=⟨25,[encFs b1 a,encRs b2 b],[],.need (a.length<=9223372036854775806/\a=b) (boolR true),T.Sat.need fun h=>by obtain ⟨h1,rfl⟩:=h;exact sf_c b1 b2 a h1⟩
def loT (b:Bool) (l:List Rec) (k:Nat):List AV:=mkT 30 [(0,encRs b l),(3,.own 0 5 0 k),(4,.y (.int .i64 k))]
def loS (l:List Rec) (_:Unit):Exit×List AV×List Blk:=(.exit 0,mkT 30 [(3,.own 0 5 0 l.length)],[rowR l])
def incR (x:Rec) (k:Nat):Rec:=⟨x.off,x.key,(x.val.take k).map (fun v=>IntKind.u8.wrap (v+1))++x.val.drop k,x.prod,x.seq⟩
def incF (f:Nat->Rec) (i k:Nat):Nat->Rec:=fun p=>if p=i then incR (f i) k else f p
end Go.Proofs.YtckklclehofddaaGreatDoor.H

namespace Go.Proofs.YtckklclehofddaaGreatDoor.H
open Go.Ax Go.Proofs.YtckklclehofddaaGreatDoor
set_option maxRecDepth 1000000
theorem incR_len (x:Rec) (k:Nat):(incR x k).val.length=x.val.length:=by simp [incR];omega
theorem incR_set (x:Rec) {k:Nat} (h:k<x.val.length):(incR x (k+1)).val=(incR x k).val.set k (IntKind.u8.wrap ((incR x k).val.getD k 0+1)):=by
 refine List.ext_getElem? fun q=>?_
 simp only [incR,List.getElem?_set,List.getElem?_append,List.length_map,List.length_take,List.length_append,List.length_drop,List.getElem?_map,List.getElem?_take,List.getElem?_drop,List.getD_eq_getElem?_getD]
 have hm:min k x.val.length=k:=by omega
 have hm1:min (k+1) x.val.length=k+1:=by omega
 rw [hm,hm1]
 by_cases h1:q<k
 · have:q≠k:=by omega
   have h2:q<k+1:=by omega
   simp [h1,h2,Ne.symm this]
 · by_cases h2:q=k
   · subst h2
     have h3:q<q+(x.val.length - q):=by omega
     simp [h,h3]
   · have h3:¬ q<k+1:=by omega
     simp [h1,h3,Ne.symm h2]
     congr 1
     omega
theorem incF_at (f:Nat->Rec) (i k:Nat):incF f i k i=incR (f i) k:=if_pos rfl
theorem incF_ne (f:Nat->Rec) {i k p:Nat} (h:¬ p=i):incF f i k p=f p:=if_neg h
structure SpOk (l:List Rec):Prop where
 v:∀ k,k<l.length->(l.getD k default).val.length<=140737488355328
end Go.Proofs.YtckklclehofddaaGreatDoor.H
