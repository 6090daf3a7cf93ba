import Derived.Test.YtnbhdjadlbhknaaGreatDoorW1
import Derived.Test.YtnbhdjadlbhknaaGreatDoorW3
set_option linter.unusedVariables false
set_option linter.unusedSimpArgs false
set_option maxRecDepth 1000000
namespace Go.Proofs.YtnbhdjadlbhknaaGreatDoor
open Go.Ax
section
def cB (p:Part) (x:P.Producer):Bool:=x.here&&(decide ((p.recs.length:Int)<=x.offset)||((p.recs.getD x.offset.toNat default).prod != x.id||(p.recs.getD x.offset.toNat default).seq != x.seq))
def Ny (b:Bool) (p:Part):List AV:=[.ip false 1 (get [.y (.int .u64 (IntKind.u64.wrap p.recs.length))]),.ip false 7 (get (aX b p))]
def TS (b:Bool) (p:Part) (x:P.Producer):Prop :=
 (x.here=true->(decide (IntKind.u64.wrap (p.recs.length:Int)<=x.offset)=true->true=cB p x/\True)/\(decide (IntKind.u64.wrap (p.recs.length:Int)<=x.offset)=false->(decide (0<=x.offset)&&decide (x.offset<(p.recs.length:Int)))=true/\(((p.recs.getD (Int.toNat x.offset) default).prod != x.id)=true->true=cB p x/\True)/\(((p.recs.getD (Int.toNat x.offset) default).prod != x.id)=false->(decide (0<=x.offset)&&decide (x.offset<(p.recs.length:Int)))=true/\((p.recs.getD (Int.toNat x.offset) default).seq != x.seq)=cB p x/\True)))/\(x.here=false->false=cB p x/\True)
theorem OC (b:Bool) (p:Part) (x:P.Producer):(bf Tryz.prog (hT _) 42 ([.agg (P.ak x)]++Ny b p) [] (aZ (cB p x)))=TS b p x:=by kernel_rfl
def bY (n:Nat) (x:Con):Bool:=decide ((n:Int)<x.off)
def EG (n:Nat):List AV:=[.ip false 1 (get [.y (.int .u64 (IntKind.u64.wrap n))])]
def Lx (n:Nat) (x:Con):Prop :=
 decide (IntKind.u64.wrap (n:Int)<x.off)=bY n x/\True
theorem J5 (n:Nat) (x:Con):(bf Tryz.prog (hT _) 43 ([.agg (aD x)]++EG n) [] (aZ (bY n x)))=Lx n x:=by kernel_rfl
theorem acA (b:Bool) (p:Part) (x:P.Producer) (h1:p.recs.length<=9223372036854775806) (h2:0<=x.offset):(aZ (cB p x)).Sat (aB Tryz.prog 42 ([.agg (P.ak x)]++Ny b p) []):=by
 refine aP (ht:=hT _) Tryz.mixed rfl ?_
 rw [OC b p x]
 unfold TS
 have hw:IntKind.u64.wrap (p.recs.length:Int)=p.recs.length:=wrap_u64 (by omega) (by omega)
 simp only [hw]
 unfold cB
 generalize p.recs.getD x.offset.toNat default=y
 cases hh:x.here
 · simp
 · by_cases h3:(p.recs.length:Int)<=x.offset
   · simp [h3]
   · have h4:x.offset<p.recs.length:=by omega
     by_cases h5:y.prod=x.id<;>by_cases h6:y.seq=x.seq<;>simp [h3,h4,h2,h5,h6]
theorem Yf (n:Nat) (x:Con) (h1:n<=9223372036854775806):(aZ (bY n x)).Sat (aB Tryz.prog 43 ([.agg (aD x)]++EG n) []):=by
 refine aP (ht:=hT _) Tryz.mixed rfl ?_
 rw [J5 n x]
 unfold Lx
 have hw:IntKind.u64.wrap (n:Int)=n:=wrap_u64 (by omega) (by omega)
 simp [hw,bY]
def Zw (b:Bool) (p:Part):AV:=.fn (.func 42) [] (Ny b p)
def iD (b:Bool) (p:Part) (l:List P.Producer):Bool:=l.any (cB p)
theorem PG (b:Bool) (p:Part):iD b p []=false:=rfl
theorem Kq (b:Bool) (p:Part) (y:P.Producer) (l:List P.Producer):iD b p (y::l)=(cB p y||iD b p l):=rfl
noncomputable def loC (b:Bool) (p:Part) (x:P.Producer):dZ Tryz.prog:=⟨42,[.agg (P.ak x)]++(Ny b p),[],.need (p.recs.length<=9223372036854775806/\0<=x.offset) (aZ (cB p x)),T.Sat.need fun h=>acA b p x h.1 h.2⟩
def loT (b:Bool) (p:Part) (bb:Bool) (l:List P.Producer) (k:Nat):List AV:=mkT 19 [(0,.ys bb 4 l.length (ah P.ak l)),(1,Zw b p),(4,.s (.int .i64 0)),(7,.y (.int .i64 l.length)),(8,.y (.int .i64 k))]
def loS (r:Bool×Nat):Exit×List AV×List ay:=match r.1 with
 | true=>(.ret,mkT 19 [(4,.y (.int .i64 r.2))],[])
 | false=>(.exit 0,mkT 19 [],[])
def loO (b:Bool) (p:Part) (l:List P.Producer) (k:Nat):T (Bool×Nat):=.ite (iD b p (l.drop k)) (.ret (true,k+(l.drop k).findIdx (cB p))) (.ret (false,0))
noncomputable def ahb (b:Bool) (p:Part) (l:List P.Producer) (k:Nat):aC Tryz.prog:=hh _ bO (cs1 116 4 5 (loC b p (l.getD k default)) bN) bM
def abH (b:Bool) (p:Part) (bb:Bool) (l:List P.Producer) (k:Nat):Prop :=
 (decide ((↑k:Int)<(↑(List.length l):Int))=true->(true&&decide ((↑k:Int)<(↑(List.length l):Int)))=true/\(((List.getD l (Int.toNat (↑k:Int)) (@default P.Producer P.instInhabitedProducer)).id=(List.getD l k (@default P.Producer P.instInhabitedProducer)).id/\(List.getD l (Int.toNat (↑k:Int)) (@default P.Producer P.instInhabitedProducer)).seq=(List.getD l k (@default P.Producer P.instInhabitedProducer)).seq/\(List.getD l (Int.toNat (↑k:Int)) (@default P.Producer P.instInhabitedProducer)).here=(List.getD l k (@default P.Producer P.instInhabitedProducer)).here/\(List.getD l (Int.toNat (↑k:Int)) (@default P.Producer P.instInhabitedProducer)).offset=(List.getD l k (@default P.Producer P.instInhabitedProducer)).offset/\True)/\(false=false/\(1:Nat)<=(1:Nat)/\gq (1:Nat) (Ax.get [AV.y (Value.int IntKind.u64 (IntKind.wrap IntKind.u64 (↑(List.length p.recs):Int)))]) (Ax.get [AV.y (Value.int IntKind.u64 (IntKind.wrap IntKind.u64 (↑(List.length p.recs):Int)))]))/\(false=false/\(7:Nat)<=(7:Nat)/\gq (7:Nat) (Ax.get [AV.y (Value.string p.rng.lo),AV.y (Value.string p.rng.hi),AV.y (Value.int IntKind.u64 p.epoch),AV.y (Value.int IntKind.u64 p.frozen),AV.ys b (5:Nat) (List.length p.recs) (ah encR p.recs),AV.ys b (4:Nat) (List.length p.prods) (ah P.ak p.prods),AV.ys b (2:Nat) (List.length p.cons) (ah aD p.cons)]) (Ax.get [AV.y (Value.string p.rng.lo),AV.y (Value.string p.rng.hi),AV.y (Value.int IntKind.u64 p.epoch),AV.y (Value.int IntKind.u64 p.frozen),AV.ys b (5:Nat) (List.length p.recs) (ah encR p.recs),AV.ys b (4:Nat) (List.length p.prods) (ah P.ak p.prods),AV.ys b (2:Nat) (List.length p.cons) (ah aD p.cons)]))/\True)/\True/\(List.length p.recs<=(9223372036854775806:Nat)/\(0:Int)<=(List.getD l k (@default P.Producer P.instInhabitedProducer)).offset)/\(cB p (List.getD l k (@default P.Producer P.instInhabitedProducer))=true->(iD b p (List.drop k l)=true->((↑k:Int)=(↑(k+List.findIdx (cB p) (List.drop k l)):Int)/\True)/\True/\true=true)/\(iD b p (List.drop k l)=false->False))/\(cB p (List.getD l k (@default P.Producer P.instInhabitedProducer))=false->∃ (j:Nat),List.length l - j<List.length l - k/\(((bb=bb/\List.length l=List.length l/\aj (List.length l) (4:Nat) (ah P.ak l) (ah P.ak l))/\(True/\(false=false/\(1:Nat)<=(1:Nat)/\gq (1:Nat) (Ax.get [AV.y (Value.int IntKind.u64 (IntKind.wrap IntKind.u64 (↑(List.length p.recs):Int)))]) (Ax.get [AV.y (Value.int IntKind.u64 (IntKind.wrap IntKind.u64 (↑(List.length p.recs):Int)))]))/\(false=false/\(7:Nat)<=(7:Nat)/\gq (7:Nat) (Ax.get [AV.y (Value.string p.rng.lo),AV.y (Value.string p.rng.hi),AV.y (Value.int IntKind.u64 p.epoch),AV.y (Value.int IntKind.u64 p.frozen),AV.ys b (5:Nat) (List.length p.recs) (ah encR p.recs),AV.ys b (4:Nat) (List.length p.prods) (ah P.ak p.prods),AV.ys b (2:Nat) (List.length p.cons) (ah aD p.cons)]) (Ax.get [AV.y (Value.string p.rng.lo),AV.y (Value.string p.rng.hi),AV.y (Value.int IntKind.u64 p.epoch),AV.y (Value.int IntKind.u64 p.frozen),AV.ys b (5:Nat) (List.length p.recs) (ah encR p.recs),AV.ys b (4:Nat) (List.length p.prods) (ah P.ak p.prods),AV.ys b (2:Nat) (List.length p.cons) (ah aD p.cons)]))/\True)/\(0:Int)=(0:Int)/\(↑(List.length l):Int)=(↑(List.length l):Int)/\IntKind.wrap IntKind.i64 ((↑k:Int)+(1:Int))=(↑j:Int)/\True)/\True/\true=true)/\true=true/\(iD b p (List.drop j l)=true->(iD b p (List.drop k l)=true->(true,j+List.findIdx (cB p) (List.drop j l))=(true,k+List.findIdx (cB p) (List.drop k l)))/\(iD b p (List.drop k l)=false->(true,j+List.findIdx (cB p) (List.drop j l))=(false,(0:Nat))))/\(iD b p (List.drop j l)=false->(iD b p (List.drop k l)=true->(false,(0:Nat))=(true,k+List.findIdx (cB p) (List.drop k l)))/\(iD b p (List.drop k l)=false->(false,(0:Nat))=(false,(0:Nat))))))/\(decide ((↑k:Int)<(↑(List.length l):Int))=false->(iD b p (List.drop k l)=true->False)/\(iD b p (List.drop k l)=false->True/\True/\true=true))
theorem Tx (b:Bool) (p:Part) (bb:Bool) (l:List P.Producer) (k:Nat):(bP Tryz.prog (ahb b p l k) 116 2 (fun k=>l.length - k) (loT b p bb l) (fun _=>[]) [0] (loO b p l) loS k)=abH b p bb l k:=by kernel_rfl
theorem ZO (b:Bool) (p:Part) (bb:Bool) (l:List P.Producer) (hl:l.length<=9223372036854775806) (hn:∀ k,k<l.length->(p.recs.length<=9223372036854775806/\0<=(l.getD k default).offset)) (k:Nat):aL Tryz.prog 116 2 (aN Tryz.prog 116 2) ⟨loT b p bb l k,[],[]⟩ ((loO b p l k).map (bJ [0] loS)):=by
 refine dK (ht:=fun k=>ahb b p l k) Tryz.mixed (fun _=>rfl) (fun k=>(Tx b p bb l k).mpr ?_) k
 unfold abH
 by_cases h:k<l.length
 · have hw:IntKind.i64.wrap ((k:Int)+1)=((k+1:Nat):Int):=by rw [wrap_i64 (by omega) (by omega)];omega
   have hz:decide ((k:Int)<l.length)=true:=by simp;omega
   have hd:l.drop k=l.getD k default::l.drop (k+1):=by rw [drop_cons h];simp
   have hk:=hn k h
   rw [Int.toNat_natCast]
   simp only [hz,hd,Kq,List.findIdx_cons]
   generalize l.getD k default=y at *
   cases hp:cB p y
   · simp [hw,hk]
     exact ⟨k+1,by omega,by omega,by grind⟩
   · simp [hk]
 · have hz:decide ((k:Int)<l.length)=false:=by simp;omega
   simp only [hz,iX (Nat.le_of_not_lt h),PG]
   simp
noncomputable def loH (b:Bool) (p:Part) (bb:Bool) (l:List P.Producer):aC Tryz.prog:=hh _ (mU 116 2 (dM (loT b p bb l) (fun _=>[]) [0] (loO b p l) loS 0) bO) bN bM
def aaJ (b:Bool) (p:Part) (bb:Bool) (l:List P.Producer):Prop :=
 (((bb=bb/\l.length=l.length/\aj l.length 4 (ah P.ak l) (ah P.ak l))/\(True/\(false=false/\1<=1/\gq 1 (Ax.get [AV.y (.int .u64 (IntKind.u64.wrap (p.recs.length:Int)))]) (Ax.get [AV.y (.int .u64 (IntKind.u64.wrap (p.recs.length:Int)))]))/\(false=false/\7<=7/\gq 7 (Ax.get [AV.y (.string p.rng.lo),AV.y (.string p.rng.hi),AV.y (.int .u64 p.epoch),AV.y (.int .u64 p.frozen),AV.ys b 5 p.recs.length (ah encR p.recs),AV.ys b 4 p.prods.length (ah P.ak p.prods),AV.ys b 2 p.cons.length (ah aD p.cons)]) (Ax.get [AV.y (.string p.rng.lo),AV.y (.string p.rng.hi),AV.y (.int .u64 p.epoch),AV.y (.int .u64 p.frozen),AV.ys b 5 p.recs.length (ah encR p.recs),AV.ys b 4 p.prods.length (ah P.ak p.prods),AV.ys b 2 p.cons.length (ah aD p.cons)]))/\True)/\(0:Int)=0/\(l.length:Int)=(l.length:Int)/\(0:Int)=0/\True)/\True/\true=true)/\aL Tryz.prog 116 2 (aN Tryz.prog 116 2) { t:=loT b p bb l 0,m:=[],mv:=[]:St } (T.map (bJ [0] loS) (loO b p l 0))/\(iD b p (List.drop 0 l)=true->true=iD b p l/\True)/\(iD b p (List.drop 0 l)=false->false=iD b p l/\True)
theorem SH (b:Bool) (p:Part) (bb:Bool) (l:List P.Producer):(bf Tryz.prog (loH b p bb l) 48 [.ys bb 4 l.length (ah P.ak l),Zw b p] [] (aZ (iD b p l)))=aaJ b p bb l:=by kernel_rfl
theorem adL (b:Bool) (p:Part) (bb:Bool) (l:List P.Producer) (hl:l.length<=9223372036854775806) (hn:∀ k,k<l.length->(p.recs.length<=9223372036854775806/\0<=(l.getD k default).offset)):(aZ (iD b p l)).Sat (aB Tryz.prog 48 [.ys bb 4 l.length (ah P.ak l),Zw b p] []):=by
 refine aP (ht:=loH b p bb l) Tryz.mixed rfl ?_
 rw [SH b p bb l]
 unfold aaJ
 have:=ZO b p bb l hl hn 0
 simp [this]
noncomputable def agE (b:Bool) (p:Part) (bb:Bool) (l:List P.Producer):dZ Tryz.prog:=⟨48,[.ys bb 4 l.length (ah P.ak l),Zw b p],[],.need (l.length<=9223372036854775806/\∀ k,k<l.length->(p.recs.length<=9223372036854775806/\0<=(l.getD k default).offset)) (aZ (iD b p l)),T.Sat.need fun h=>adL b p bb l h.1 h.2⟩
def Yq (m:Nat):AV:=.fn (.func 43) [] (EG m)
def iC (m:Nat) (l:List Con):Bool:=l.any (bY m)
theorem NQ (m:Nat):iC m []=false:=rfl
theorem JR (m:Nat) (y:Con) (l:List Con):iC m (y::l)=(bY m y||iC m l):=rfl
noncomputable def ahC (m:Nat) (x:Con):dZ Tryz.prog:=⟨43,[.agg (aD x)]++(EG m),[],.need (m<=9223372036854775806) (aZ (bY m x)),T.Sat.need fun h=>Yf m x h⟩
def ahT (m:Nat) (bb:Bool) (l:List Con) (k:Nat):List AV:=mkT 19 [(0,.ys bb 2 l.length (ah aD l)),(1,Yq m),(4,.s (.int .i64 0)),(7,.y (.int .i64 l.length)),(8,.y (.int .i64 k))]
def ahS (r:Bool×Nat):Exit×List AV×List ay:=match r.1 with
 | true=>(.ret,mkT 19 [(4,.y (.int .i64 r.2))],[])
 | false=>(.exit 0,mkT 19 [],[])
def ahO (m:Nat) (l:List Con) (k:Nat):T (Bool×Nat):=.ite (iC m (l.drop k)) (.ret (true,k+(l.drop k).findIdx (bY m))) (.ret (false,0))
noncomputable def afU (m:Nat) (l:List Con) (k:Nat):aC Tryz.prog:=hh _ bO (cs1 117 4 5 (ahC m (l.getD k default)) bN) bM
def aaQ (m:Nat) (bb:Bool) (l:List Con) (k:Nat):Prop :=
 (decide ((↑k:Int)<(↑(List.length l):Int))=true->(true&&decide ((↑k:Int)<(↑(List.length l):Int)))=true/\(((List.getD l (Int.toNat (↑k:Int)) (@default Con instInhabitedCon)).name=(List.getD l k (@default Con instInhabitedCon)).name/\(List.getD l (Int.toNat (↑k:Int)) (@default Con instInhabitedCon)).off=(List.getD l k (@default Con instInhabitedCon)).off/\True)/\(false=false/\(1:Nat)<=(1:Nat)/\gq (1:Nat) (Ax.get [AV.y (Value.int IntKind.u64 (IntKind.wrap IntKind.u64 (↑m:Int)))]) (Ax.get [AV.y (Value.int IntKind.u64 (IntKind.wrap IntKind.u64 (↑m:Int)))]))/\True)/\True/\m<=(9223372036854775806:Nat)/\(bY m (List.getD l k (@default Con instInhabitedCon))=true->(iC m (List.drop k l)=true->((↑k:Int)=(↑(k+List.findIdx (bY m) (List.drop k l)):Int)/\True)/\True/\true=true)/\(iC m (List.drop k l)=false->False))/\(bY m (List.getD l k (@default Con instInhabitedCon))=false->∃ (j:Nat),List.length l - j<List.length l - k/\(((bb=bb/\List.length l=List.length l/\aj (List.length l) (2:Nat) (ah aD l) (ah aD l))/\(True/\(false=false/\(1:Nat)<=(1:Nat)/\gq (1:Nat) (Ax.get [AV.y (Value.int IntKind.u64 (IntKind.wrap IntKind.u64 (↑m:Int)))]) (Ax.get [AV.y (Value.int IntKind.u64 (IntKind.wrap IntKind.u64 (↑m:Int)))]))/\True)/\(0:Int)=(0:Int)/\(↑(List.length l):Int)=(↑(List.length l):Int)/\IntKind.wrap IntKind.i64 ((↑k:Int)+(1:Int))=(↑j:Int)/\True)/\True/\true=true)/\true=true/\(iC m (List.drop j l)=true->(iC m (List.drop k l)=true->(true,j+List.findIdx (bY m) (List.drop j l))=(true,k+List.findIdx (bY m) (List.drop k l)))/\(iC m (List.drop k l)=false->(true,j+List.findIdx (bY m) (List.drop j l))=(false,(0:Nat))))/\(iC m (List.drop j l)=false->(iC m (List.drop k l)=true->(false,(0:Nat))=(true,k+List.findIdx (bY m) (List.drop k l)))/\(iC m (List.drop k l)=false->(false,(0:Nat))=(false,(0:Nat))))))/\(decide ((↑k:Int)<(↑(List.length l):Int))=false->(iC m (List.drop k l)=true->False)/\(iC m (List.drop k l)=false->True/\True/\true=true))
theorem TR (m:Nat) (bb:Bool) (l:List Con) (k:Nat):(bP Tryz.prog (afU m l k) 117 2 (fun k=>l.length - k) (ahT m bb l) (fun _=>[]) [0] (ahO m l) ahS k)=aaQ m bb l k:=by kernel_rfl
theorem Xf (m:Nat) (bb:Bool) (l:List Con) (hl:l.length<=9223372036854775806) (hn:∀ k,k<l.length->(m<=9223372036854775806)) (k:Nat):aL Tryz.prog 117 2 (aN Tryz.prog 117 2) ⟨ahT m bb l k,[],[]⟩ ((ahO m l k).map (bJ [0] ahS)):=by
 refine dK (ht:=fun k=>afU m l k) Tryz.mixed (fun _=>rfl) (fun k=>(TR m bb l k).mpr ?_) k
 unfold aaQ
 by_cases h:k<l.length
 · have hw:IntKind.i64.wrap ((k:Int)+1)=((k+1:Nat):Int):=by rw [wrap_i64 (by omega) (by omega)];omega
   have hz:decide ((k:Int)<l.length)=true:=by simp;omega
   have hd:l.drop k=l.getD k default::l.drop (k+1):=by rw [drop_cons h];simp
   have hk:=hn k h
   rw [Int.toNat_natCast]
   simp only [hz,hd,JR,List.findIdx_cons]
   generalize l.getD k default=y at *
   cases hp:bY m y
   · simp [hw,hk]
     exact ⟨k+1,by omega,by omega,by grind⟩
   · simp [hk]
 · have hz:decide ((k:Int)<l.length)=false:=by simp;omega
   simp only [hz,iX (Nat.le_of_not_lt h),NQ]
   simp
noncomputable def ahH (m:Nat) (bb:Bool) (l:List Con):aC Tryz.prog:=hh _ (mU 117 2 (dM (ahT m bb l) (fun _=>[]) [0] (ahO m l) ahS 0) bO) bN bM
def aaY (m:Nat) (bb:Bool) (l:List Con):Prop :=
 (((bb=bb/\l.length=l.length/\aj l.length 2 (ah aD l) (ah aD l))/\(True/\(false=false/\1<=1/\gq 1 (Ax.get [AV.y (.int .u64 (IntKind.u64.wrap (m:Int)))]) (Ax.get [AV.y (.int .u64 (IntKind.u64.wrap (m:Int)))]))/\True)/\(0:Int)=0/\(l.length:Int)=(l.length:Int)/\(0:Int)=0/\True)/\True/\true=true)/\aL Tryz.prog 117 2 (aN Tryz.prog 117 2) { t:=ahT m bb l 0,m:=[],mv:=[]:St } (T.map (bJ [0] ahS) (ahO m l 0))/\(iC m (List.drop 0 l)=true->true=iC m l/\True)/\(iC m (List.drop 0 l)=false->false=iC m l/\True)
theorem Uj (m:Nat) (bb:Bool) (l:List Con):(bf Tryz.prog (ahH m bb l) 49 [.ys bb 2 l.length (ah aD l),Yq m] [] (aZ (iC m l)))=aaY m bb l:=by kernel_rfl
theorem aec (m:Nat) (bb:Bool) (l:List Con) (hl:l.length<=9223372036854775806) (hn:∀ k,k<l.length->(m<=9223372036854775806)):(aZ (iC m l)).Sat (aB Tryz.prog 49 [.ys bb 2 l.length (ah aD l),Yq m] []):=by
 refine aP (ht:=ahH m bb l) Tryz.mixed rfl ?_
 rw [Uj m bb l]
 unfold aaY
 have:=Xf m bb l hl hn 0
 simp [this]
noncomputable def aeM (m:Nat) (bb:Bool) (l:List Con):dZ Tryz.prog:=⟨49,[.ys bb 2 l.length (ah aD l),Yq m],[],.need (l.length<=9223372036854775806/\∀ k,k<l.length->(m<=9223372036854775806)) (aZ (iC m l)),T.Sat.need fun h=>aec m bb l h.1 h.2⟩
def aH (p:Part):Bool:=(fK p.rng==0)&&(!(p.epoch==0)&&(bG p.recs&&(P.bE p.prods&&(bW p.cons&&(bI p 0&&(!p.prods.any (cB p)&&!p.cons.any (bY p.recs.length)))))))
def Im (b:Bool) (e:Int):T An:=.ite b (.ret (.s (.int .i64 0),[],[])) (.ret (.s (.int .i64 e),[],[]))
noncomputable def pcH (b:Bool) (p:Part):aC Tryz.prog:=hh _ bO
 (cs1 14 4 2 (acd p.rng) (cs1 14 6 2 (lgC b p.recs) (cs1 14 7 2 (P.ais b p.prods) (cs1 14 8 2 (coC b p.cons)
 (cs1 14 10 1 (orC b p) (cs1 14 11 3 (agE b p b p.prods) (cs1 14 12 3 (aeM p.recs.length b p.cons) bN))))))) bM
def afI (b:Bool) (p:Part):Prop :=
 ((p.rng.lo=p.rng.lo/\p.rng.hi=p.rng.hi/\True)/\True)/\True/\((fK p.rng != 0)=true->(aH p=true->(165:Int)=0/\True)/\(aH p=false->(165:Int)=165/\True))/\((fK p.rng != 0)=false->((p.epoch==0)=true->(aH p=true->(165:Int)=0/\True)/\(aH p=false->(165:Int)=165/\True))/\((p.epoch==0)=false->((b=b/\p.recs.length=p.recs.length/\aj p.recs.length 5 (ah encR p.recs) (ah encR p.recs))/\True)/\True/\p.recs.length<=9223372036854775806/\((!bG p.recs)=true->(aH p=true->(165:Int)=0/\True)/\(aH p=false->(165:Int)=165/\True))/\((!bG p.recs)=false->((b=b/\p.prods.length=p.prods.length/\aj p.prods.length 4 (ah P.ak p.prods) (ah P.ak p.prods))/\True)/\True/\p.prods.length<=9223372036854775806/\((!P.bE p.prods)=true->(aH p=true->(165:Int)=0/\True)/\(aH p=false->(165:Int)=165/\True))/\((!P.bE p.prods)=false->((b=b/\p.cons.length=p.cons.length/\aj p.cons.length 2 (ah aD p.cons) (ah aD p.cons))/\True)/\True/\p.cons.length<=9223372036854775806/\((!bW p.cons)=true->(aH p=true->(165:Int)=0/\True)/\(aH p=false->(165:Int)=165/\True))/\((!bW p.cons)=false->((bQ b b p p)/\True)/\True/\(p.prods.length<=9223372036854775806/\p.recs.length<=9223372036854775806)/\((!bI p 0)=true->(aH p=true->(165:Int)=0/\True)/\(aH p=false->(165:Int)=165/\True))/\((!bI p 0)=false->((b=b/\p.prods.length=p.prods.length/\aj p.prods.length 4 (ah P.ak p.prods) (ah P.ak p.prods))/\(True/\(false=false/\1<=1/\gq 1 (fun (j:Nat)=>Ax.get [AV.y (.int .u64 (IntKind.u64.wrap (p.recs.length:Int)))] (0+j)) (Ax.get [AV.y (.int .u64 (IntKind.u64.wrap (p.recs.length:Int)))]))/\(false=false/\7<=7/\gq 7 (fun (j:Nat)=>Ax.get [AV.y (.string p.rng.lo),AV.y (.string p.rng.hi),AV.y (.int .u64 p.epoch),AV.y (.int .u64 p.frozen),AV.ys b 5 p.recs.length (ah encR p.recs),AV.ys b 4 p.prods.length (ah P.ak p.prods),AV.ys b 2 p.cons.length (ah aD p.cons)] (0+j)) (Ax.get [AV.y (.string p.rng.lo),AV.y (.string p.rng.hi),AV.y (.int .u64 p.epoch),AV.y (.int .u64 p.frozen),AV.ys b 5 p.recs.length (ah encR p.recs),AV.ys b 4 p.prods.length (ah P.ak p.prods),AV.ys b 2 p.cons.length (ah aD p.cons)]))/\True)/\True)/\True/\(p.prods.length<=9223372036854775806/\∀ k,k<p.prods.length->p.recs.length<=9223372036854775806/\0<=(p.prods.getD k default).offset)/\true=true/\True/\(iD b p p.prods=true->(aH p=true->(165:Int)=0/\True)/\(aH p=false->(165:Int)=165/\True))/\(iD b p p.prods=false->((b=b/\p.cons.length=p.cons.length/\aj p.cons.length 2 (ah aD p.cons) (ah aD p.cons))/\(True/\(false=false/\1<=1/\gq 1 (fun (j:Nat)=>Ax.get [AV.y (.int .u64 (IntKind.u64.wrap (p.recs.length:Int)))] (0+j)) (Ax.get [AV.y (.int .u64 (IntKind.u64.wrap (p.recs.length:Int)))]))/\True)/\True)/\True/\(p.cons.length<=9223372036854775806/\∀ k,k<p.cons.length->p.recs.length<=9223372036854775806)/\true=true/\True/\(iC p.recs.length p.cons=true->(aH p=true->(165:Int)=0/\True)/\(aH p=false->(165:Int)=165/\True))/\(iC p.recs.length p.cons=false->(aH p=true->(0:Int)=0/\True)/\(aH p=false->(0:Int)=165/\True)))))))))
theorem ZC (b:Bool) (p:Part):(bf Tryz.prog (pcH b p) 14 [.agg (aX b p)] [] (Im (aH p) 165))=afI b p:=by kernel_rfl
structure eG (p:Part):Prop where
 rl:p.recs.length<=4611686018427387903
 pl:p.prods.length<=4611686018427387903
 cl:p.cons.length<=4611686018427387903
 po:∀ k,k<p.prods.length->0<=(p.prods.getD k default).offset
theorem aiM (b:Bool) (p:Part) (h:eG p):(Im (aH p) 165).Sat (aB Tryz.prog 14 [.agg (aX b p)] []):=by
 refine aP (ht:=pcH b p) Tryz.mixed rfl ?_
 rw [ZC b p]
 unfold afI
 obtain ⟨h1,h2,h3,h4⟩:=h
 have e1:iD b p p.prods=p.prods.any (cB p):=rfl
 have e2:iC p.recs.length p.cons=p.cons.any (bY p.recs.length):=rfl
 have hw:IntKind.u64.wrap (p.recs.length:Int)=p.recs.length:=wrap_u64 (by omega) (by omega)
 simp only [e1,e2,hw]
 unfold aH
 have g1:p.recs.length<=9223372036854775806:=by omega
 have g2:p.prods.length<=9223372036854775806:=by omega
 have g3:p.cons.length<=9223372036854775806:=by omega
 generalize bI p 0=a1
 generalize p.prods.any (cB p)=a2
 generalize p.cons.any (bY p.recs.length)=a3
 generalize bG p.recs=a4
 generalize P.bE p.prods=a5
 generalize bW p.cons=a6
 by_cases c1:fK p.rng=0<;>by_cases c2:p.epoch=0<;>cases a1<;>cases a2<;>cases a3<;>cases a4<;>cases a5<;>cases a6<;>simp [c1,c2,g1,g2,g3]<;>exact h4
noncomputable def pcC (b:Bool) (p:Part):dZ Tryz.prog:=⟨14,[.agg (aX b p)],[],.need (eG p) (Im (aH p) 165),T.Sat.need fun h=>aiM b p h⟩
end
namespace H
def fH (x:Rec):List AV:=[.y (.int .u64 x.off),.y (.string x.key),ig false x.val,.y (.int .u64 x.prod),.y (.int .u64 x.seq)]
def iM (b:Bool) (l:List Rec):AV:=.ys b 5 l.length (ah fH l)
def sfT (b1 b2:Bool) (a:List Rec) (k:Nat):List AV:=mkT 82 [(0,iM b1 a),(1,dL b2 a),(5,.y (.int .i64 k))]
def sfS (_:Unit):Exit×List AV×List ay:=(.exit 0,mkT 82 [],[])
def aa' (b1:Bool) (b2:Bool) (a:List Rec) (k:Nat):Prop :=
 (decide ((↑k:Int)<(↑(List.length a):Int))=true->(true&&decide ((↑k:Int)<(↑(List.length a):Int)))=true/\(true&&decide ((↑k:Int)<(↑(List.length a):Int)))=true/\(((List.getD a (Int.toNat (↑k:Int)) (@default Rec instInhabitedRec)).off != (List.getD a (Int.toNat (↑k:Int)) (@default Rec instInhabitedRec)).off)=true->False)/\(((List.getD a (Int.toNat (↑k:Int)) (@default Rec instInhabitedRec)).off != (List.getD a (Int.toNat (↑k:Int)) (@default Rec instInhabitedRec)).off)=false->(true&&decide ((↑k:Int)<(↑(List.length a):Int)))=true/\(true&&decide ((↑k:Int)<(↑(List.length a):Int)))=true/\((!(List.getD a (Int.toNat (↑k:Int)) (@default Rec instInhabitedRec)).key.data.toList==(List.getD a (Int.toNat (↑k:Int)) (@default Rec instInhabitedRec)).key.data.toList)=true->False)/\((!(List.getD a (Int.toNat (↑k:Int)) (@default Rec instInhabitedRec)).key.data.toList==(List.getD a (Int.toNat (↑k:Int)) (@default Rec instInhabitedRec)).key.data.toList)=false->(true&&decide ((↑k:Int)<(↑(List.length a):Int)))=true/\(∀ (k_1:Nat),k_1<List.length (List.getD a (Int.toNat (↑k:Int)) (@default Rec instInhabitedRec)).val->true=true)/\(true&&decide ((↑k:Int)<(↑(List.length a):Int)))=true/\(∀ (k_1:Nat),k_1<List.length (List.getD a (Int.toNat (↑k:Int)) (@default Rec instInhabitedRec)).val->true=true)/\((!List.map (fun (a:AV)=>match match a with | AV.s (Value.int IntKind.u8 n)=>some n | AV.y (Value.int IntKind.u8 n)=>some n | x=>none with | some n=>UInt8.ofNat (Int.toNat n) | none=>(0:UInt8)) (List.map (fun (k_1:Nat)=>AV.y (Value.int IntKind.u8 (List.getD (List.getD a (Int.toNat (↑k:Int)) (@default Rec instInhabitedRec)).val k_1 (0:Int)))) (List.range (List.length (List.getD a (Int.toNat (↑k:Int)) (@default Rec instInhabitedRec)).val)))==List.map (fun (a:AV)=>match match a with | AV.s (Value.int IntKind.u8 n)=>some n | AV.y (Value.int IntKind.u8 n)=>some n | x=>none with | some n=>UInt8.ofNat (Int.toNat n) | none=>(0:UInt8)) (List.map (fun (k_1:Nat)=>AV.y (Value.int IntKind.u8 (List.getD (List.getD a (Int.toNat (↑k:Int)) (@default Rec instInhabitedRec)).val k_1 (0:Int)))) (List.range (List.length (List.getD a (Int.toNat (↑k:Int)) (@default Rec instInhabitedRec)).val))))=true->False)/\((!List.map (fun (a:AV)=>match match a with | AV.s (Value.int IntKind.u8 n)=>some n | AV.y (Value.int IntKind.u8 n)=>some n | x=>none with | some n=>UInt8.ofNat (Int.toNat n) | none=>(0:UInt8)) (List.map (fun (k_1:Nat)=>AV.y (Value.int IntKind.u8 (List.getD (List.getD a (Int.toNat (↑k:Int)) (@default Rec instInhabitedRec)).val k_1 (0:Int)))) (List.range (List.length (List.getD a (Int.toNat (↑k:Int)) (@default Rec instInhabitedRec)).val)))==List.map (fun (a:AV)=>match match a with | AV.s (Value.int IntKind.u8 n)=>some n | AV.y (Value.int IntKind.u8 n)=>some n | x=>none with | some n=>UInt8.ofNat (Int.toNat n) | none=>(0:UInt8)) (List.map (fun (k_1:Nat)=>AV.y (Value.int IntKind.u8 (List.getD (List.getD a (Int.toNat (↑k:Int)) (@default Rec instInhabitedRec)).val k_1 (0:Int)))) (List.range (List.length (List.getD a (Int.toNat (↑k:Int)) (@default Rec instInhabitedRec)).val))))=false->(true&&decide ((↑k:Int)<(↑(List.length a):Int)))=true/\(true&&decide ((↑k:Int)<(↑(List.length a):Int)))=true/\(((List.getD a (Int.toNat (↑k:Int)) (@default Rec instInhabitedRec)).prod != (List.getD a (Int.toNat (↑k:Int)) (@default Rec instInhabitedRec)).prod)=true->False)/\(((List.getD a (Int.toNat (↑k:Int)) (@default Rec instInhabitedRec)).prod != (List.getD a (Int.toNat (↑k:Int)) (@default Rec instInhabitedRec)).prod)=false->(true&&decide ((↑k:Int)<(↑(List.length a):Int)))=true/\(true&&decide ((↑k:Int)<(↑(List.length a):Int)))=true/\(((List.getD a (Int.toNat (↑k:Int)) (@default Rec instInhabitedRec)).seq != (List.getD a (Int.toNat (↑k:Int)) (@default Rec instInhabitedRec)).seq)=true->False)/\(((List.getD a (Int.toNat (↑k:Int)) (@default Rec instInhabitedRec)).seq != (List.getD a (Int.toNat (↑k:Int)) (@default Rec instInhabitedRec)).seq)=false->∃ (j:Nat),List.length a - j<List.length a - k/\(((b1=b1/\List.length a=List.length a/\aj (List.length a) (5:Nat) (ah fH a) (ah fH a))/\(b2=b2/\List.length a=List.length a/\aj (List.length a) (5:Nat) (ah encR a) (ah encR a))/\IntKind.wrap IntKind.i64 ((↑k:Int)+(1:Int))=(↑j:Int)/\True)/\True/\true=true)/\true=true/\()=()))))))/\(decide ((↑k:Int)<(↑(List.length a):Int))=false->True/\True/\true=true)
theorem Uk (b1:Bool) (b2:Bool) (a:List Rec) (k:Nat):(bP Tryz.prog (hT _) 73 4 (fun k=>a.length - k) (sfT b1 b2 a) (fun _=>[]) [0] (fun _=>.ret ()) sfS k)=aa' b1 b2 a k:=by kernel_rfl
noncomputable def sfH (b1 b2:Bool) (a:List Rec):aC Tryz.prog:=hh _ (mU 73 4 (dM (sfT b1 b2 a) (fun _=>[]) [0] (fun _=>.ret ()) sfS 0) bO) bN bM
def af8 (b1:Bool) (b2:Bool) (a:List Rec):Prop :=
 (((a.length:Int) != (a.length:Int))=true->false=true/\True)/\(((a.length:Int) != (a.length:Int))=false->(((b1=b1/\a.length=a.length/\aj a.length 5 (ah fH a) (ah fH a))/\(b2=b2/\a.length=a.length/\aj a.length 5 (ah encR a) (ah encR a))/\(0:Int)=0/\True)/\True/\true=true)/\aL Tryz.prog 73 4 (aN Tryz.prog 73 4) { t:=sfT b1 b2 a 0,m:=[],mv:=[]:St } (T.map (bJ [0] sfS) ((fun (x:Nat)=>T.ret ()) 0))/\true=true/\True)
theorem Zl (b1:Bool) (b2:Bool) (a:List Rec):(bf Tryz.prog (sfH b1 b2 a) 73 [iM b1 a,dL b2 a] [] (aZ true))=af8 b1 b2 a:=by kernel_rfl
theorem Z6 (b1 b2:Bool) (a:List Rec) (hl:a.length<=9223372036854775806) (k:Nat):aL Tryz.prog 73 4 (aN Tryz.prog 73 4) ⟨sfT b1 b2 a k,[],[]⟩ (T.map (bJ [0] sfS) (.ret ())):=by
 refine dY (o:=fun _=>.ret ()) Tryz.mixed (fun _=>rfl) (fun k=>(Uk b1 b2 a k).mpr ?_) k
 unfold aa'
 simp
 intro h
 have hb:∀ q:Nat,RV (ah aJ (a[k]?.getD default).val q 0)=true:=fun _=>rfl
 simp [h,hb]
 exact ⟨k+1,by omega,by rw [wrap_i64 (by omega) (by omega)];omega⟩
theorem ah_ (b1 b2:Bool) (a:List Rec) (hl:a.length<=9223372036854775806):(aZ true).Sat (aB Tryz.prog 73 [iM b1 a,dL b2 a] []):=by
 refine aP (ht:=sfH b1 b2 a) Tryz.mixed rfl ?_
 rw [Zl b1 b2 a]
 unfold af8
 simp [Z6 b1 b2 a hl 0]
noncomputable def sfC (b1 b2:Bool) (a b:List Rec):dZ Tryz.prog:=⟨73,[iM b1 a,dL b2 b],[],.need (a.length<=9223372036854775806/\a=b) (aZ true),T.Sat.need fun h=>by obtain ⟨h1,rfl⟩:=h;exact ah_ b1 b2 a h1⟩
def xO (x:Rec) (k:Nat):Rec:=⟨x.off,x.key,(x.val.take k).map (fun v=>IntKind.u8.wrap (v+1))++x.val.drop k,x.prod,x.seq⟩
def afq (q:Nat) (f:Nat->Rec):ay:=.trow 54 5 q none (fun k=>ND (f k)) [] []
def bZ (f:Nat->Rec) (i k:Nat):Nat->Rec:=fun p=>if p=i then xO (f i) k else f p
end H
namespace Q
open H
theorem ac6 (x:Rec) (j:Nat) (hj:j<5):PN (ND x j)=Ax.get (fH x) j:=by
 match j,hj with
 | 0,_=>rfl
 | 1,_=>rfl
 | 2,_=>rfl
 | 3,_=>rfl
 | 4,_=>rfl
theorem nN (l:List Rec) (n:Nat):aj n 5 (fun k j=>PN (JL l k j)) (ah fH l):=by
 intro k _ j hj
 show qA (PN (ND (l.getD k default) j)) (Ax.get (fH (l.getD k default)) j)
 rw [ac6 _ j hj]
 exact dn _
def aam (b:Bool) (l:List Rec) (k:Nat):List AV:=mkT 33 [(0,iM b l),(2,.s (.bool false)),(5,iM b l),(6,.y (.int .i64 l.length)),(7,.y (.int .i64 k))]
def Zi (b:Bool) (l:List Rec) (r:Bool):Exit×List AV×List ay:=match r with
 | true=>(.exit 0,mkT 33 [(0,iM b l)],[])
 | false=>(.ret,mkT 33 [(2,.s (.bool false))],[])
def U2 (b:Bool) (l:List Rec) (k:Nat):Prop :=
 (decide ((k:Int)<(l.length:Int))=true->(true&&decide ((k:Int)<(l.length:Int)))=true/\(((l.getD (Int.toNat (k:Int)) default).off != IntKind.u64.wrap (k:Int))=true->(aU l k=true->False)/\(aU l k=false->(false=false/\True)/\True/\true=true))/\(((l.getD (Int.toNat (k:Int)) default).off != IntKind.u64.wrap (k:Int))=false->(decide (32<((ByteArray.size (l.getD (Int.toNat (k:Int)) default).key):Int))=true->(aU l k=true->False)/\(aU l k=false->(false=false/\True)/\True/\true=true))/\(decide (32<((ByteArray.size (l.getD (Int.toNat (k:Int)) default).key):Int))=false->(decide (256<((l.getD (Int.toNat (k:Int)) default).val.length:Int))=true->(aU l k=true->False)/\(aU l k=false->(false=false/\True)/\True/\true=true))/\(decide (256<((l.getD (Int.toNat (k:Int)) default).val.length:Int))=false->∃ j:Nat,l.length - j<l.length - k/\(((b=b/\l.length=l.length/\aj l.length 5 (ah fH l) (ah fH l))/\false=false/\(b=b/\l.length=l.length/\aj l.length 5 (ah fH l) (ah fH l))/\(l.length:Int)=(l.length:Int)/\IntKind.i64.wrap ((k:Int)+1)=(j:Int)/\True)/\True/\true=true)/\true=true/\(aU l j=true->(aU l k=true->true=true)/\(aU l k=false->true=false))/\(aU l j=false->(aU l k=true->false=true)/\(aU l k=false->false=false))))))/\(decide ((k:Int)<(l.length:Int))=false->(aU l k=true->((b=b/\l.length=l.length/\aj l.length 5 (ah fH l) (ah fH l))/\True)/\True/\true=true)/\(aU l k=false->False))
theorem OM (b:Bool) (l:List Rec) (k:Nat):(bP Tryz.prog (hT _) 44 2 (fun k=>l.length - k) (aam b l) (fun _=>[]) [0] (PS l) (Zi b l) k)=U2 b l k:=by kernel_rfl
noncomputable def aeU (b:Bool) (l:List Rec):aC Tryz.prog:=hh _ (mU 44 2 (dM (aam b l) (fun _=>[]) [0] (PS l) (Zi b l) 0) bO) bN bM
def aa5 (b:Bool) (l:List Rec):Prop :=
 (((b=b/\l.length=l.length/\aj l.length 5 (ah fH l) (ah fH l))/\false=false/\(b=b/\l.length=l.length/\aj l.length 5 (ah fH l) (ah fH l))/\(l.length:Int)=(l.length:Int)/\(0:Int)=0/\True)/\True/\true=true)/\aL Tryz.prog 44 2 (aN Tryz.prog 44 2) { t:=aam b l 0,m:=[],mv:=[]:St } (T.map (bJ [0] (Zi b l)) (PS l 0))/\(aU l 0=true->decide ((l.length:Int)<=4096)=bG l/\True)/\(aU l 0=false->false=bG l/\True)
theorem Uh (b:Bool) (l:List Rec):(bf Tryz.prog (aeU b l) 44 [iM b l] [] (aZ (bG l)))=aa5 b l:=by kernel_rfl
theorem Uw (b:Bool) (l:List Rec) (hl:l.length<=9223372036854775806) (k:Nat):aL Tryz.prog 44 2 (aN Tryz.prog 44 2) ⟨aam b l k,[],[]⟩ ((PS l k).map (bJ [0] (Zi b l))):=by
 refine dY Tryz.mixed (fun _=>rfl) (fun k=>(OM b l k).mpr ?_) k
 unfold U2
 simp
 refine ⟨fun h=>?_,fun h=>by simp [rH h]⟩
 rw [oZ h]
 simp (disch:=omega) only [wrap_i64]
 simp [VA,cast_succ_eq]
 generalize l[k]?.getD default=x
 grind
theorem agX (b:Bool) (l:List Rec) (hl:l.length<=9223372036854775806):(aZ (bG l)).Sat (aB Tryz.prog 44 [iM b l] []):=by
 refine aP (ht:=aeU b l) Tryz.mixed rfl ?_
 rw [Uh b l]
 unfold aa5
 have:=Uw b l hl 0
 simp [this,bG]
 grind
noncomputable def ae6 (b:Bool) (l:List Rec):dZ Tryz.prog:=⟨44,[iM b l],[],.need (l.length<=9223372036854775806) (aZ (bG l)),T.Sat.need fun h=>agX b l h⟩
end Q
namespace N
open H Q
noncomputable def abu (b:Bool) (x:Rec):aC Tryz.prog:=dO (hh _ bO (cs1 157 1 4 (QI false x.val.length (ah aJ x.val)) bN) bM) noSh
def Uv (x:Rec) (o:Int):Prop :=
 ((false=false/\x.val.length=x.val.length/\aj x.val.length 1 (ah aJ x.val) (ah aJ x.val))/\True)/\True/\x.val.length<=140737488355328/\(IntKind.u64.wrap o=IntKind.u64.wrap o/\x.key=x.key/\(0=0/\x.val.length=x.val.length)/\x.prod=x.prod/\x.seq=x.seq/\True)/\(x.val.length=x.val.length/\aj x.val.length 1 (ah aJ x.val) (ah aJ x.val))/\True
theorem Pp (x:Rec) (o:Int):(bf Tryz.prog (abu true x) 157 [.agg (fH x),.y (.int .i64 o)] [] (Ou (x.to (IntKind.u64.wrap o))))=Uv x o:=by kernel_rfl
theorem acY (x:Rec) (o:Int) (h:x.val.length<=140737488355328):(Ou (x.to (IntKind.u64.wrap o))).Sat (aB Tryz.prog 157 [.agg (fH x),.y (.int .i64 o)] []):=by
 refine aP (ht:=abu true x) Tryz.mixed rfl ?_
 rw [Pp x o]
 unfold Uv
 simp [h,Rec.to]
noncomputable def aeP (x:Rec) (o:Int):dZ Tryz.prog:=⟨157,[.agg (fH x),.y (.int .i64 o)],[],.need (x.val.length<=140737488355328) (Ou (x.to (IntKind.u64.wrap o))),T.Sat.need fun h=>acY x o h⟩
def Rs (b:Bool) (l:List Rec) (k:Nat):List AV:=mkT 26 [(0,iM b l),(3,.own 0 5 0 k),(10,iM b l),(11,.y (.int .i64 l.length)),(12,.y (.int .i64 k))]
def Q6 (l:List Rec) (k:{ k:Nat // k<=l.length }):T Unit:=.ret ()
def aal (l:List Rec) (r:Unit):Exit×List AV×List ay:=(.exit 0,mkT 26 [(3,.own 0 5 0 l.length)],[wU l])
noncomputable def ahx (l:List Rec) (k:Nat):aC Tryz.prog:=dO (hh _ bO (cs1 141 5 5 (aeP (l.getD k default) (IntKind.i64.wrap (l.getD k default).off)) bN) bM) noSh
def V4 (b:Bool) (l:List Rec) (k:{ k:Nat // k<=l.length }):Prop :=
 (decide ((k.val:Int)<(l.length:Int))=true->(true&&decide ((k.val:Int)<(l.length:Int)))=true/\(((l.getD (Int.toNat (k.val:Int)) default).off=(l.getD k.val default).off/\(l.getD (Int.toNat (k.val:Int)) default).key=(l.getD k.val default).key/\(false=false/\(l.getD (Int.toNat (k.val:Int)) default).val.length=(l.getD k.val default).val.length/\aj (l.getD (Int.toNat (k.val:Int)) default).val.length 1 (ah aJ (l.getD (Int.toNat (k.val:Int)) default).val) (ah aJ (l.getD k.val default).val))/\(l.getD (Int.toNat (k.val:Int)) default).prod=(l.getD k.val default).prod/\(l.getD (Int.toNat (k.val:Int)) default).seq=(l.getD k.val default).seq/\True)/\IntKind.i64.wrap (l.getD (Int.toNat (k.val:Int)) default).off=IntKind.i64.wrap (l.getD k.val default).off/\True)/\True/\(l.getD k.val default).val.length<=140737488355328/\k.val=k.val/\k.val+1<=9223372036854775807/\(k.val+1)*64<=140737488355328/\∃ (j:{ k:Nat // k<=l.length }),l.length - j.val<l.length - k.val/\(((b=b/\l.length=l.length/\aj l.length 5 (ah fH l) (ah fH l))/\(0=0/\k.val+1=j.val)/\(b=b/\l.length=l.length/\aj l.length 5 (ah fH l) (ah fH l))/\(l.length:Int)=(l.length:Int)/\IntKind.i64.wrap ((k.val:Int)+1)=(j.val:Int)/\True)/\(((k.val+1=j.val/\(((true=true/\IntKind.u64.wrap (IntKind.i64.wrap (l.getD k.val default).off)=(l.getD k.val default).off)/\(true=true/\(l.getD k.val default).key=(l.getD k.val default).key)/\((l.getD k.val default).val.length=(l.getD k.val default).val.length/\aj (l.getD k.val default).val.length 1 (ah aJ (l.getD k.val default).val) (ah aJ (l.getD k.val default).val))/\(true=true/\(l.getD k.val default).prod=(l.getD k.val default).prod)/\(true=true/\(l.getD k.val default).seq=(l.getD k.val default).seq)/\True)/\True)/\∀ k_1,k_1<k.val+1->¬k_1=k.val->(l.getD k_1 default).off=(l.getD k_1 default).off/\(l.getD k_1 default).key=(l.getD k_1 default).key/\((l.getD k_1 default).val.length=(l.getD k_1 default).val.length/\aj (l.getD k_1 default).val.length 1 (ah aJ (l.getD k_1 default).val) (ah aJ (l.getD k_1 default).val))/\(l.getD k_1 default).prod=(l.getD k_1 default).prod/\(l.getD k_1 default).seq=(l.getD k_1 default).seq/\True)/\True)/\True)/\true=true)/\true=true/\()=())/\(decide ((k.val:Int)<(l.length:Int))=false->((0=0/\k.val=l.length)/\True)/\((k.val=l.length/\∀ k_1,k_1<k.val->(l.getD k_1 default).off=(l.getD k_1 default).off/\(l.getD k_1 default).key=(l.getD k_1 default).key/\((l.getD k_1 default).val.length=(l.getD k_1 default).val.length/\aj (l.getD k_1 default).val.length 1 (ah aJ (l.getD k_1 default).val) (ah aJ (l.getD k_1 default).val))/\(l.getD k_1 default).prod=(l.getD k_1 default).prod/\(l.getD k_1 default).seq=(l.getD k_1 default).seq/\True)/\True)/\true=true)
theorem Pv (b:Bool) (l:List Rec) (k:{ k:Nat // k<=l.length }):(bP Tryz.prog (ahx l k.1) 141 3 (fun (k:{ k:Nat // k<=l.length })=>l.length - k.1) (fun k=>Rs b l k.1) (fun k=>[K8 l k.1]) [0,1,2,3,4,5] (Q6 l) (aal l) k)=V4 b l k:=by kernel_rfl
theorem Z4 {l:List Rec} {o m:Int} (h:Cz l o=0) (n:Nat) (hn:n=(PX l o m).toNat) (c:Nat->Nat->AV) (hc:∀ k j,k<n->c k j=ah fH l (o.toNat+k) j):aj n 5 c (ah fH (jQ l o m)):=by
 intro k hk j hj
 rw [hc k j hk]
 unfold ah
 rw [acF h (by omega)]
 exact dn _
theorem P6 (b:Bool) (l:List Rec) (h:Cn l) (k:{ k:Nat // k<=l.length }):aL Tryz.prog 141 3 (aN Tryz.prog 141 3) ⟨Rs b l k.1,[K8 l k.1],[]⟩ ((Q6 l k).map (bJ [0,1,2,3,4,5] (aal l))):=by
 refine dK (o:=Q6 l) (sV:=fun k=>Rs b l k.1) (stM:=fun k=>[K8 l k.1]) Tryz.mixed (fun _=>rfl) (fun k=>(Pv b l k).mpr ?_) k
 unfold V4
 obtain ⟨k,hk⟩:=k
 have hn:=h.n
 by_cases hkl:k<l.length
 · have hv:=h.v k hkl
   have ho:=h.o k hkl
   have hex:∀ q:{ k:Nat // k<=l.length }->Prop,q ⟨k+1,hkl⟩->∃ j,q j:=fun q hq=>⟨_,hq⟩
   have hw:IntKind.i64.wrap ((k:Int)+1)=((k+1:Nat):Int):=by rw [wrap_i64 (by omega) (by omega)];omega
   simp only [Int.toNat_natCast]
   generalize l.getD k default=x at hv ho ⊢
   refine ⟨fun _=>?_,fun h=>by simp at h;omega⟩
   repeat' with_reducible apply And.intro
   all_goals first
    | with_reducible rfl
    | exact trivial
    | omega
    | (simp;done)
    | (simp;omega)
    | exact aG _ _ _
    | (refine hex _ ?_;simp [ho,hw];omega)
 · obtain rfl:k=l.length:=by omega
   refine ⟨fun h=>by simp at h,fun _=>?_⟩
   simp
def owR (l:List Rec):T An:=.ret (.own 0 5 0 l.length,[wU l],[])
noncomputable def U8 (b:Bool) (l:List Rec):aC Tryz.prog:=dO (hh _ (mU 141 3 (dM (fun (k:{ k:Nat // k<=l.length })=>Rs b l k.1) (fun k=>[K8 l k.1]) [0,1,2,3,4,5] (Q6 l) (aal l) ⟨0,Nat.zero_le _⟩) bO) bN bM) (uL 141 1 3 787 noSh)
def aay (b:Bool) (l:List Rec):Prop :=
 (0:Int)=0/\0<=IntKind.i64.wrap ((l.length:Int)+1)/\64*IntKind.i64.wrap ((l.length:Int)+1)<=281474976710656/\IntKind.i64.wrap ((l.length:Int)+1)<=9223372036854775807/\(((b=b/\l.length=l.length/\aj l.length 5 (ah fH l) (ah fH l))/\(0=0/\0=0)/\(b=b/\l.length=l.length/\aj l.length 5 (ah fH l) (ah fH l))/\(l.length:Int)=(l.length:Int)/\(0:Int)=0/\True)/\((0=0/\∀ k,k<0->False/\False/\False/\False/\False/\True)/\True)/\true=true)/\aL Tryz.prog 141 3 (aN Tryz.prog 141 3) { t:=Rs b l (⟨0,U8._proof_1 l⟩:{ k:Nat // k<=l.length }).val,m:=[K8 l (⟨0,U8._proof_1 l⟩:{ k:Nat // k<=l.length }).val],mv:=[]:St } (T.map (bJ [0,1,2,3,4,5] (aal l)) (Q6 l (⟨0,U8._proof_1 l⟩:{ k:Nat // k<=l.length })))/\(0=0/\l.length=l.length)/\(l.length=l.length/\∀ k,k<l.length->(l.getD k default).off=(l.getD k default).off/\(l.getD k default).key=(l.getD k default).key/\((l.getD k default).val.length=(l.getD k default).val.length/\aj (l.getD k default).val.length 1 (ah aJ (l.getD k default).val) (ah aJ (l.getD k default).val))/\(l.getD k default).prod=(l.getD k default).prod/\(l.getD k default).seq=(l.getD k default).seq/\True)/\True
theorem VZ (b:Bool) (l:List Rec):(bf Tryz.prog (U8 b l) 141 [iM b l] [] (owR l))=aay b l:=by kernel_rfl
theorem ahn (b:Bool) (l:List Rec) (h:Cn l):(owR l).Sat (aB Tryz.prog 141 [iM b l] []):=by
 refine aP (ht:=U8 b l) Tryz.mixed rfl ?_
 rw [VZ b l]
 unfold aay
 have lp:=P6 b l h ⟨0,Nat.zero_le _⟩
 have hn:=h.n
 have hw:IntKind.i64.wrap ((l.length:Int)+1)=(l.length:Int)+1:=wrap_i64 (by omega) (by omega)
 simp [lp,hw]
 omega
noncomputable def ae2 (b:Bool) (l:List Rec):dZ Tryz.prog:=⟨141,[iM b l],[],.need (Cn l) (owR l),T.Sat.need fun h=>ahn b l h⟩
noncomputable def agK (b:Bool) (l:List Rec) (x:Rec):aC Tryz.prog:=dO (hh _ bO (cs1 134 1 1 (ae6 b l) (cs1 134 9 1 (ae2 b l) (cs1 134 9 5 (aio x l.length) bN))) bM)
 (uL 134 2 0 (1000000+54) (uL 134 4 0 (1000000+54) (uL 134 6 0 (1000000+54) (uL 134 8 0 (1000000+54) noSh))))
def aaT (b:Bool) (l:List Rec) (x:Rec):Prop :=
 ((b=b/\l.length=l.length/\aj l.length 5 (ah fH l) (ah fH l))/\True)/\True/\l.length<=9223372036854775806/\((!bG l)=true->((0=0/\0=(jO l x).length)/\0=Gb l x/\1=yg l x/\True)/\(0=(jO l x).length/\∀ k,k<0->False/\False/\False/\False/\False/\True)/\True)/\((!bG l)=false->(decide (32<((ByteArray.size x.key):Int))=true->((0=0/\0=(jO l x).length)/\0=Gb l x/\131=yg l x/\True)/\(0=(jO l x).length/\∀ k,k<0->False/\False/\False/\False/\False/\True)/\True)/\(decide (32<((ByteArray.size x.key):Int))=false->(decide (256<(x.val.length:Int))=true->((0=0/\0=(jO l x).length)/\0=Gb l x/\144=yg l x/\True)/\(0=(jO l x).length/\∀ k,k<0->False/\False/\False/\False/\False/\True)/\True)/\(decide (256<(x.val.length:Int))=false->(((l.length:Int)==4096)=true->((0=0/\0=(jO l x).length)/\0=Gb l x/\143=yg l x/\True)/\(0=(jO l x).length/\∀ k,k<0->False/\False/\False/\False/\False/\True)/\True)/\(((l.length:Int)==4096)=false->((b=b/\l.length=l.length/\aj l.length 5 (ah fH l) (ah fH l))/\True)/\True/\Cn l/\((x.off=x.off/\x.key=x.key/\(lu x.val x.val)/\x.prod=x.prod/\x.seq=x.seq/\True)/\(l.length:Int)=(l.length:Int)/\True)/\True/\x.val.length<=140737488355328/\l.length=l.length/\l.length+1<=9223372036854775807/\(l.length+1)*64<=140737488355328/\((0=0/\l.length+1=(jO l x).length)/\IntKind.u64.wrap (l.length:Int)=Gb l x/\0=yg l x/\True)/\((l.length+1=(jO l x).length/\(((true=true/\IntKind.u64.wrap (l.length:Int)=((jO l x).getD l.length default).off)/\(true=true/\x.key=((jO l x).getD l.length default).key)/\(((jO l x).getD l.length default).val.length=x.val.length/\aj ((jO l x).getD l.length default).val.length 1 (ah aJ x.val) (ah aJ ((jO l x).getD l.length default).val))/\(true=true/\x.prod=((jO l x).getD l.length default).prod)/\(true=true/\x.seq=((jO l x).getD l.length default).seq)/\True)/\True)/\∀ k,k<l.length+1->¬k=l.length->(l.getD k default).off=((jO l x).getD k default).off/\(l.getD k default).key=((jO l x).getD k default).key/\((l.getD k default).val.length=((jO l x).getD k default).val.length/\aj (l.getD k default).val.length 1 (ah aJ (l.getD k default).val) (ah aJ ((jO l x).getD k default).val))/\(l.getD k default).prod=((jO l x).getD k default).prod/\(l.getD k default).seq=((jO l x).getD k default).seq/\True)/\True)/\True))))
theorem Ut (b:Bool) (l:List Rec) (x:Rec):(bf Tryz.prog (agK b l x) 134 [iM b l,.agg (encR x)] [] (apT l x))=aaT b l x:=by kernel_rfl
noncomputable def afJ (b:Bool) (l:List Rec) (o m:Int):aC Tryz.prog:=dO (hh _ bO (cs1 109 1 1 (ae6 b l) (cs1 109 6 7 (ae2 b (jQ l o m)) bN)) bM)
 (uL 109 2 0 (1000000+54) (uL 109 4 0 (1000000+54) noSh))
def abj (b:Bool) (l:List Rec) (o:Int) (m:Int):Prop :=
 ((b=b/\List.length l=List.length l/\aj (List.length l) (5:Nat) (ah fH l) (ah fH l))/\True)/\True/\List.length l<=(9223372036854775806:Nat)/\((!bG l)=true->(((0:Nat)=(0:Nat)/\(0:Nat)=List.length (jQ l o m))/\(1:Int)=Cz l o/\True)/\((0:Nat)=List.length (jQ l o m)/\∀ (k:Nat),k<(0:Nat)->False/\False/\False/\False/\False/\True)/\True)/\((!bG l)=false->(decide (IntKind.wrap IntKind.u64 (↑(List.length l):Int)<o)=true->(((0:Nat)=(0:Nat)/\(0:Nat)=List.length (jQ l o m))/\(141:Int)=Cz l o/\True)/\((0:Nat)=List.length (jQ l o m)/\∀ (k:Nat),k<(0:Nat)->False/\False/\False/\False/\False/\True)/\True)/\(decide (IntKind.wrap IntKind.u64 (↑(List.length l):Int)<o)=false->(decide ((0:Int)<=o)&&decide (o<=(↑(List.length l):Int))&&decide ((↑(List.length l):Int)<=(↑(List.length l):Int)))=true/\(true&&decide ((0:Int)<=if (↑(Int.toNat (↑(List.length l):Int) - Int.toNat o):Int)<if (64:Int)<if (0:Int) > m then (0:Int) else m then (64:Int) else if (0:Int) > m then (0:Int) else m then (↑(Int.toNat (↑(List.length l):Int) - Int.toNat o):Int) else if (64:Int)<if (0:Int) > m then (0:Int) else m then (64:Int) else if (0:Int) > m then (0:Int) else m)&&decide ((if (↑(Int.toNat (↑(List.length l):Int) - Int.toNat o):Int)<if (64:Int)<if (0:Int) > m then (0:Int) else m then (64:Int) else if (0:Int) > m then (0:Int) else m then (↑(Int.toNat (↑(List.length l):Int) - Int.toNat o):Int) else if (64:Int)<if (0:Int) > m then (0:Int) else m then (64:Int) else if (0:Int) > m then (0:Int) else m)<=(↑(Int.toNat (↑(List.length l):Int) - Int.toNat o):Int)))=true/\((b=b/\Int.toNat (if (↑(Int.toNat (↑(List.length l):Int) - Int.toNat o):Int)<if (64:Int)<if (0:Int) > m then (0:Int) else m then (64:Int) else if (0:Int) > m then (0:Int) else m then (↑(Int.toNat (↑(List.length l):Int) - Int.toNat o):Int) else if (64:Int)<if (0:Int) > m then (0:Int) else m then (64:Int) else if (0:Int) > m then (0:Int) else m) - (0:Nat)=List.length (jQ l o m)/\aj (Int.toNat (if (↑(Int.toNat (↑(List.length l):Int) - Int.toNat o):Int)<if (64:Int)<if (0:Int) > m then (0:Int) else m then (64:Int) else if (0:Int) > m then (0:Int) else m then (↑(Int.toNat (↑(List.length l):Int) - Int.toNat o):Int) else if (64:Int)<if (0:Int) > m then (0:Int) else m then (64:Int) else if (0:Int) > m then (0:Int) else m) - (0:Nat)) (5:Nat) (fun (k:Nat)=>ah fH l (Int.toNat o+((0:Nat)+k))) (ah fH (jQ l o m)))/\True)/\True/\Cn (jQ l o m)/\(((0:Nat)=(0:Nat)/\List.length (jQ l o m)=List.length (jQ l o m))/\(0:Int)=Cz l o/\True)/\(List.length (jQ l o m)=List.length (jQ l o m)/\∀ (k:Nat),k<List.length (jQ l o m)->(List.getD (jQ l o m) k (@default Rec instInhabitedRec)).off=(List.getD (jQ l o m) k (@default Rec instInhabitedRec)).off/\(List.getD (jQ l o m) k (@default Rec instInhabitedRec)).key=(List.getD (jQ l o m) k (@default Rec instInhabitedRec)).key/\(List.length (List.getD (jQ l o m) k (@default Rec instInhabitedRec)).val=List.length (List.getD (jQ l o m) k (@default Rec instInhabitedRec)).val/\aj (List.length (List.getD (jQ l o m) k (@default Rec instInhabitedRec)).val) (1:Nat) (ah aJ (List.getD (jQ l o m) k (@default Rec instInhabitedRec)).val) (ah aJ (List.getD (jQ l o m) k (@default Rec instInhabitedRec)).val))/\(List.getD (jQ l o m) k (@default Rec instInhabitedRec)).prod=(List.getD (jQ l o m) k (@default Rec instInhabitedRec)).prod/\(List.getD (jQ l o m) k (@default Rec instInhabitedRec)).seq=(List.getD (jQ l o m) k (@default Rec instInhabitedRec)).seq/\True)/\True))
theorem Ra (b:Bool) (l:List Rec) (o:Int) (m:Int):(bf Tryz.prog (afJ b l o m) 109 [iM b l,.y (.int .u64 o),.y (.int .i64 m)] [] (feT l o m))=abj b l o m:=by kernel_rfl
theorem afk (b:Bool) (l:List Rec) (x:Rec) (h0:l.length<=9223372036854775806):(apT l x).Sat (aB Tryz.prog 134 [iM b l,.agg (encR x)] []):=by
 refine aP (ht:=agK b l x) Tryz.mixed rfl ?_
 rw [Ut b l x]
 unfold aaT
 have hK:yg l x=if bG l=false then 1 else if 32<x.key.size then 131 else if 256<x.val.length then 144 else if l.length=4096 then 143 else 0:=rfl
 have hY:yg l x≠0->jO l x=[]:=fun h=>by unfold jO;rw [if_neg h]
 have hN:yg l x≠0->Gb l x=0:=fun h=>by unfold Gb;rw [if_neg h]
 refine ⟨by simp,trivial,h0,fun h=>?_,fun h=>⟨fun h2=>?_,fun h2=>⟨fun h3=>?_,fun h3=>⟨fun h4=>?_,fun h4=>?_⟩⟩⟩⟩
 · have hk:yg l x=1:=by rw [hK];simp at h;simp [h]
   simp [hY (by rw [hk];omega),hN (by rw [hk];omega),hk]
 · have hk:yg l x=131:=by rw [hK];simp at h h2;simp [h];omega
   simp [hY (by rw [hk];omega),hN (by rw [hk];omega),hk]
 · have hk:yg l x=144:=by rw [hK];simp at h h2 h3;simp [h];omega
   simp [hY (by rw [hk];omega),hN (by rw [hk];omega),hk]
 · have hk:yg l x=143:=by rw [hK];simp at h h2 h3 h4;simp [h];omega
   simp [hY (by rw [hk];omega),hN (by rw [hk];omega),hk]
 · have hk:yg l x=0:=by rw [hK];simp at h h2 h3 h4;simp [h];omega
   obtain ⟨g1,g2,g3⟩:=NG hk
   have hy:jO l x=l++[x.to (IntKind.u64.wrap l.length)]:=by unfold jO;rw [if_pos hk]
   have hn:Gb l x=IntKind.u64.wrap l.length:=by unfold Gb;rw [if_pos hk]
   rw [hy,hn,hk]
   have e1:(l++[x.to (IntKind.u64.wrap l.length)]).getD l.length default=x.to (IntKind.u64.wrap l.length):=by rw [U1];simp
   rw [e1]
   refine ⟨by simp,trivial,Yl g1,by simp,trivial,by omega,rfl,by omega,by omega,by simp,⟨⟨by simp,by simp [Rec.to],fun k hk hne=>?_⟩,trivial⟩,trivial⟩
   have e2:(l++[x.to (IntKind.u64.wrap l.length)]).getD k default=l.getD k default:=by rw [U1,if_pos (by omega)]
   rw [e2]
   simp
noncomputable def ah6 (b:Bool) (l:List Rec) (x:Rec):dZ Tryz.prog:=⟨134,[iM b l,.agg (encR x)],[],.need (l.length<=9223372036854775806) (apT l x),T.Sat.need fun h=>afk b l x h⟩
theorem ae0 (b:Bool) (l:List Rec) (o m:Int) (hl:l.length<=9223372036854775806) (h0:0<=o/\o<=18446744073709551615):(feT l o m).Sat (aB Tryz.prog 109 [iM b l,.y (.int .u64 o),.y (.int .i64 m)] []):=by
 refine aP (ht:=afJ b l o m) Tryz.mixed rfl ?_
 rw [Ra b l o m]
 unfold abj
 have hw:IntKind.u64.wrap (l.length:Int)=l.length:=wrap_u64 (by omega) (by omega)
 have hK:Cz l o=if bG l=false then 1 else if (l.length:Int)<o then 141 else 0:=rfl
 have hY:Cz l o≠0->jQ l o m=[]:=fun h=>by unfold jQ;rw [if_neg h]
 rw [hw]
 refine ⟨by simp,trivial,hl,fun h=>?_,fun h=>⟨fun h2=>?_,fun h2=>?_⟩⟩
 · have hk:Cz l o=1:=by rw [hK];simp at h;simp [h]
   simp [hY (by rw [hk];omega),hk]
 · have hk:Cz l o=141:=by rw [hK];simp at h h2;simp [h];omega
   simp [hY (by rw [hk];omega),hk]
 · have hk:Cz l o=0:=by rw [hK];simp at h h2;simp [h];omega
   obtain ⟨g1,g2,g3,g4,g5⟩:=Mk (m:=m) hk h0.1
   have gl:=ZU (m:=m) hk h0.1
   have go:Cn (jQ l o m):=by unfold jQ;rw [if_pos hk];exact EK g1 _ _
   have hn:(if (↑(Int.toNat (↑l.length:Int) - Int.toNat o):Int)<if (64:Int)<if (0:Int) > m then (0:Int) else m then (64:Int) else if (0:Int) > m then (0:Int) else m then (↑(Int.toNat (↑l.length:Int) - Int.toNat o):Int) else if (64:Int)<if (0:Int) > m then (0:Int) else m then (64:Int) else if (0:Int) > m then (0:Int) else m)=PX l o m:=by
    unfold PX
    omega
   simp only [hn]
   refine ⟨by simp;omega,by simp;omega,⟨⟨by simp,by omega,Z4 hk _ (by omega) _ fun k j _=>by rw [Nat.zero_add]⟩,trivial⟩,trivial,go,by simp [hk],by simp⟩
noncomputable def ah2 (b:Bool) (l:List Rec) (o m:Int):dZ Tryz.prog:=⟨109,[iM b l,.y (.int .u64 o),.y (.int .i64 m)],[],.need (l.length<=9223372036854775806/\0<=o/\o<=18446744073709551615) (feT l o m),T.Sat.need fun h=>ae0 b l o m h.1 h.2⟩
end N
namespace R
structure cu where
 kind:Int
 epoch:Int
 prod:Int
 seq:Int
 key:ByteArray
 val:List Int
 off:Int
 most:Int
 name:ByteArray
 plan:Int
instance:Inhabited cu:=⟨⟨0,0,0,0,ByteArray.empty,[],0,0,ByteArray.empty,0⟩⟩
structure mX where
 err:Int
 off:Int
 old:Bool
 recs:List Rec
instance:Inhabited mX:=⟨⟨0,0,false,[]⟩⟩
def bT (c:cu):List AV:=[.y (.int .i64 c.kind),.y (.int .u64 c.epoch),.y (.int .u64 c.prod),.y (.int .u64 c.seq),.y (.string c.key),ig true c.val,.y (.int .u64 c.off),.y (.int .i64 c.most),.y (.string c.name),.y (.int .u64 c.plan)]
def sS (c d:cu):Prop:=c.kind=d.kind/\c.epoch=d.epoch/\c.prod=d.prod/\c.seq=d.seq/\c.key=d.key/\(true=true/\List.length c.val=List.length d.val/\aj (List.length c.val) (1:Nat) (ah aJ c.val) (ah aJ d.val))/\c.off=d.off/\c.most=d.most/\c.name=d.name/\c.plan=d.plan/\True
@[simp] theorem ahI (c d:cu):sS c d=(c.kind=d.kind/\c.epoch=d.epoch/\c.prod=d.prod/\c.seq=d.seq/\c.key=d.key/\(true=true/\List.length c.val=List.length d.val/\aj (List.length c.val) (1:Nat) (ah aJ c.val) (ah aJ d.val))/\c.off=d.off/\c.most=d.most/\c.name=d.name/\c.plan=d.plan/\True):=rfl
def J3 (x:mX):List AV:=[.y (.int .i64 x.err),.y (.int .u64 x.off),.y (.bool x.old),dL true x.recs]
structure Cn (l:List Rec):Prop where
 n:l.length<=4096
 o:∀ k,k<l.length->0<=(l.getD k default).off/\(l.getD k default).off<=9223372036854775807
 v:∀ k,k<l.length->(l.getD k default).val.length<=140737488355328
def kG (l:List Rec) (x:Rec):Int:=if !bG l then 1 else if 32<x.key.size then 131 else if 256<x.val.length then 144 else if l.length=4096 then 143 else 0
def h_ (l:List Rec) (x:Rec):List Rec:=l++[x.to (IntKind.u64.wrap (l.length:Nat))]
def apT (l:List Rec) (x:Rec):T An:=.ite (kG l x==0) (.ret (.tup [.own 0 5 0 (h_ l x).length,.y (.int .u64 l.length),.s (.int .i64 0)],[OJ (h_ l x)],[])) (.ret (.tup [.s (.slice none 0 0),.y (.int .u64 0),.y (.int .i64 (kG l x))],[],[]))
def Oz (n:Nat) (o m:Int):Int:=if ((n - o.toNat:Nat):Int)<(if (64:Int)<(if (0:Int) > m then (0:Int) else m) then (64:Int) else if (0:Int) > m then (0:Int) else m) then ((n - o.toNat:Nat):Int) else (if (64:Int)<(if (0:Int) > m then (0:Int) else m) then (64:Int) else if (0:Int) > m then (0:Int) else m)
def vS (l:List Rec) (o m:Int):List Rec:=(l.drop o.toNat).take (Oz l.length o m).toNat
def Ga (l:List Rec) (o:Int):Int:=if !bG l then 1 else if (l.length:Int)<o then 141 else 0
def feT (l:List Rec) (o m:Int):T An:=.ite (Ga l o==0) (.ret (.tup [.own 0 5 0 (vS l o m).length,.s (.int .i64 0)],[OJ (vS l o m)],[])) (.ret (.tup [.s (.slice none 0 0),.y (.int .i64 (Ga l o))],[],[]))
theorem EK {l:List Rec} (h:bG l=true):Cn l:=by
 have h1:=j_ h
 refine ⟨h1,fun k hk=>?_,fun k hk=>?_⟩
 · simp only [bG,Bool.and_eq_true] at h
   have h2:=h.1
   unfold aU at h2
   rw [List.all_eq_true] at h2
   have h3:=h2 k (by simp;omega)
   simp only [VA,Bool.and_eq_true] at h3
   have h4:=h3.1
   simp at h4
   rw [wrap_u64 (by omega) (by omega)] at h4
   simp
   omega
 · have:=L_ h hk
   omega
noncomputable def aiL (b:Bool) (l:List P.Producer):dZ Tryz.prog:=⟨101,[P.bg b l],[],.need (l.length*32<=140737488355328) (P.Cc l),T.Sat.need fun h=>P.y5 b l h⟩
noncomputable def ah8 (b:Bool) (l:List Con):dZ Tryz.prog:=⟨102,[dB b l],[],.need (l.length*24<=140737488355328) (ccR l),T.Sat.need fun h=>agk b l h⟩
noncomputable def juC (b:Bool) (l:List P.Producer) (id s:Int):dZ Tryz.prog:=⟨98,[P.bg b l,.y (.int .u64 id),.y (.int .u64 s)],[],.need (l.length<=9223372036854775806) (P.ru l id s),T.Sat.need fun h=>P.Nq b l id s h⟩
def okN (c:cu):Bool:=!(P.aS [] c.prod c.seq==4)
def dU (c:cu):Bool:=if c.kind=1 then okN c&&(decide ((c.key.size:Int)<=32)&&decide ((c.val.length:Int)<=256)) else if c.kind=2 then decide (1<=c.most)&&decide (c.most<=64) else if c.kind=3 then okN c&&b_ c.name else if c.kind=4 then b_ c.name else if c.kind=5∨c.kind=6 then !(c.plan==0) else false
noncomputable def weH (c:cu):aC Tryz.prog:=hh _ bO (cs1 38 3 4 (juC true [] c.prod c.seq) (cs1 38 8 4 (juC true [] c.prod c.seq) (cs1 38 9 5 (LG c.name) (cs1 38 11 2 (LG c.name) bN)))) bM
def aeK (c:cu):Prop :=
 ((c.kind==1)=true->(0=0/\c.prod=c.prod/\c.seq=c.seq/\True)/\True/\0<=9223372036854775806/\((P.aS [] c.prod c.seq != 4)=true->(decide (((ByteArray.size c.key):Int)<=32)=true->decide ((c.val.length:Int)<=256)=dU c/\True)/\(decide (((ByteArray.size c.key):Int)<=32)=false->false=dU c/\True))/\((P.aS [] c.prod c.seq != 4)=false->false=dU c/\True))/\((c.kind==1)=false->((c.kind==2)=true->(decide (1<=c.most)=true->decide (c.most<=64)=dU c/\True)/\(decide (1<=c.most)=false->false=dU c/\True))/\((c.kind==2)=false->((c.kind==3)=true->(0=0/\c.prod=c.prod/\c.seq=c.seq/\True)/\True/\0<=9223372036854775806/\((P.aS [] c.prod c.seq != 4)=true->(c.name=c.name/\True)/\True/\b_ c.name=dU c/\True)/\((P.aS [] c.prod c.seq != 4)=false->false=dU c/\True))/\((c.kind==3)=false->((c.kind==4)=true->(c.name=c.name/\True)/\True/\b_ c.name=dU c/\True)/\((c.kind==4)=false->((c.kind==5)=true->(c.plan != 0)=dU c/\True)/\((c.kind==5)=false->((c.kind==6)=true->(c.plan != 0)=dU c/\True)/\((c.kind==6)=false->false=dU c/\True))))))
theorem X9 (c:cu):(bf Tryz.prog (weH c) 38 [.agg (bT c)] [] (aZ (dU c)))=aeK c:=by kernel_rfl
end R
namespace D
structure jH (p:Part):Prop where
 rl:p.recs.length<=4611686018427387903
 pl:p.prods.length<=4611686018427387903
 cl:p.cons.length<=4611686018427387903
 po:∀ x∈p.prods,0<=x.offset/\x.offset<18446744073709551616
 co:wfC p.cons
theorem jH.isIn {p:Part} (h:jH p):eG p:=⟨h.rl,h.pl,h.cl,fun k hk=>(h.po _ (by simp [hk])).1⟩
theorem ai7 (x:P.Producer) (j:Nat) (hj:j<4):fC (Ax.get (P.ak x) j)=true:=by
 match j,hj with
 | 0,_=>rfl
 | 1,_=>rfl
 | 2,_=>rfl
 | 3,_=>rfl
theorem aiB (x:Con) (j:Nat) (hj:j<2):fC (Ax.get (aD x) j)=true:=by
 match j,hj with
 | 0,_=>rfl
 | 1,_=>rfl
def bad (p:Part):Bool:=!aH p||IntKind.u64.wrap (p.epoch+1)==0
theorem jg:∀ l:List UInt8,Op.bytesLess l l=false
 | []=>rfl
 | a::l=>by simp [Op.bytesLess,jg l]
theorem adP (a:ByteArray):lt a a=false:=jg _
theorem AZ {p:Part} (h:aH p=true):fK p.rng=0/\p.epoch≠0/\bG p.recs=true/\P.bE p.prods=true/\bW p.cons=true/\bI p 0=true/\p.prods.any (cB p)=false/\p.cons.any (bY p.recs.length)=false:=by
 simp only [aH,Bool.and_eq_true,Bool.not_eq_true',beq_iff_eq] at h
 obtain ⟨a,b,c,d,e,f,g,i⟩:=h
 exact ⟨a,by simpa using b,c,d,e,f,g,i⟩
end D
namespace R
structure qO (p:Part):Prop where
 n:p.recs.length<=4096
 v:∀ k,k<p.recs.length->(p.recs.getD k default).val.length<=140737488355328
 pl:p.prods.length<=4294967296
 cl:p.cons.length<=4294967296
theorem aiy (c:cu):(aZ (dU c)).Sat (aB Tryz.prog 38 [.agg (bT c)] []):=by
 refine aP (ht:=weH c) Tryz.mixed rfl ?_
 rw [X9 c]
 unfold aeK dU okN
 by_cases h1:c.kind=1
 · by_cases h2:P.aS [] c.prod c.seq=4<;>by_cases h3:(c.key.size:Int)<=32<;>simp [h1,h2,h3]
 · by_cases h2:c.kind=2
   · by_cases h3:1<=c.most<;>simp [h2,h3]
   · by_cases h3:c.kind=3
     · by_cases h4:P.aS [] c.prod c.seq=4<;>simp [h3,h4]
     · by_cases h4:c.kind=4
       · simp [h4]
       · by_cases h5:c.kind=5
         · simp [h5];rfl
         · by_cases h6:c.kind=6
           · simp [h6];rfl
           · simp [h1,h2,h3,h4,h5,h6]
noncomputable def weC (c:cu):dZ Tryz.prog:=⟨38,[.agg (bT c)],[],aZ (dU c),aiy c⟩
end R
namespace N
open H Q R
def Hl (l:List P.Producer):ay:=.row 80 4 l.length none (ah P.ak l)
def Z8 (p:Part) (i j k:Nat):List AV:=[.y (.string p.rng.lo),.y (.string p.rng.hi),.y (.int .u64 p.epoch),.y (.int .u64 p.frozen),.own i 5 0 p.recs.length,.own j 4 0 p.prods.length,.own k 2 0 p.cons.length]
def ptM (p:Part):List ay:=[wU p.recs,Hl p.prods,FY p.cons]
def VJ (p:Part):T An:=.ret (.agg (Z8 p 0 1 2),ptM p,[])
def pwT (b:Bool) (p:Part) (k:Nat):List AV:=mkT 37 [(1,.ptr 0 0 0 0),(2,.ptr 1 0 0 0),(3,.own 2 5 0 k),(11,dL b p.recs),(12,.y (.int .i64 p.recs.length)),(13,.y (.int .i64 k))]
def pwM (b:Bool) (p:Part) (k:Nat):List ay:=[.box 30 (aX b p),.box 30 (aX true default),K8 p.recs k]
def pwS (b:Bool) (p:Part) (_:Unit):Exit×List AV×List ay:=(.exit 0,mkT 37 [(1,.ptr 0 0 0 0),(2,.ptr 1 0 0 0),(3,.own 2 5 0 p.recs.length)],[.box 30 (aX b p),.box 30 (aX true default),wU p.recs])
noncomputable def afb (p:Part) (k:Nat):aC Tryz.prog:=dO (hh _ bO (cs1 39 5 2 (QI true (p.recs.getD k default).val.length (ah aJ (p.recs.getD k default).val)) bN) bM) noSh
def aa7 (b:Bool) (p:Part) (k:{ k:Nat // k<=p.recs.length }):Prop :=
 (decide ((k.val:Int)<(p.recs.length:Int))=true->(true&&decide ((k.val:Int)<(p.recs.length:Int)))=true/\((true=true/\(p.recs.getD (Int.toNat (k.val:Int)) default).val.length=(p.recs.getD k.val default).val.length/\aj (p.recs.getD (Int.toNat (k.val:Int)) default).val.length 1 (ah aJ (p.recs.getD (Int.toNat (k.val:Int)) default).val) (ah aJ (p.recs.getD k.val default).val))/\True)/\True/\(p.recs.getD k.val default).val.length<=140737488355328/\k.val=k.val/\k.val+1<=9223372036854775807/\(k.val+1)*64<=140737488355328/\∃ (j:{ k:Nat // k<=p.recs.length }),p.recs.length - j.val<p.recs.length - k.val/\(((0=0/\0=0)/\(0=0/\0=0)/\(0=0/\k.val+1=j.val)/\(b=b/\p.recs.length=p.recs.length/\aj p.recs.length 5 (ah encR p.recs) (ah encR p.recs))/\(p.recs.length:Int)=(p.recs.length:Int)/\IntKind.i64.wrap ((k.val:Int)+1)=(j.val:Int)/\True)/\(((bQ b b p p)/\(ByteArray.empty=ByteArray.empty/\ByteArray.empty=ByteArray.empty/\(0:Int)=0/\(0:Int)=0/\(true=true/\0=0/\aj 0 5 (ah encR []) (ah encR []))/\(true=true/\0=0/\aj 0 4 (ah P.ak []) (ah P.ak []))/\(true=true/\0=0/\aj 0 2 (ah aD []) (ah aD []))/\True)/\(k.val+1=j.val/\(((true=true/\(p.recs.getD (Int.toNat (k.val:Int)) default).off=(p.recs.getD k.val default).off)/\(true=true/\(p.recs.getD (Int.toNat (k.val:Int)) default).key=(p.recs.getD k.val default).key)/\((p.recs.getD k.val default).val.length=(p.recs.getD k.val default).val.length/\aj (p.recs.getD k.val default).val.length 1 (ah aJ (p.recs.getD k.val default).val) (ah aJ (p.recs.getD k.val default).val))/\(true=true/\(p.recs.getD (Int.toNat (k.val:Int)) default).prod=(p.recs.getD k.val default).prod)/\(true=true/\(p.recs.getD (Int.toNat (k.val:Int)) default).seq=(p.recs.getD k.val default).seq)/\True)/\True)/\∀ k_1,k_1<k.val+1->¬k_1=k.val->(p.recs.getD k_1 default).off=(p.recs.getD k_1 default).off/\(p.recs.getD k_1 default).key=(p.recs.getD k_1 default).key/\((p.recs.getD k_1 default).val.length=(p.recs.getD k_1 default).val.length/\aj (p.recs.getD k_1 default).val.length 1 (ah aJ (p.recs.getD k_1 default).val) (ah aJ (p.recs.getD k_1 default).val))/\(p.recs.getD k_1 default).prod=(p.recs.getD k_1 default).prod/\(p.recs.getD k_1 default).seq=(p.recs.getD k_1 default).seq/\True)/\True)/\True)/\true=true)/\true=true/\()=())/\(decide ((k.val:Int)<(p.recs.length:Int))=false->((0=0/\0=0)/\(0=0/\0=0)/\(0=0/\k.val=p.recs.length)/\True)/\((bQ b b p p)/\(ByteArray.empty=ByteArray.empty/\ByteArray.empty=ByteArray.empty/\(0:Int)=0/\(0:Int)=0/\(true=true/\0=0/\aj 0 5 (ah encR []) (ah encR []))/\(true=true/\0=0/\aj 0 4 (ah P.ak []) (ah P.ak []))/\(true=true/\0=0/\aj 0 2 (ah aD []) (ah aD []))/\True)/\(k.val=p.recs.length/\∀ k_1,k_1<k.val->(p.recs.getD k_1 default).off=(p.recs.getD k_1 default).off/\(p.recs.getD k_1 default).key=(p.recs.getD k_1 default).key/\((p.recs.getD k_1 default).val.length=(p.recs.getD k_1 default).val.length/\aj (p.recs.getD k_1 default).val.length 1 (ah aJ (p.recs.getD k_1 default).val) (ah aJ (p.recs.getD k_1 default).val))/\(p.recs.getD k_1 default).prod=(p.recs.getD k_1 default).prod/\(p.recs.getD k_1 default).seq=(p.recs.getD k_1 default).seq/\True)/\True)/\true=true)
theorem Qi (b:Bool) (p:Part) (k:{ k:Nat // k<=p.recs.length }):(bP Tryz.prog (afb p k.1) 39 3 (fun (k:{ k:Nat // k<=p.recs.length })=>p.recs.length - k.1) (fun k=>pwT b p k.1) (fun k=>pwM b p k.1) [0,1,2,3,4,5,6] (fun _=>.ret ()) (pwS b p) k)=aa7 b p k:=by kernel_rfl
noncomputable def pwH (b:Bool) (p:Part):aC Tryz.prog:=dO (hh _ (mU 39 3 (dM (fun (k:{ k:Nat // k<=p.recs.length })=>pwT b p k.1) (fun k=>pwM b p k.1) [0,1,2,3,4,5,6] (fun _=>.ret ()) (pwS b p) ⟨0,Nat.zero_le _⟩) bO) (cs1 39 8 3 (aiL b p.prods) (cs1 39 8 6 (ah8 b p.cons) bN)) bM) (uL 39 1 3 787 noSh)
def agl (b:Bool) (p:Part):Prop :=
 (0:Int)=0/\0<=(p.recs.length:Int)/\64*(p.recs.length:Int)<=281474976710656/\(p.recs.length:Int)<=9223372036854775807/\(((0=0/\0=0)/\(0=0/\0=0)/\(0=0/\0=0)/\(b=b/\p.recs.length=p.recs.length/\aj p.recs.length 5 (ah encR p.recs) (ah encR p.recs))/\(p.recs.length:Int)=(p.recs.length:Int)/\(0:Int)=0/\True)/\((bQ b b p p)/\({ data:=#[]:ByteArray }=ByteArray.empty/\{ data:=#[]:ByteArray }=ByteArray.empty/\(0:Int)=0/\(0:Int)=0/\0=0/\0=0/\0=0/\True)/\(0=0/\∀ k,k<0->False/\False/\False/\False/\False/\True)/\True)/\true=true)/\aL Tryz.prog 39 3 (aN Tryz.prog 39 3) { t:=pwT b p (⟨0,pwH._proof_1 p⟩:{ k:Nat // k<=p.recs.length }).val,m:=pwM b p (⟨0,pwH._proof_1 p⟩:{ k:Nat // k<=p.recs.length }).val,mv:=[]:St } (T.map (bJ [0,1,2,3,4,5,6] (pwS b p)) ((fun (x:{ k:Nat // k<=p.recs.length })=>T.ret ()) (⟨0,pwH._proof_1 p⟩:{ k:Nat // k<=p.recs.length })))/\((b=b/\p.prods.length=p.prods.length/\aj p.prods.length 4 (ah P.ak p.prods) (ah P.ak p.prods))/\True)/\True/\p.prods.length*32<=140737488355328/\((b=b/\p.cons.length=p.cons.length/\aj p.cons.length 2 (ah aD p.cons) (ah aD p.cons))/\True)/\True/\p.cons.length*24<=140737488355328/\(p.rng.lo=p.rng.lo/\p.rng.hi=p.rng.hi/\p.epoch=p.epoch/\p.frozen=p.frozen/\(0=0/\p.recs.length=p.recs.length)/\(0=0/\p.prods.length=p.prods.length)/\(0=0/\p.cons.length=p.cons.length)/\True)/\(p.recs.length=p.recs.length/\∀ k,k<p.recs.length->(p.recs.getD k default).off=(p.recs.getD k default).off/\(p.recs.getD k default).key=(p.recs.getD k default).key/\((p.recs.getD k default).val.length=(p.recs.getD k default).val.length/\aj (p.recs.getD k default).val.length 1 (ah aJ (p.recs.getD k default).val) (ah aJ (p.recs.getD k default).val))/\(p.recs.getD k default).prod=(p.recs.getD k default).prod/\(p.recs.getD k default).seq=(p.recs.getD k default).seq/\True)/\(p.prods.length=p.prods.length/\aj p.prods.length 4 (ah P.ak p.prods) (ah P.ak p.prods))/\(p.cons.length=p.cons.length/\aj p.cons.length 2 (ah aD p.cons) (ah aD p.cons))/\True
theorem Ym (b:Bool) (p:Part):(bf Tryz.prog (pwH b p) 39 [.agg (aX b p)] [] (VJ p))=agl b p:=by kernel_rfl
theorem WS (b:Bool) (p:Part) (h:qO p) (k:{ k:Nat // k<=p.recs.length }):aL Tryz.prog 39 3 (aN Tryz.prog 39 3) ⟨pwT b p k.1,pwM b p k.1,[]⟩ (T.map (bJ [0,1,2,3,4,5,6] (pwS b p)) (.ret ())):=by
 refine dK (P:=Tryz.prog) (f:=39) (k:=3) (μ:=fun (k:{ k:Nat // k<=p.recs.length })=>p.recs.length - k.1) (o:=fun _=>.ret ()) (ht:=fun k=>afb p k.1) (sV:=fun k=>pwT b p k.1) (stM:=fun k=>pwM b p k.1) (X:=[0,1,2,3,4,5,6]) (S:=pwS b p) Tryz.mixed (fun _=>rfl) (fun k=>(Qi b p k).mpr ?_) k
 unfold aa7
 obtain ⟨k,hk⟩:=k
 have hn:=h.n
 by_cases hkl:k<p.recs.length
 · have hv:=h.v k hkl
   have hex:∀ q:{ k:Nat // k<=p.recs.length }->Prop,q ⟨k+1,hkl⟩->∃ j,q j:=fun q hq=>⟨_,hq⟩
   have hw:IntKind.i64.wrap ((k:Int)+1)=((k+1:Nat):Int):=by rw [wrap_i64 (by omega) (by omega)];omega
   simp only [Int.toNat_natCast]
   generalize p.recs.getD k default=x at hv ⊢
   refine ⟨fun _=>?_,fun h=>by simp at h;omega⟩
   repeat' with_reducible apply And.intro
   all_goals first
    | with_reducible rfl
    | exact trivial
    | omega
    | (simp;done)
    | (simp;omega)
    | exact aG _ _ _
    | (refine hex _ ?_;simp [hw];omega)
 · obtain rfl:k=p.recs.length:=by omega
   refine ⟨fun h=>by simp at h,fun _=>?_⟩
   simp
theorem aiT (b:Bool) (p:Part) (h:qO p):(VJ p).Sat (aB Tryz.prog 39 [.agg (aX b p)] []):=by
 refine aP (ht:=pwH b p) Tryz.mixed rfl ?_
 rw [Ym b p]
 unfold agl
 have lp:=WS b p h ⟨0,Nat.zero_le _⟩
 have hn:=h.n
 have hp:=h.pl
 have hc:=h.cl
 simp [lp]
 exact ⟨by omega,by omega,rfl,by omega,by omega⟩
end N
namespace R
noncomputable def ahl (b:Bool) (l:List P.Producer) (id seq o:Int):dZ Tryz.prog:=⟨135,[P.bg b l,.y (.int .u64 id),.y (.int .u64 seq),.y (.int .u64 o)],[],.need (l.length<=9223372036854775806) (P.jP l (P.bK id seq true o)),T.Sat.need fun h=>P.aax b l id seq o h⟩
noncomputable def abT (b:Bool) (l:List P.Producer) (id seq:Int):dZ Tryz.prog:=⟨139,[P.bg b l,.y (.int .u64 id),.y (.int .u64 seq)],[],.need (l.length<=9223372036854775806) (P.jP l (P.bK id seq false 0)),T.Sat.need fun h=>P.Vz b l id seq h⟩
def newR (c:cu):Rec:=⟨0,c.key,c.val,c.prod,c.seq⟩
def nL (p:Part) (c:cu):P.Producer:=P.bK c.prod c.seq true p.recs.length
def nM (c:cu):P.Producer:=P.bK c.prod c.seq false 0
def qE (p:Part) (c:cu):Int:=dH p.cons ⟨c.name,c.off⟩ (IntKind.u64.wrap (p.recs.length:Nat))
def RD (c:cu) (e:Int):List ay:=[.box 186 [.y (.int .i64 c.kind),.ifc 31 (.y (.int .i64 e))]]
def agM (c:cu):List ay:=[.box 186 [.y (.int .i64 c.kind),.ifc 141 (.agg [])]]
def tL (p:Part) (c:cu):Int:=if fZ p.rng c.key=false then 163 else if P.aS p.prods c.prod c.seq=2 then 999 else if P.aS p.prods c.prod c.seq=3 then 152 else if p.frozen≠0 then 164 else if kG p.recs (newR c)≠0 then kG p.recs (newR c) else P.aI p.prods (nL p c)
def Rv (p:Part) (c:cu):Part:=⟨p.rng,p.epoch,p.frozen,h_ p.recs (newR c),P.aF p.prods (nL p c),p.cons⟩
def vE (p:Part) (c:cu):Int:=if P.aS p.prods c.prod c.seq≠1 then 999 else if p.frozen≠0 then 164 else if qE p c≠0 then qE p c else P.aI p.prods (nM c)
def RY (p:Part) (c:cu):Part:=⟨p.rng,p.epoch,p.frozen,p.recs,P.aF p.prods (nM c),aF p.cons ⟨c.name,c.off⟩⟩
def yC (p:Part) (c:cu):Bool:=!(p.frozen==0)&&!(p.frozen==c.plan)
def Gc (p:Part) (by':Int):Part:=⟨p.rng,p.epoch,by',p.recs,p.prods,p.cons⟩
theorem tRs (l:List Rec):∀ (k:Nat),k<l.length->∀ (j:Nat),j<5->fC (ah encR l k j)=true:=fun k _ j hj=>aiQ _ j hj
theorem tPs (l:List P.Producer):∀ (k:Nat),k<l.length->∀ (j:Nat),j<4->fC (ah P.ak l k j)=true:=fun k _ j hj=>D.ai7 _ j hj
theorem tCs (l:List Con):∀ (k:Nat),k<l.length->∀ (j:Nat),j<2->fC (ah aD l k j)=true:=fun k _ j hj=>D.aiB _ j hj
theorem wG (l:List P.Producer) (x:P.Producer):P.aI l x≠999:=by
 unfold P.aI
 repeat' split
 all_goals decide
theorem LB (l:List Rec) (x:Rec):kG l x≠999:=by
 unfold kG
 repeat' split
 all_goals decide
theorem Nj (l:List Con) (x:Con) (e:Int):dH l x e≠999:=by
 unfold dH
 repeat' split
 all_goals decide
def un9 (e:Int):Int:=if e=999 then 0 else e
def lg (p:Part) (c:cu):Int:=if c.kind=1 then un9 (tL p c) else if c.kind=3 then un9 (vE p c) else if c.kind=5∨c.kind=6 then (if yC p c=true then 164 else 0) else if p.frozen≠0 then 164 else if c.kind=2 then Ga p.recs c.off else 0
def JU (c:cu):Int:=if c.kind=5 then c.plan else 0
def Iw (p:Part) (c:cu):Part:=if c.kind=1 then (if tL p c=0 then Rv p c else p) else if c.kind=3 then (if vE p c=0 then RY p c else p) else if c.kind=5∨c.kind=6 then (if yC p c=true then p else Gc p (JU c)) else p
def qp (p:Part) (c:cu):mX :=
 if c.kind=1 then (if tL p c=0 then ⟨0,p.recs.length,false,[]⟩ else if tL p c=999 then ⟨0,P.eu p.prods c.prod c.seq,true,[]⟩ else ⟨0,0,false,[]⟩)
 else if c.kind=3 then (if vE p c=999 then ⟨0,0,true,[]⟩ else ⟨0,c.off,false,[]⟩)
 else if c.kind=5∨c.kind=6 then ⟨0,0,!yC p c&&p.frozen==JU c,[]⟩
 else if p.frozen≠0 then ⟨0,0,false,[]⟩
 else if c.kind=4 then ⟨0,gV p.cons c.name,jG p.cons c.name,[]⟩
 else if c.kind=2 then (if Ga p.recs c.off=0 then ⟨0,IntKind.u64.wrap (c.off+IntKind.u64.wrap (vS p.recs c.off c.most).length),false,vS p.recs c.off c.most⟩ else ⟨0,c.off,false,[]⟩)
 else ⟨0,0,false,[]⟩
structure Act where
 q:Part
 x:mX
 e:Int
end R
namespace N
open H Q R
def ptG (p:Part):List ay:=[.dead,.dead,.dead,.dead,wU p.recs,Hl p.prods,FY p.cons]
def uS (p:Part):List ay:=[.dead,.dead,.dead,.dead,wU p.recs,Hl p.prods,FY p.cons,.dead,.dead,.dead,.dead,.dead]
def yS:List Nat:=[0,1,2,3,4,5,6,7,8,9,10,11,12,13,14,15,16,17,18,19,20,21,22,23,24,25]
def Cg (p:Part):AV:=.agg (Z8 p 4 5 6)
def dw (a:Part) (b:Part):Prop :=
 a.rng.lo=b.rng.lo/\a.rng.hi=b.rng.hi/\a.epoch=b.epoch/\a.frozen=b.frozen/\((0:Nat)=(0:Nat)/\List.length a.recs=List.length b.recs)/\((0:Nat)=(0:Nat)/\List.length a.prods=List.length b.prods)/\((0:Nat)=(0:Nat)/\List.length a.cons=List.length b.cons)/\True
def bC (a:Part) (b:Part):Prop :=
 List.length a.recs=List.length b.recs/\∀ (k:Nat),k<List.length a.recs->(List.getD a.recs k (@default Rec instInhabitedRec)).off=(List.getD b.recs k (@default Rec instInhabitedRec)).off/\(List.getD a.recs k (@default Rec instInhabitedRec)).key=(List.getD b.recs k (@default Rec instInhabitedRec)).key/\(List.length (List.getD a.recs k (@default Rec instInhabitedRec)).val=List.length (List.getD b.recs k (@default Rec instInhabitedRec)).val/\aj (List.length (List.getD a.recs k (@default Rec instInhabitedRec)).val) (1:Nat) (ah aJ (List.getD a.recs k (@default Rec instInhabitedRec)).val) (ah aJ (List.getD b.recs k (@default Rec instInhabitedRec)).val))/\(List.getD a.recs k (@default Rec instInhabitedRec)).prod=(List.getD b.recs k (@default Rec instInhabitedRec)).prod/\(List.getD a.recs k (@default Rec instInhabitedRec)).seq=(List.getD b.recs k (@default Rec instInhabitedRec)).seq/\True
def bH (a:Part) (b:Part):Prop :=
 List.length a.prods=List.length b.prods/\aj (List.length a.prods) (4:Nat) (ah P.ak a.prods) (ah P.ak b.prods)
def bB (a:Part) (b:Part):Prop :=
 List.length a.cons=List.length b.cons/\aj (List.length a.cons) (2:Nat) (ah aD a.cons) (ah aD b.cons)
theorem lQ (a:Part):dw a a:=by unfold dw;simp
theorem lZ (a:Part):bC a a:=by unfold bC;simp
theorem lU (a:Part):bH a a:=by unfold bH;simp
theorem lN (a:Part):bB a a:=by unfold bB;simp
end N
end Go.Proofs.YtnbhdjadlbhknaaGreatDoor
