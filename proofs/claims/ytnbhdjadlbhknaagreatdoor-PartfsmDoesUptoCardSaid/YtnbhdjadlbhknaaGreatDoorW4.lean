import Derived.Test.YtnbhdjadlbhknaaGreatDoorW1
import Derived.Test.YtnbhdjadlbhknaaGreatDoorW3
set_option linter.unusedVariables false
set_option linter.unusedSimpArgs false
set_option maxRecDepth 1000000
namespace Go.Proofs.YtnbhdjadlbhknaaGreatDoor
open Go.Ax
section
def cu (p:Part) (x:P.Producer):Bool:=x.here&&(decide ((p.recs.length:Int)<=x.offset)||((p.recs.getD x.offset.toNat default).prod != x.id||(p.recs.getD x.offset.toNat default).seq != x.seq))
def LD (b:Bool) (p:Part):List AV:=[.ip false 1 (get [.y (.int .u64 (IntKind.u64.wrap p.recs.length))]),.ip false 7 (get (aX b p))]
def S_ (b:Bool) (p:Part) (x:P.Producer):Prop :=
 (x.here=true->(decide (IntKind.u64.wrap (p.recs.length:Int)<=x.offset)=true->true=cu p x/\True)/\(decide (IntKind.u64.wrap (p.recs.length:Int)<=x.offset)=false->(decide (0<=x.offset)&&decide (x.offset<(p.recs.length:Int)))=true/\(((p.recs.getD (Int.toNat x.offset) default).prod != x.id)=true->true=cu p x/\True)/\(((p.recs.getD (Int.toNat x.offset) default).prod != x.id)=false->(decide (0<=x.offset)&&decide (x.offset<(p.recs.length:Int)))=true/\((p.recs.getD (Int.toNat x.offset) default).seq != x.seq)=cu p x/\True)))/\(x.here=false->false=cu p x/\True)
theorem OM (b:Bool) (p:Part) (x:P.Producer):(bf Tryz.prog (hT _) 42 ([.agg (P.ak x)]++LD b p) [] (aZ (cu p x)))=S_ b p x:=by kernel_rfl
def bW (n:Nat) (x:Con):Bool:=decide ((n:Int)<x.off)
def Fj (n:Nat):List AV:=[.ip false 1 (get [.y (.int .u64 (IntKind.u64.wrap n))])]
def Nt (n:Nat) (x:Con):Prop :=
 decide (IntKind.u64.wrap (n:Int)<x.off)=bW n x/\True
theorem JV (n:Nat) (x:Con):(bf Tryz.prog (hT _) 43 ([.agg (aD x)]++Fj n) [] (aZ (bW n x)))=Nt n x:=by kernel_rfl
theorem aef (b:Bool) (p:Part) (x:P.Producer) (h1:p.recs.length<=9223372036854775806) (h2:0<=x.offset):(aZ (cu p x)).Sat (aB Tryz.prog 42 ([.agg (P.ak x)]++LD b p) []):=by
 refine aP (ht:=hT _) Tryz.mixed rfl ?_
 rw [OM b p x]
 unfold S_
 have hw:IntKind.u64.wrap (p.recs.length:Int)=p.recs.length:=wrap_u64 (by omega) (by omega)
 simp only [hw]
 unfold cu
 generalize p.recs.getD x.offset.toNat default=y
 cases hh:x.here
 · simp
 · by_cases h3:(p.recs.length:Int)<=x.offset
   · simp [h3]
   · have h4:x.offset<p.recs.length:=by omega
     by_cases h5:y.prod=x.id<;>by_cases h6:y.seq=x.seq<;>simp [h3,h4,h2,h5,h6]
theorem YW (n:Nat) (x:Con) (h1:n<=9223372036854775806):(aZ (bW n x)).Sat (aB Tryz.prog 43 ([.agg (aD x)]++Fj n) []):=by
 refine aP (ht:=hT _) Tryz.mixed rfl ?_
 rw [JV n x]
 unfold Nt
 have hw:IntKind.u64.wrap (n:Int)=n:=wrap_u64 (by omega) (by omega)
 simp [hw,bW]
def Yn (b:Bool) (p:Part):AV:=.fn (.func 42) [] (LD b p)
def iB (b:Bool) (p:Part) (l:List P.Producer):Bool:=l.any (cu p)
theorem NW (b:Bool) (p:Part):iB b p []=false:=rfl
theorem KZ (b:Bool) (p:Part) (y:P.Producer) (l:List P.Producer):iB b p (y::l)=(cu p y||iB b p l):=rfl
noncomputable def loC (b:Bool) (p:Part) (x:P.Producer):eu Tryz.prog:=⟨42,[.agg (P.ak x)]++(LD b p),[],.need (p.recs.length<=9223372036854775806/\0<=x.offset) (aZ (cu p x)),T.Sat.need fun h=>aef b p x h.1 h.2⟩
def loT (b:Bool) (p:Part) (bb:Bool) (l:List P.Producer) (k:Nat):List AV:=mkT 19 [(0,.ys bb 4 l.length (ah P.ak l)),(1,Yn b p),(4,.s (.int .i64 0)),(7,.y (.int .i64 l.length)),(8,.y (.int .i64 k))]
def loS (r:Bool×Nat):Exit×List AV×List ay:=match r.1 with
 | true=>(.ret,mkT 19 [(4,.y (.int .i64 r.2))],[])
 | false=>(.exit 0,mkT 19 [],[])
def loO (b:Bool) (p:Part) (l:List P.Producer) (k:Nat):T (Bool×Nat):=.ite (iB b p (l.drop k)) (.ret (true,k+(l.drop k).findIdx (cu p))) (.ret (false,0))
noncomputable def afU (b:Bool) (p:Part) (l:List P.Producer) (k:Nat):aC Tryz.prog:=hh _ bO (cs1 116 4 5 (loC b p (l.getD k default)) bM) bL
def aaX (b:Bool) (p:Part) (bb:Bool) (l:List P.Producer) (k:Nat):Prop :=
 (decide ((↑k:Int)<(↑(List.length l):Int))=true->(true&&decide ((↑k:Int)<(↑(List.length l):Int)))=true/\(((List.getD l (Int.toNat (↑k:Int)) (@default P.Producer P.instInhabitedProducer)).id=(List.getD l k (@default P.Producer P.instInhabitedProducer)).id/\(List.getD l (Int.toNat (↑k:Int)) (@default P.Producer P.instInhabitedProducer)).seq=(List.getD l k (@default P.Producer P.instInhabitedProducer)).seq/\(List.getD l (Int.toNat (↑k:Int)) (@default P.Producer P.instInhabitedProducer)).here=(List.getD l k (@default P.Producer P.instInhabitedProducer)).here/\(List.getD l (Int.toNat (↑k:Int)) (@default P.Producer P.instInhabitedProducer)).offset=(List.getD l k (@default P.Producer P.instInhabitedProducer)).offset/\True)/\(false=false/\(1:Nat)<=(1:Nat)/\gq (1:Nat) (Ax.get [AV.y (Value.int IntKind.u64 (IntKind.wrap IntKind.u64 (↑(List.length p.recs):Int)))]) (Ax.get [AV.y (Value.int IntKind.u64 (IntKind.wrap IntKind.u64 (↑(List.length p.recs):Int)))]))/\(false=false/\(7:Nat)<=(7:Nat)/\gq (7:Nat) (Ax.get [AV.y (Value.string p.rng.lo),AV.y (Value.string p.rng.hi),AV.y (Value.int IntKind.u64 p.epoch),AV.y (Value.int IntKind.u64 p.frozen),AV.ys b (5:Nat) (List.length p.recs) (ah encR p.recs),AV.ys b (4:Nat) (List.length p.prods) (ah P.ak p.prods),AV.ys b (2:Nat) (List.length p.cons) (ah aD p.cons)]) (Ax.get [AV.y (Value.string p.rng.lo),AV.y (Value.string p.rng.hi),AV.y (Value.int IntKind.u64 p.epoch),AV.y (Value.int IntKind.u64 p.frozen),AV.ys b (5:Nat) (List.length p.recs) (ah encR p.recs),AV.ys b (4:Nat) (List.length p.prods) (ah P.ak p.prods),AV.ys b (2:Nat) (List.length p.cons) (ah aD p.cons)]))/\True)/\True/\(List.length p.recs<=(9223372036854775806:Nat)/\(0:Int)<=(List.getD l k (@default P.Producer P.instInhabitedProducer)).offset)/\(cu p (List.getD l k (@default P.Producer P.instInhabitedProducer))=true->(iB b p (List.drop k l)=true->((↑k:Int)=(↑(k+List.findIdx (cu p) (List.drop k l)):Int)/\True)/\True/\true=true)/\(iB b p (List.drop k l)=false->False))/\(cu p (List.getD l k (@default P.Producer P.instInhabitedProducer))=false->∃ (j:Nat),List.length l - j<List.length l - k/\(((bb=bb/\List.length l=List.length l/\aj (List.length l) (4:Nat) (ah P.ak l) (ah P.ak l))/\(True/\(false=false/\(1:Nat)<=(1:Nat)/\gq (1:Nat) (Ax.get [AV.y (Value.int IntKind.u64 (IntKind.wrap IntKind.u64 (↑(List.length p.recs):Int)))]) (Ax.get [AV.y (Value.int IntKind.u64 (IntKind.wrap IntKind.u64 (↑(List.length p.recs):Int)))]))/\(false=false/\(7:Nat)<=(7:Nat)/\gq (7:Nat) (Ax.get [AV.y (Value.string p.rng.lo),AV.y (Value.string p.rng.hi),AV.y (Value.int IntKind.u64 p.epoch),AV.y (Value.int IntKind.u64 p.frozen),AV.ys b (5:Nat) (List.length p.recs) (ah encR p.recs),AV.ys b (4:Nat) (List.length p.prods) (ah P.ak p.prods),AV.ys b (2:Nat) (List.length p.cons) (ah aD p.cons)]) (Ax.get [AV.y (Value.string p.rng.lo),AV.y (Value.string p.rng.hi),AV.y (Value.int IntKind.u64 p.epoch),AV.y (Value.int IntKind.u64 p.frozen),AV.ys b (5:Nat) (List.length p.recs) (ah encR p.recs),AV.ys b (4:Nat) (List.length p.prods) (ah P.ak p.prods),AV.ys b (2:Nat) (List.length p.cons) (ah aD p.cons)]))/\True)/\(0:Int)=(0:Int)/\(↑(List.length l):Int)=(↑(List.length l):Int)/\IntKind.wrap IntKind.i64 ((↑k:Int)+(1:Int))=(↑j:Int)/\True)/\True/\true=true)/\true=true/\(iB b p (List.drop j l)=true->(iB b p (List.drop k l)=true->(true,j+List.findIdx (cu p) (List.drop j l))=(true,k+List.findIdx (cu p) (List.drop k l)))/\(iB b p (List.drop k l)=false->(true,j+List.findIdx (cu p) (List.drop j l))=(false,(0:Nat))))/\(iB b p (List.drop j l)=false->(iB b p (List.drop k l)=true->(false,(0:Nat))=(true,k+List.findIdx (cu p) (List.drop k l)))/\(iB b p (List.drop k l)=false->(false,(0:Nat))=(false,(0:Nat))))))/\(decide ((↑k:Int)<(↑(List.length l):Int))=false->(iB b p (List.drop k l)=true->False)/\(iB b p (List.drop k l)=false->True/\True/\true=true))
theorem Vp (b:Bool) (p:Part) (bb:Bool) (l:List P.Producer) (k:Nat):(bR Tryz.prog (afU b p l k) 116 2 (fun k=>l.length - k) (loT b p bb l) (fun _=>[]) [0] (loO b p l) loS k)=aaX b p bb l k:=by kernel_rfl
theorem Xz (b:Bool) (p:Part) (bb:Bool) (l:List P.Producer) (hl:l.length<=9223372036854775806) (hn:∀ k,k<l.length->(p.recs.length<=9223372036854775806/\0<=(l.getD k default).offset)) (k:Nat):aM Tryz.prog 116 2 (aN Tryz.prog 116 2) ⟨loT b p bb l k,[],[]⟩ ((loO b p l k).map (bJ [0] loS)):=by
 refine dL (ht:=fun k=>afU b p l k) Tryz.mixed (fun _=>rfl) (fun k=>(Vp b p bb l k).mpr ?_) k
 unfold aaX
 by_cases h:k<l.length
 · have hw:IntKind.i64.wrap ((k:Int)+1)=((k+1:Nat):Int):=by rw [wrap_i64 (by omega) (by omega)];omega
   have hz:decide ((k:Int)<l.length)=true:=by simp;omega
   have hd:l.drop k=l.getD k default::l.drop (k+1):=by rw [drop_cons h];simp
   have hk:=hn k h
   rw [Int.toNat_natCast]
   simp only [hz,hd,KZ,List.findIdx_cons]
   generalize l.getD k default=y at *
   cases hp:cu p y
   · simp [hw,hk]
     exact ⟨k+1,by omega,by omega,by grind⟩
   · simp [hk]
 · have hz:decide ((k:Int)<l.length)=false:=by simp;omega
   simp only [hz,je (Nat.le_of_not_lt h),NW]
   simp
noncomputable def loH (b:Bool) (p:Part) (bb:Bool) (l:List P.Producer):aC Tryz.prog:=hh _ (mU 116 2 (dM (loT b p bb l) (fun _=>[]) [0] (loO b p l) loS 0) bO) bM bL
def abr (b:Bool) (p:Part) (bb:Bool) (l:List P.Producer):Prop :=
 (((bb=bb/\l.length=l.length/\aj l.length 4 (ah P.ak l) (ah P.ak l))/\(True/\(false=false/\1<=1/\gq 1 (Ax.get [AV.y (.int .u64 (IntKind.u64.wrap (p.recs.length:Int)))]) (Ax.get [AV.y (.int .u64 (IntKind.u64.wrap (p.recs.length:Int)))]))/\(false=false/\7<=7/\gq 7 (Ax.get [AV.y (.string p.rng.lo),AV.y (.string p.rng.hi),AV.y (.int .u64 p.epoch),AV.y (.int .u64 p.frozen),AV.ys b 5 p.recs.length (ah encR p.recs),AV.ys b 4 p.prods.length (ah P.ak p.prods),AV.ys b 2 p.cons.length (ah aD p.cons)]) (Ax.get [AV.y (.string p.rng.lo),AV.y (.string p.rng.hi),AV.y (.int .u64 p.epoch),AV.y (.int .u64 p.frozen),AV.ys b 5 p.recs.length (ah encR p.recs),AV.ys b 4 p.prods.length (ah P.ak p.prods),AV.ys b 2 p.cons.length (ah aD p.cons)]))/\True)/\(0:Int)=0/\(l.length:Int)=(l.length:Int)/\(0:Int)=0/\True)/\True/\true=true)/\aM Tryz.prog 116 2 (aN Tryz.prog 116 2) { t:=loT b p bb l 0,m:=[],mv:=[]:St } (T.map (bJ [0] loS) (loO b p l 0))/\(iB b p (List.drop 0 l)=true->true=iB b p l/\True)/\(iB b p (List.drop 0 l)=false->false=iB b p l/\True)
theorem VU (b:Bool) (p:Part) (bb:Bool) (l:List P.Producer):(bf Tryz.prog (loH b p bb l) 48 [.ys bb 4 l.length (ah P.ak l),Yn b p] [] (aZ (iB b p l)))=abr b p bb l:=by kernel_rfl
theorem ac7 (b:Bool) (p:Part) (bb:Bool) (l:List P.Producer) (hl:l.length<=9223372036854775806) (hn:∀ k,k<l.length->(p.recs.length<=9223372036854775806/\0<=(l.getD k default).offset)):(aZ (iB b p l)).Sat (aB Tryz.prog 48 [.ys bb 4 l.length (ah P.ak l),Yn b p] []):=by
 refine aP (ht:=loH b p bb l) Tryz.mixed rfl ?_
 rw [VU b p bb l]
 unfold abr
 have:=Xz b p bb l hl hn 0
 simp [this]
noncomputable def afL (b:Bool) (p:Part) (bb:Bool) (l:List P.Producer):eu Tryz.prog:=⟨48,[.ys bb 4 l.length (ah P.ak l),Yn b p],[],.need (l.length<=9223372036854775806/\∀ k,k<l.length->(p.recs.length<=9223372036854775806/\0<=(l.getD k default).offset)) (aZ (iB b p l)),T.Sat.need fun h=>ac7 b p bb l h.1 h.2⟩
def XA (m:Nat):AV:=.fn (.func 43) [] (Fj m)
def iD (m:Nat) (l:List Con):Bool:=l.any (bW m)
theorem O_ (m:Nat):iD m []=false:=rfl
theorem Kr (m:Nat) (y:Con) (l:List Con):iD m (y::l)=(bW m y||iD m l):=rfl
noncomputable def ahC (m:Nat) (x:Con):eu Tryz.prog:=⟨43,[.agg (aD x)]++(Fj m),[],.need (m<=9223372036854775806) (aZ (bW m x)),T.Sat.need fun h=>YW m x h⟩
def ahT (m:Nat) (bb:Bool) (l:List Con) (k:Nat):List AV:=mkT 19 [(0,.ys bb 2 l.length (ah aD l)),(1,XA m),(4,.s (.int .i64 0)),(7,.y (.int .i64 l.length)),(8,.y (.int .i64 k))]
def ahS (r:Bool×Nat):Exit×List AV×List ay:=match r.1 with
 | true=>(.ret,mkT 19 [(4,.y (.int .i64 r.2))],[])
 | false=>(.exit 0,mkT 19 [],[])
def ahO (m:Nat) (l:List Con) (k:Nat):T (Bool×Nat):=.ite (iD m (l.drop k)) (.ret (true,k+(l.drop k).findIdx (bW m))) (.ret (false,0))
noncomputable def afc (m:Nat) (l:List Con) (k:Nat):aC Tryz.prog:=hh _ bO (cs1 117 4 5 (ahC m (l.getD k default)) bM) bL
def aa2 (m:Nat) (bb:Bool) (l:List Con) (k:Nat):Prop :=
 (decide ((↑k:Int)<(↑(List.length l):Int))=true->(true&&decide ((↑k:Int)<(↑(List.length l):Int)))=true/\(((List.getD l (Int.toNat (↑k:Int)) (@default Con instInhabitedCon)).name=(List.getD l k (@default Con instInhabitedCon)).name/\(List.getD l (Int.toNat (↑k:Int)) (@default Con instInhabitedCon)).off=(List.getD l k (@default Con instInhabitedCon)).off/\True)/\(false=false/\(1:Nat)<=(1:Nat)/\gq (1:Nat) (Ax.get [AV.y (Value.int IntKind.u64 (IntKind.wrap IntKind.u64 (↑m:Int)))]) (Ax.get [AV.y (Value.int IntKind.u64 (IntKind.wrap IntKind.u64 (↑m:Int)))]))/\True)/\True/\m<=(9223372036854775806:Nat)/\(bW m (List.getD l k (@default Con instInhabitedCon))=true->(iD m (List.drop k l)=true->((↑k:Int)=(↑(k+List.findIdx (bW m) (List.drop k l)):Int)/\True)/\True/\true=true)/\(iD m (List.drop k l)=false->False))/\(bW m (List.getD l k (@default Con instInhabitedCon))=false->∃ (j:Nat),List.length l - j<List.length l - k/\(((bb=bb/\List.length l=List.length l/\aj (List.length l) (2:Nat) (ah aD l) (ah aD l))/\(True/\(false=false/\(1:Nat)<=(1:Nat)/\gq (1:Nat) (Ax.get [AV.y (Value.int IntKind.u64 (IntKind.wrap IntKind.u64 (↑m:Int)))]) (Ax.get [AV.y (Value.int IntKind.u64 (IntKind.wrap IntKind.u64 (↑m:Int)))]))/\True)/\(0:Int)=(0:Int)/\(↑(List.length l):Int)=(↑(List.length l):Int)/\IntKind.wrap IntKind.i64 ((↑k:Int)+(1:Int))=(↑j:Int)/\True)/\True/\true=true)/\true=true/\(iD m (List.drop j l)=true->(iD m (List.drop k l)=true->(true,j+List.findIdx (bW m) (List.drop j l))=(true,k+List.findIdx (bW m) (List.drop k l)))/\(iD m (List.drop k l)=false->(true,j+List.findIdx (bW m) (List.drop j l))=(false,(0:Nat))))/\(iD m (List.drop j l)=false->(iD m (List.drop k l)=true->(false,(0:Nat))=(true,k+List.findIdx (bW m) (List.drop k l)))/\(iD m (List.drop k l)=false->(false,(0:Nat))=(false,(0:Nat))))))/\(decide ((↑k:Int)<(↑(List.length l):Int))=false->(iD m (List.drop k l)=true->False)/\(iD m (List.drop k l)=false->True/\True/\true=true))
theorem Qp (m:Nat) (bb:Bool) (l:List Con) (k:Nat):(bR Tryz.prog (afc m l k) 117 2 (fun k=>l.length - k) (ahT m bb l) (fun _=>[]) [0] (ahO m l) ahS k)=aa2 m bb l k:=by kernel_rfl
theorem YP (m:Nat) (bb:Bool) (l:List Con) (hl:l.length<=9223372036854775806) (hn:∀ k,k<l.length->(m<=9223372036854775806)) (k:Nat):aM Tryz.prog 117 2 (aN Tryz.prog 117 2) ⟨ahT m bb l k,[],[]⟩ ((ahO m l k).map (bJ [0] ahS)):=by
 refine dL (ht:=fun k=>afc m l k) Tryz.mixed (fun _=>rfl) (fun k=>(Qp m bb l k).mpr ?_) k
 unfold aa2
 by_cases h:k<l.length
 · have hw:IntKind.i64.wrap ((k:Int)+1)=((k+1:Nat):Int):=by rw [wrap_i64 (by omega) (by omega)];omega
   have hz:decide ((k:Int)<l.length)=true:=by simp;omega
   have hd:l.drop k=l.getD k default::l.drop (k+1):=by rw [drop_cons h];simp
   have hk:=hn k h
   rw [Int.toNat_natCast]
   simp only [hz,hd,Kr,List.findIdx_cons]
   generalize l.getD k default=y at *
   cases hp:bW m y
   · simp [hw,hk]
     exact ⟨k+1,by omega,by omega,by grind⟩
   · simp [hk]
 · have hz:decide ((k:Int)<l.length)=false:=by simp;omega
   simp only [hz,je (Nat.le_of_not_lt h),O_]
   simp
noncomputable def ahH (m:Nat) (bb:Bool) (l:List Con):aC Tryz.prog:=hh _ (mU 117 2 (dM (ahT m bb l) (fun _=>[]) [0] (ahO m l) ahS 0) bO) bM bL
def aaO (m:Nat) (bb:Bool) (l:List Con):Prop :=
 (((bb=bb/\l.length=l.length/\aj l.length 2 (ah aD l) (ah aD l))/\(True/\(false=false/\1<=1/\gq 1 (Ax.get [AV.y (.int .u64 (IntKind.u64.wrap (m:Int)))]) (Ax.get [AV.y (.int .u64 (IntKind.u64.wrap (m:Int)))]))/\True)/\(0:Int)=0/\(l.length:Int)=(l.length:Int)/\(0:Int)=0/\True)/\True/\true=true)/\aM Tryz.prog 117 2 (aN Tryz.prog 117 2) { t:=ahT m bb l 0,m:=[],mv:=[]:St } (T.map (bJ [0] ahS) (ahO m l 0))/\(iD m (List.drop 0 l)=true->true=iD m l/\True)/\(iD m (List.drop 0 l)=false->false=iD m l/\True)
theorem P7 (m:Nat) (bb:Bool) (l:List Con):(bf Tryz.prog (ahH m bb l) 49 [.ys bb 2 l.length (ah aD l),XA m] [] (aZ (iD m l)))=aaO m bb l:=by kernel_rfl
theorem ads (m:Nat) (bb:Bool) (l:List Con) (hl:l.length<=9223372036854775806) (hn:∀ k,k<l.length->(m<=9223372036854775806)):(aZ (iD m l)).Sat (aB Tryz.prog 49 [.ys bb 2 l.length (ah aD l),XA m] []):=by
 refine aP (ht:=ahH m bb l) Tryz.mixed rfl ?_
 rw [P7 m bb l]
 unfold aaO
 have:=YP m bb l hl hn 0
 simp [this]
noncomputable def agT (m:Nat) (bb:Bool) (l:List Con):eu Tryz.prog:=⟨49,[.ys bb 2 l.length (ah aD l),XA m],[],.need (l.length<=9223372036854775806/\∀ k,k<l.length->(m<=9223372036854775806)) (aZ (iD m l)),T.Sat.need fun h=>ads m bb l h.1 h.2⟩
def aH (p:Part):Bool:=(fJ p.rng==0)&&(!(p.epoch==0)&&(bG p.recs&&(P.bF p.prods&&(bY p.cons&&(bI p 0&&(!p.prods.any (cu p)&&!p.cons.any (bW p.recs.length)))))))
def Hr (b:Bool) (e:Int):T An:=.ite b (.ret (.s (.int .i64 0),[],[])) (.ret (.s (.int .i64 e),[],[]))
noncomputable def pcH (b:Bool) (p:Part):aC Tryz.prog:=hh _ bO
 (cs1 14 4 2 (adi p.rng) (cs1 14 6 2 (lgC b p.recs) (cs1 14 7 2 (P.ah9 b p.prods) (cs1 14 8 2 (coC b p.cons)
 (cs1 14 10 1 (orC b p) (cs1 14 11 3 (afL b p b p.prods) (cs1 14 12 3 (agT p.recs.length b p.cons) bM))))))) bL
def ae_ (b:Bool) (p:Part):Prop :=
 ((p.rng.lo=p.rng.lo/\p.rng.hi=p.rng.hi/\True)/\True)/\True/\((fJ p.rng != 0)=true->(aH p=true->(165:Int)=0/\True)/\(aH p=false->(165:Int)=165/\True))/\((fJ p.rng != 0)=false->((p.epoch==0)=true->(aH p=true->(165:Int)=0/\True)/\(aH p=false->(165:Int)=165/\True))/\((p.epoch==0)=false->((b=b/\p.recs.length=p.recs.length/\aj p.recs.length 5 (ah encR p.recs) (ah encR p.recs))/\True)/\True/\p.recs.length<=9223372036854775806/\((!bG p.recs)=true->(aH p=true->(165:Int)=0/\True)/\(aH p=false->(165:Int)=165/\True))/\((!bG p.recs)=false->((b=b/\p.prods.length=p.prods.length/\aj p.prods.length 4 (ah P.ak p.prods) (ah P.ak p.prods))/\True)/\True/\p.prods.length<=9223372036854775806/\((!P.bF p.prods)=true->(aH p=true->(165:Int)=0/\True)/\(aH p=false->(165:Int)=165/\True))/\((!P.bF p.prods)=false->((b=b/\p.cons.length=p.cons.length/\aj p.cons.length 2 (ah aD p.cons) (ah aD p.cons))/\True)/\True/\p.cons.length<=9223372036854775806/\((!bY p.cons)=true->(aH p=true->(165:Int)=0/\True)/\(aH p=false->(165:Int)=165/\True))/\((!bY p.cons)=false->((bP b b p p)/\True)/\True/\(p.prods.length<=9223372036854775806/\p.recs.length<=9223372036854775806)/\((!bI p 0)=true->(aH p=true->(165:Int)=0/\True)/\(aH p=false->(165:Int)=165/\True))/\((!bI p 0)=false->((b=b/\p.prods.length=p.prods.length/\aj p.prods.length 4 (ah P.ak p.prods) (ah P.ak p.prods))/\(True/\(false=false/\1<=1/\gq 1 (fun (j:Nat)=>Ax.get [AV.y (.int .u64 (IntKind.u64.wrap (p.recs.length:Int)))] (0+j)) (Ax.get [AV.y (.int .u64 (IntKind.u64.wrap (p.recs.length:Int)))]))/\(false=false/\7<=7/\gq 7 (fun (j:Nat)=>Ax.get [AV.y (.string p.rng.lo),AV.y (.string p.rng.hi),AV.y (.int .u64 p.epoch),AV.y (.int .u64 p.frozen),AV.ys b 5 p.recs.length (ah encR p.recs),AV.ys b 4 p.prods.length (ah P.ak p.prods),AV.ys b 2 p.cons.length (ah aD p.cons)] (0+j)) (Ax.get [AV.y (.string p.rng.lo),AV.y (.string p.rng.hi),AV.y (.int .u64 p.epoch),AV.y (.int .u64 p.frozen),AV.ys b 5 p.recs.length (ah encR p.recs),AV.ys b 4 p.prods.length (ah P.ak p.prods),AV.ys b 2 p.cons.length (ah aD p.cons)]))/\True)/\True)/\True/\(p.prods.length<=9223372036854775806/\∀ k,k<p.prods.length->p.recs.length<=9223372036854775806/\0<=(p.prods.getD k default).offset)/\true=true/\True/\(iB b p p.prods=true->(aH p=true->(165:Int)=0/\True)/\(aH p=false->(165:Int)=165/\True))/\(iB b p p.prods=false->((b=b/\p.cons.length=p.cons.length/\aj p.cons.length 2 (ah aD p.cons) (ah aD p.cons))/\(True/\(false=false/\1<=1/\gq 1 (fun (j:Nat)=>Ax.get [AV.y (.int .u64 (IntKind.u64.wrap (p.recs.length:Int)))] (0+j)) (Ax.get [AV.y (.int .u64 (IntKind.u64.wrap (p.recs.length:Int)))]))/\True)/\True)/\True/\(p.cons.length<=9223372036854775806/\∀ k,k<p.cons.length->p.recs.length<=9223372036854775806)/\true=true/\True/\(iD p.recs.length p.cons=true->(aH p=true->(165:Int)=0/\True)/\(aH p=false->(165:Int)=165/\True))/\(iD p.recs.length p.cons=false->(aH p=true->(0:Int)=0/\True)/\(aH p=false->(0:Int)=165/\True)))))))))
theorem Yq (b:Bool) (p:Part):(bf Tryz.prog (pcH b p) 14 [.agg (aX b p)] [] (Hr (aH p) 165))=ae_ b p:=by kernel_rfl
structure eH (p:Part):Prop where
 rl:p.recs.length<=4611686018427387903
 pl:p.prods.length<=4611686018427387903
 cl:p.cons.length<=4611686018427387903
 po:∀ k,k<p.prods.length->0<=(p.prods.getD k default).offset
theorem aiH (b:Bool) (p:Part) (h:eH p):(Hr (aH p) 165).Sat (aB Tryz.prog 14 [.agg (aX b p)] []):=by
 refine aP (ht:=pcH b p) Tryz.mixed rfl ?_
 rw [Yq b p]
 unfold ae_
 obtain ⟨h1,h2,h3,h4⟩:=h
 have e1:iB b p p.prods=p.prods.any (cu p):=rfl
 have e2:iD p.recs.length p.cons=p.cons.any (bW p.recs.length):=rfl
 have hw:IntKind.u64.wrap (p.recs.length:Int)=p.recs.length:=wrap_u64 (by omega) (by omega)
 simp only [e1,e2,hw]
 unfold aH
 have g1:p.recs.length<=9223372036854775806:=by omega
 have g2:p.prods.length<=9223372036854775806:=by omega
 have g3:p.cons.length<=9223372036854775806:=by omega
 generalize bI p 0=a1
 generalize p.prods.any (cu p)=a2
 generalize p.cons.any (bW p.recs.length)=a3
 generalize bG p.recs=a4
 generalize P.bF p.prods=a5
 generalize bY p.cons=a6
 by_cases c1:fJ p.rng=0<;>by_cases c2:p.epoch=0<;>cases a1<;>cases a2<;>cases a3<;>cases a4<;>cases a5<;>cases a6<;>simp [c1,c2,g1,g2,g3]<;>exact h4
noncomputable def pcC (b:Bool) (p:Part):eu Tryz.prog:=⟨14,[.agg (aX b p)],[],.need (eH p) (Hr (aH p) 165),T.Sat.need fun h=>aiH b p h⟩
end
namespace H
def fI (x:Rec):List AV:=[.y (.int .u64 x.off),.y (.string x.key),h_ false x.val,.y (.int .u64 x.prod),.y (.int .u64 x.seq)]
def iI (b:Bool) (l:List Rec):AV:=.ys b 5 l.length (ah fI l)
def sfT (b1 b2:Bool) (a:List Rec) (k:Nat):List AV:=mkT 82 [(0,iI b1 a),(1,dK b2 a),(5,.y (.int .i64 k))]
def sfS (_:Unit):Exit×List AV×List ay:=(.exit 0,mkT 82 [],[])
def abI (b1:Bool) (b2:Bool) (a:List Rec) (k:Nat):Prop :=
 (decide ((↑k:Int)<(↑(List.length a):Int))=true->(true&&decide ((↑k:Int)<(↑(List.length a):Int)))=true/\(true&&decide ((↑k:Int)<(↑(List.length a):Int)))=true/\(((List.getD a (Int.toNat (↑k:Int)) (@default Rec instInhabitedRec)).off != (List.getD a (Int.toNat (↑k:Int)) (@default Rec instInhabitedRec)).off)=true->False)/\(((List.getD a (Int.toNat (↑k:Int)) (@default Rec instInhabitedRec)).off != (List.getD a (Int.toNat (↑k:Int)) (@default Rec instInhabitedRec)).off)=false->(true&&decide ((↑k:Int)<(↑(List.length a):Int)))=true/\(true&&decide ((↑k:Int)<(↑(List.length a):Int)))=true/\((!(List.getD a (Int.toNat (↑k:Int)) (@default Rec instInhabitedRec)).key.data.toList==(List.getD a (Int.toNat (↑k:Int)) (@default Rec instInhabitedRec)).key.data.toList)=true->False)/\((!(List.getD a (Int.toNat (↑k:Int)) (@default Rec instInhabitedRec)).key.data.toList==(List.getD a (Int.toNat (↑k:Int)) (@default Rec instInhabitedRec)).key.data.toList)=false->(true&&decide ((↑k:Int)<(↑(List.length a):Int)))=true/\(∀ (k_1:Nat),k_1<List.length (List.getD a (Int.toNat (↑k:Int)) (@default Rec instInhabitedRec)).val->true=true)/\(true&&decide ((↑k:Int)<(↑(List.length a):Int)))=true/\(∀ (k_1:Nat),k_1<List.length (List.getD a (Int.toNat (↑k:Int)) (@default Rec instInhabitedRec)).val->true=true)/\((!List.map (fun (a:AV)=>match match a with | AV.s (Value.int IntKind.u8 n)=>some n | AV.y (Value.int IntKind.u8 n)=>some n | x=>none with | some n=>UInt8.ofNat (Int.toNat n) | none=>(0:UInt8)) (List.map (fun (k_1:Nat)=>AV.y (Value.int IntKind.u8 (List.getD (List.getD a (Int.toNat (↑k:Int)) (@default Rec instInhabitedRec)).val k_1 (0:Int)))) (List.range (List.length (List.getD a (Int.toNat (↑k:Int)) (@default Rec instInhabitedRec)).val)))==List.map (fun (a:AV)=>match match a with | AV.s (Value.int IntKind.u8 n)=>some n | AV.y (Value.int IntKind.u8 n)=>some n | x=>none with | some n=>UInt8.ofNat (Int.toNat n) | none=>(0:UInt8)) (List.map (fun (k_1:Nat)=>AV.y (Value.int IntKind.u8 (List.getD (List.getD a (Int.toNat (↑k:Int)) (@default Rec instInhabitedRec)).val k_1 (0:Int)))) (List.range (List.length (List.getD a (Int.toNat (↑k:Int)) (@default Rec instInhabitedRec)).val))))=true->False)/\((!List.map (fun (a:AV)=>match match a with | AV.s (Value.int IntKind.u8 n)=>some n | AV.y (Value.int IntKind.u8 n)=>some n | x=>none with | some n=>UInt8.ofNat (Int.toNat n) | none=>(0:UInt8)) (List.map (fun (k_1:Nat)=>AV.y (Value.int IntKind.u8 (List.getD (List.getD a (Int.toNat (↑k:Int)) (@default Rec instInhabitedRec)).val k_1 (0:Int)))) (List.range (List.length (List.getD a (Int.toNat (↑k:Int)) (@default Rec instInhabitedRec)).val)))==List.map (fun (a:AV)=>match match a with | AV.s (Value.int IntKind.u8 n)=>some n | AV.y (Value.int IntKind.u8 n)=>some n | x=>none with | some n=>UInt8.ofNat (Int.toNat n) | none=>(0:UInt8)) (List.map (fun (k_1:Nat)=>AV.y (Value.int IntKind.u8 (List.getD (List.getD a (Int.toNat (↑k:Int)) (@default Rec instInhabitedRec)).val k_1 (0:Int)))) (List.range (List.length (List.getD a (Int.toNat (↑k:Int)) (@default Rec instInhabitedRec)).val))))=false->(true&&decide ((↑k:Int)<(↑(List.length a):Int)))=true/\(true&&decide ((↑k:Int)<(↑(List.length a):Int)))=true/\(((List.getD a (Int.toNat (↑k:Int)) (@default Rec instInhabitedRec)).prod != (List.getD a (Int.toNat (↑k:Int)) (@default Rec instInhabitedRec)).prod)=true->False)/\(((List.getD a (Int.toNat (↑k:Int)) (@default Rec instInhabitedRec)).prod != (List.getD a (Int.toNat (↑k:Int)) (@default Rec instInhabitedRec)).prod)=false->(true&&decide ((↑k:Int)<(↑(List.length a):Int)))=true/\(true&&decide ((↑k:Int)<(↑(List.length a):Int)))=true/\(((List.getD a (Int.toNat (↑k:Int)) (@default Rec instInhabitedRec)).seq != (List.getD a (Int.toNat (↑k:Int)) (@default Rec instInhabitedRec)).seq)=true->False)/\(((List.getD a (Int.toNat (↑k:Int)) (@default Rec instInhabitedRec)).seq != (List.getD a (Int.toNat (↑k:Int)) (@default Rec instInhabitedRec)).seq)=false->∃ (j:Nat),List.length a - j<List.length a - k/\(((b1=b1/\List.length a=List.length a/\aj (List.length a) (5:Nat) (ah fI a) (ah fI a))/\(b2=b2/\List.length a=List.length a/\aj (List.length a) (5:Nat) (ah encR a) (ah encR a))/\IntKind.wrap IntKind.i64 ((↑k:Int)+(1:Int))=(↑j:Int)/\True)/\True/\true=true)/\true=true/\()=()))))))/\(decide ((↑k:Int)<(↑(List.length a):Int))=false->True/\True/\true=true)
theorem Qa (b1:Bool) (b2:Bool) (a:List Rec) (k:Nat):(bR Tryz.prog (hT _) 73 4 (fun k=>a.length - k) (sfT b1 b2 a) (fun _=>[]) [0] (fun _=>.ret ()) sfS k)=abI b1 b2 a k:=by kernel_rfl
noncomputable def sfH (b1 b2:Bool) (a:List Rec):aC Tryz.prog:=hh _ (mU 73 4 (dM (sfT b1 b2 a) (fun _=>[]) [0] (fun _=>.ret ()) sfS 0) bO) bM bL
def af8 (b1:Bool) (b2:Bool) (a:List Rec):Prop :=
 (((a.length:Int) != (a.length:Int))=true->false=true/\True)/\(((a.length:Int) != (a.length:Int))=false->(((b1=b1/\a.length=a.length/\aj a.length 5 (ah fI a) (ah fI a))/\(b2=b2/\a.length=a.length/\aj a.length 5 (ah encR a) (ah encR a))/\(0:Int)=0/\True)/\True/\true=true)/\aM Tryz.prog 73 4 (aN Tryz.prog 73 4) { t:=sfT b1 b2 a 0,m:=[],mv:=[]:St } (T.map (bJ [0] sfS) ((fun (x:Nat)=>T.ret ()) 0))/\true=true/\True)
theorem XB (b1:Bool) (b2:Bool) (a:List Rec):(bf Tryz.prog (sfH b1 b2 a) 73 [iI b1 a,dK b2 a] [] (aZ true))=af8 b1 b2 a:=by kernel_rfl
theorem Yo (b1 b2:Bool) (a:List Rec) (hl:a.length<=9223372036854775806) (k:Nat):aM Tryz.prog 73 4 (aN Tryz.prog 73 4) ⟨sfT b1 b2 a k,[],[]⟩ (T.map (bJ [0] sfS) (.ret ())):=by
 refine eB (o:=fun _=>.ret ()) Tryz.mixed (fun _=>rfl) (fun k=>(Qa b1 b2 a k).mpr ?_) k
 unfold abI
 simp
 intro h
 have hb:∀ q:Nat,R6 (ah aJ (a[k]?.getD default).val q 0)=true:=fun _=>rfl
 simp [h,hb]
 exact ⟨k+1,by omega,by rw [wrap_i64 (by omega) (by omega)];omega⟩
theorem ah7 (b1 b2:Bool) (a:List Rec) (hl:a.length<=9223372036854775806):(aZ true).Sat (aB Tryz.prog 73 [iI b1 a,dK b2 a] []):=by
 refine aP (ht:=sfH b1 b2 a) Tryz.mixed rfl ?_
 rw [XB b1 b2 a]
 unfold af8
 simp [Yo b1 b2 a hl 0]
noncomputable def sfC (b1 b2:Bool) (a b:List Rec):eu Tryz.prog:=⟨73,[iI b1 a,dK b2 b],[],.need (a.length<=9223372036854775806/\a=b) (aZ true),T.Sat.need fun h=>by obtain ⟨h1,rfl⟩:=h;exact ah7 b1 b2 a h1⟩
def wR (x:Rec) (k:Nat):Rec:=⟨x.off,x.key,(x.val.take k).map (fun v=>IntKind.u8.wrap (v+1))++x.val.drop k,x.prod,x.seq⟩
def afh (q:Nat) (f:Nat->Rec):ay:=.trow 54 5 q none (fun k=>MJ (f k)) [] []
def bZ (f:Nat->Rec) (i k:Nat):Nat->Rec:=fun p=>if p=i then wR (f i) k else f p
end H
namespace Q
open H
theorem ab_ (x:Rec) (j:Nat) (hj:j<5):PU (MJ x j)=Ax.get (fI x) j:=by
 match j,hj with
 | 0,_=>rfl
 | 1,_=>rfl
 | 2,_=>rfl
 | 3,_=>rfl
 | 4,_=>rfl
theorem nG (l:List Rec) (n:Nat):aj n 5 (fun k j=>PU (K5 l k j)) (ah fI l):=by
 intro k _ j hj
 show qX (PU (MJ (l.getD k default) j)) (Ax.get (fI (l.getD k default)) j)
 rw [ab_ _ j hj]
 exact dn _
def WH (b:Bool) (l:List Rec) (k:Nat):List AV:=mkT 33 [(0,iI b l),(2,.s (.bool false)),(5,iI b l),(6,.y (.int .i64 l.length)),(7,.y (.int .i64 k))]
def Zt (b:Bool) (l:List Rec) (r:Bool):Exit×List AV×List ay:=match r with
 | true=>(.exit 0,mkT 33 [(0,iI b l)],[])
 | false=>(.ret,mkT 33 [(2,.s (.bool false))],[])
def VT (b:Bool) (l:List Rec) (k:Nat):Prop :=
 (decide ((k:Int)<(l.length:Int))=true->(true&&decide ((k:Int)<(l.length:Int)))=true/\(((l.getD (Int.toNat (k:Int)) default).off != IntKind.u64.wrap (k:Int))=true->(aU l k=true->False)/\(aU l k=false->(false=false/\True)/\True/\true=true))/\(((l.getD (Int.toNat (k:Int)) default).off != IntKind.u64.wrap (k:Int))=false->(decide (32<((ByteArray.size (l.getD (Int.toNat (k:Int)) default).key):Int))=true->(aU l k=true->False)/\(aU l k=false->(false=false/\True)/\True/\true=true))/\(decide (32<((ByteArray.size (l.getD (Int.toNat (k:Int)) default).key):Int))=false->(decide (256<((l.getD (Int.toNat (k:Int)) default).val.length:Int))=true->(aU l k=true->False)/\(aU l k=false->(false=false/\True)/\True/\true=true))/\(decide (256<((l.getD (Int.toNat (k:Int)) default).val.length:Int))=false->∃ j:Nat,l.length - j<l.length - k/\(((b=b/\l.length=l.length/\aj l.length 5 (ah fI l) (ah fI l))/\false=false/\(b=b/\l.length=l.length/\aj l.length 5 (ah fI l) (ah fI l))/\(l.length:Int)=(l.length:Int)/\IntKind.i64.wrap ((k:Int)+1)=(j:Int)/\True)/\True/\true=true)/\true=true/\(aU l j=true->(aU l k=true->true=true)/\(aU l k=false->true=false))/\(aU l j=false->(aU l k=true->false=true)/\(aU l k=false->false=false))))))/\(decide ((k:Int)<(l.length:Int))=false->(aU l k=true->((b=b/\l.length=l.length/\aj l.length 5 (ah fI l) (ah fI l))/\True)/\True/\true=true)/\(aU l k=false->False))
theorem NS (b:Bool) (l:List Rec) (k:Nat):(bR Tryz.prog (hT _) 44 2 (fun k=>l.length - k) (WH b l) (fun _=>[]) [0] (PY l) (Zt b l) k)=VT b l k:=by kernel_rfl
noncomputable def agF (b:Bool) (l:List Rec):aC Tryz.prog:=hh _ (mU 44 2 (dM (WH b l) (fun _=>[]) [0] (PY l) (Zt b l) 0) bO) bM bL
def aaw (b:Bool) (l:List Rec):Prop :=
 (((b=b/\l.length=l.length/\aj l.length 5 (ah fI l) (ah fI l))/\false=false/\(b=b/\l.length=l.length/\aj l.length 5 (ah fI l) (ah fI l))/\(l.length:Int)=(l.length:Int)/\(0:Int)=0/\True)/\True/\true=true)/\aM Tryz.prog 44 2 (aN Tryz.prog 44 2) { t:=WH b l 0,m:=[],mv:=[]:St } (T.map (bJ [0] (Zt b l)) (PY l 0))/\(aU l 0=true->decide ((l.length:Int)<=4096)=bG l/\True)/\(aU l 0=false->false=bG l/\True)
theorem SV (b:Bool) (l:List Rec):(bf Tryz.prog (agF b l) 44 [iI b l] [] (aZ (bG l)))=aaw b l:=by kernel_rfl
theorem UW (b:Bool) (l:List Rec) (hl:l.length<=9223372036854775806) (k:Nat):aM Tryz.prog 44 2 (aN Tryz.prog 44 2) ⟨WH b l k,[],[]⟩ ((PY l k).map (bJ [0] (Zt b l))):=by
 refine eB Tryz.mixed (fun _=>rfl) (fun k=>(NS b l k).mpr ?_) k
 unfold VT
 simp
 refine ⟨fun h=>?_,fun h=>by simp [qC h]⟩
 rw [oZ h]
 simp (disch:=omega) only [wrap_i64]
 simp [QT,cast_succ_eq]
 generalize l[k]?.getD default=x
 grind
theorem afm (b:Bool) (l:List Rec) (hl:l.length<=9223372036854775806):(aZ (bG l)).Sat (aB Tryz.prog 44 [iI b l] []):=by
 refine aP (ht:=agF b l) Tryz.mixed rfl ?_
 rw [SV b l]
 unfold aaw
 have:=UW b l hl 0
 simp [this,bG]
 grind
noncomputable def afG (b:Bool) (l:List Rec):eu Tryz.prog:=⟨44,[iI b l],[],.need (l.length<=9223372036854775806) (aZ (bG l)),T.Sat.need fun h=>afm b l h⟩
end Q
namespace N
open H Q
noncomputable def abw (b:Bool) (x:Rec):aC Tryz.prog:=dO (hh _ bO (cs1 157 1 4 (Qb false x.val.length (ah aJ x.val)) bM) bL) noSh
def R4 (x:Rec) (o:Int):Prop :=
 ((false=false/\x.val.length=x.val.length/\aj x.val.length 1 (ah aJ x.val) (ah aJ x.val))/\True)/\True/\x.val.length<=140737488355328/\(IntKind.u64.wrap o=IntKind.u64.wrap o/\x.key=x.key/\(0=0/\x.val.length=x.val.length)/\x.prod=x.prod/\x.seq=x.seq/\True)/\(x.val.length=x.val.length/\aj x.val.length 1 (ah aJ x.val) (ah aJ x.val))/\True
theorem O9 (x:Rec) (o:Int):(bf Tryz.prog (abw true x) 157 [.agg (fI x),.y (.int .i64 o)] [] (O6 (x.to (IntKind.u64.wrap o))))=R4 x o:=by kernel_rfl
theorem ab4 (x:Rec) (o:Int) (h:x.val.length<=140737488355328):(O6 (x.to (IntKind.u64.wrap o))).Sat (aB Tryz.prog 157 [.agg (fI x),.y (.int .i64 o)] []):=by
 refine aP (ht:=abw true x) Tryz.mixed rfl ?_
 rw [O9 x o]
 unfold R4
 simp [h,Rec.to]
noncomputable def agq (x:Rec) (o:Int):eu Tryz.prog:=⟨157,[.agg (fI x),.y (.int .i64 o)],[],.need (x.val.length<=140737488355328) (O6 (x.to (IntKind.u64.wrap o))),T.Sat.need fun h=>ab4 x o h⟩
def Qn (b:Bool) (l:List Rec) (k:Nat):List AV:=mkT 26 [(0,iI b l),(3,.own 0 5 0 k),(10,iI b l),(11,.y (.int .i64 l.length)),(12,.y (.int .i64 k))]
def RP (l:List Rec) (k:{ k:Nat // k<=l.length }):T Unit:=.ret ()
def YF (l:List Rec) (r:Unit):Exit×List AV×List ay:=(.exit 0,mkT 26 [(3,.own 0 5 0 l.length)],[wU l])
noncomputable def af' (l:List Rec) (k:Nat):aC Tryz.prog:=dO (hh _ bO (cs1 141 5 5 (agq (l.getD k default) (IntKind.i64.wrap (l.getD k default).off)) bM) bL) noSh
def Tt (b:Bool) (l:List Rec) (k:{ k:Nat // k<=l.length }):Prop :=
 (decide ((k.val:Int)<(l.length:Int))=true->(true&&decide ((k.val:Int)<(l.length:Int)))=true/\(((l.getD (Int.toNat (k.val:Int)) default).off=(l.getD k.val default).off/\(l.getD (Int.toNat (k.val:Int)) default).key=(l.getD k.val default).key/\(false=false/\(l.getD (Int.toNat (k.val:Int)) default).val.length=(l.getD k.val default).val.length/\aj (l.getD (Int.toNat (k.val:Int)) default).val.length 1 (ah aJ (l.getD (Int.toNat (k.val:Int)) default).val) (ah aJ (l.getD k.val default).val))/\(l.getD (Int.toNat (k.val:Int)) default).prod=(l.getD k.val default).prod/\(l.getD (Int.toNat (k.val:Int)) default).seq=(l.getD k.val default).seq/\True)/\IntKind.i64.wrap (l.getD (Int.toNat (k.val:Int)) default).off=IntKind.i64.wrap (l.getD k.val default).off/\True)/\True/\(l.getD k.val default).val.length<=140737488355328/\k.val=k.val/\k.val+1<=9223372036854775807/\(k.val+1)*64<=140737488355328/\∃ (j:{ k:Nat // k<=l.length }),l.length - j.val<l.length - k.val/\(((b=b/\l.length=l.length/\aj l.length 5 (ah fI l) (ah fI l))/\(0=0/\k.val+1=j.val)/\(b=b/\l.length=l.length/\aj l.length 5 (ah fI l) (ah fI l))/\(l.length:Int)=(l.length:Int)/\IntKind.i64.wrap ((k.val:Int)+1)=(j.val:Int)/\True)/\(((k.val+1=j.val/\(((true=true/\IntKind.u64.wrap (IntKind.i64.wrap (l.getD k.val default).off)=(l.getD k.val default).off)/\(true=true/\(l.getD k.val default).key=(l.getD k.val default).key)/\((l.getD k.val default).val.length=(l.getD k.val default).val.length/\aj (l.getD k.val default).val.length 1 (ah aJ (l.getD k.val default).val) (ah aJ (l.getD k.val default).val))/\(true=true/\(l.getD k.val default).prod=(l.getD k.val default).prod)/\(true=true/\(l.getD k.val default).seq=(l.getD k.val default).seq)/\True)/\True)/\∀ k_1,k_1<k.val+1->¬k_1=k.val->(l.getD k_1 default).off=(l.getD k_1 default).off/\(l.getD k_1 default).key=(l.getD k_1 default).key/\((l.getD k_1 default).val.length=(l.getD k_1 default).val.length/\aj (l.getD k_1 default).val.length 1 (ah aJ (l.getD k_1 default).val) (ah aJ (l.getD k_1 default).val))/\(l.getD k_1 default).prod=(l.getD k_1 default).prod/\(l.getD k_1 default).seq=(l.getD k_1 default).seq/\True)/\True)/\True)/\true=true)/\true=true/\()=())/\(decide ((k.val:Int)<(l.length:Int))=false->((0=0/\k.val=l.length)/\True)/\((k.val=l.length/\∀ k_1,k_1<k.val->(l.getD k_1 default).off=(l.getD k_1 default).off/\(l.getD k_1 default).key=(l.getD k_1 default).key/\((l.getD k_1 default).val.length=(l.getD k_1 default).val.length/\aj (l.getD k_1 default).val.length 1 (ah aJ (l.getD k_1 default).val) (ah aJ (l.getD k_1 default).val))/\(l.getD k_1 default).prod=(l.getD k_1 default).prod/\(l.getD k_1 default).seq=(l.getD k_1 default).seq/\True)/\True)/\true=true)
theorem OZ (b:Bool) (l:List Rec) (k:{ k:Nat // k<=l.length }):(bR Tryz.prog (af' l k.1) 141 3 (fun (k:{ k:Nat // k<=l.length })=>l.length - k.1) (fun k=>Qn b l k.1) (fun k=>[Kv l k.1]) [0,1,2,3,4,5] (RP l) (YF l) k)=Tt b l k:=by kernel_rfl
theorem X9 {l:List Rec} {o m:Int} (h:DU l o=0) (n:Nat) (hn:n=(PV l o m).toNat) (c:Nat->Nat->AV) (hc:∀ k j,k<n->c k j=ah fI l (o.toNat+k) j):aj n 5 c (ah fI (jQ l o m)):=by
 intro k hk j hj
 rw [hc k j hk]
 unfold ah
 rw [aco h (by omega)]
 exact dn _
theorem UG (b:Bool) (l:List Rec) (h:Cm l) (k:{ k:Nat // k<=l.length }):aM Tryz.prog 141 3 (aN Tryz.prog 141 3) ⟨Qn b l k.1,[Kv l k.1],[]⟩ ((RP l k).map (bJ [0,1,2,3,4,5] (YF l))):=by
 refine dL (o:=RP l) (sS:=fun k=>Qn b l k.1) (stM:=fun k=>[Kv l k.1]) Tryz.mixed (fun _=>rfl) (fun k=>(OZ b l k).mpr ?_) k
 unfold Tt
 obtain ⟨k,hk⟩:=k
 have hn:=h.n
 by_cases hkl:k<l.length
 · have hv:=h.v k hkl
   have ho:=h.o k hkl
   have hex:∀ q:{ k:Nat // k<=l.length }->Prop,q ⟨k+1,hkl⟩->∃ j,q j:=fun q hq=>⟨_,hq⟩
   have hw:IntKind.i64.wrap ((k:Int)+1)=((k+1:Nat):Int):=by rw [wrap_i64 (by omega) (by omega)];omega
   simp only [Int.toNat_natCast]
   generalize l.getD k default=x at hv ho ⊢
   refine ⟨fun _=>?_,fun h=>by simp at h;omega⟩
   repeat' with_reducible apply And.intro
   all_goals first
    | with_reducible rfl
    | exact trivial
    | omega
    | (simp;done)
    | (simp;omega)
    | exact aG _ _ _
    | (refine hex _ ?_;simp [ho,hw];omega)
 · obtain rfl:k=l.length:=by omega
   refine ⟨fun h=>by simp at h,fun _=>?_⟩
   simp
def owR (l:List Rec):T An:=.ret (.own 0 5 0 l.length,[wU l],[])
noncomputable def R8 (b:Bool) (l:List Rec):aC Tryz.prog:=dO (hh _ (mU 141 3 (dM (fun (k:{ k:Nat // k<=l.length })=>Qn b l k.1) (fun k=>[Kv l k.1]) [0,1,2,3,4,5] (RP l) (YF l) ⟨0,Nat.zero_le _⟩) bO) bM bL) (uL 141 1 3 787 noSh)
def abh (b:Bool) (l:List Rec):Prop :=
 (0:Int)=0/\0<=IntKind.i64.wrap ((l.length:Int)+1)/\64*IntKind.i64.wrap ((l.length:Int)+1)<=281474976710656/\IntKind.i64.wrap ((l.length:Int)+1)<=9223372036854775807/\(((b=b/\l.length=l.length/\aj l.length 5 (ah fI l) (ah fI l))/\(0=0/\0=0)/\(b=b/\l.length=l.length/\aj l.length 5 (ah fI l) (ah fI l))/\(l.length:Int)=(l.length:Int)/\(0:Int)=0/\True)/\((0=0/\∀ k,k<0->False/\False/\False/\False/\False/\True)/\True)/\true=true)/\aM Tryz.prog 141 3 (aN Tryz.prog 141 3) { t:=Qn b l (⟨0,R8._proof_1 l⟩:{ k:Nat // k<=l.length }).val,m:=[Kv l (⟨0,R8._proof_1 l⟩:{ k:Nat // k<=l.length }).val],mv:=[]:St } (T.map (bJ [0,1,2,3,4,5] (YF l)) (RP l (⟨0,R8._proof_1 l⟩:{ k:Nat // k<=l.length })))/\(0=0/\l.length=l.length)/\(l.length=l.length/\∀ k,k<l.length->(l.getD k default).off=(l.getD k default).off/\(l.getD k default).key=(l.getD k default).key/\((l.getD k default).val.length=(l.getD k default).val.length/\aj (l.getD k default).val.length 1 (ah aJ (l.getD k default).val) (ah aJ (l.getD k default).val))/\(l.getD k default).prod=(l.getD k default).prod/\(l.getD k default).seq=(l.getD k default).seq/\True)/\True
theorem SF (b:Bool) (l:List Rec):(bf Tryz.prog (R8 b l) 141 [iI b l] [] (owR l))=abh b l:=by kernel_rfl
theorem ahk (b:Bool) (l:List Rec) (h:Cm l):(owR l).Sat (aB Tryz.prog 141 [iI b l] []):=by
 refine aP (ht:=R8 b l) Tryz.mixed rfl ?_
 rw [SF b l]
 unfold abh
 have lp:=UG b l h ⟨0,Nat.zero_le _⟩
 have hn:=h.n
 have hw:IntKind.i64.wrap ((l.length:Int)+1)=(l.length:Int)+1:=wrap_i64 (by omega) (by omega)
 simp [lp,hw]
 omega
noncomputable def afW (b:Bool) (l:List Rec):eu Tryz.prog:=⟨141,[iI b l],[],.need (Cm l) (owR l),T.Sat.need fun h=>ahk b l h⟩
noncomputable def ahi (b:Bool) (l:List Rec) (x:Rec):aC Tryz.prog:=dO (hh _ bO (cs1 134 1 1 (afG b l) (cs1 134 9 1 (afW b l) (cs1 134 9 5 (ah8 x l.length) bM))) bL)
 (uL 134 2 0 (1000000+54) (uL 134 4 0 (1000000+54) (uL 134 6 0 (1000000+54) (uL 134 8 0 (1000000+54) noSh))))
def aaN (b:Bool) (l:List Rec) (x:Rec):Prop :=
 ((b=b/\l.length=l.length/\aj l.length 5 (ah fI l) (ah fI l))/\True)/\True/\l.length<=9223372036854775806/\((!bG l)=true->((0=0/\0=(jO l x).length)/\0=F9 l x/\1=xV l x/\True)/\(0=(jO l x).length/\∀ k,k<0->False/\False/\False/\False/\False/\True)/\True)/\((!bG l)=false->(decide (32<((ByteArray.size x.key):Int))=true->((0=0/\0=(jO l x).length)/\0=F9 l x/\131=xV l x/\True)/\(0=(jO l x).length/\∀ k,k<0->False/\False/\False/\False/\False/\True)/\True)/\(decide (32<((ByteArray.size x.key):Int))=false->(decide (256<(x.val.length:Int))=true->((0=0/\0=(jO l x).length)/\0=F9 l x/\144=xV l x/\True)/\(0=(jO l x).length/\∀ k,k<0->False/\False/\False/\False/\False/\True)/\True)/\(decide (256<(x.val.length:Int))=false->(((l.length:Int)==4096)=true->((0=0/\0=(jO l x).length)/\0=F9 l x/\143=xV l x/\True)/\(0=(jO l x).length/\∀ k,k<0->False/\False/\False/\False/\False/\True)/\True)/\(((l.length:Int)==4096)=false->((b=b/\l.length=l.length/\aj l.length 5 (ah fI l) (ah fI l))/\True)/\True/\Cm l/\((x.off=x.off/\x.key=x.key/\(lD x.val x.val)/\x.prod=x.prod/\x.seq=x.seq/\True)/\(l.length:Int)=(l.length:Int)/\True)/\True/\x.val.length<=140737488355328/\l.length=l.length/\l.length+1<=9223372036854775807/\(l.length+1)*64<=140737488355328/\((0=0/\l.length+1=(jO l x).length)/\IntKind.u64.wrap (l.length:Int)=F9 l x/\0=xV l x/\True)/\((l.length+1=(jO l x).length/\(((true=true/\IntKind.u64.wrap (l.length:Int)=((jO l x).getD l.length default).off)/\(true=true/\x.key=((jO l x).getD l.length default).key)/\(((jO l x).getD l.length default).val.length=x.val.length/\aj ((jO l x).getD l.length default).val.length 1 (ah aJ x.val) (ah aJ ((jO l x).getD l.length default).val))/\(true=true/\x.prod=((jO l x).getD l.length default).prod)/\(true=true/\x.seq=((jO l x).getD l.length default).seq)/\True)/\True)/\∀ k,k<l.length+1->¬k=l.length->(l.getD k default).off=((jO l x).getD k default).off/\(l.getD k default).key=((jO l x).getD k default).key/\((l.getD k default).val.length=((jO l x).getD k default).val.length/\aj (l.getD k default).val.length 1 (ah aJ (l.getD k default).val) (ah aJ ((jO l x).getD k default).val))/\(l.getD k default).prod=((jO l x).getD k default).prod/\(l.getD k default).seq=((jO l x).getD k default).seq/\True)/\True)/\True))))
theorem Ro (b:Bool) (l:List Rec) (x:Rec):(bf Tryz.prog (ahi b l x) 134 [iI b l,.agg (encR x)] [] (apT l x))=aaN b l x:=by kernel_rfl
noncomputable def ahf (b:Bool) (l:List Rec) (o m:Int):aC Tryz.prog:=dO (hh _ bO (cs1 109 1 1 (afG b l) (cs1 109 6 7 (afW b (jQ l o m)) bM)) bL)
 (uL 109 2 0 (1000000+54) (uL 109 4 0 (1000000+54) noSh))
def aaV (b:Bool) (l:List Rec) (o:Int) (m:Int):Prop :=
 ((b=b/\List.length l=List.length l/\aj (List.length l) (5:Nat) (ah fI l) (ah fI l))/\True)/\True/\List.length l<=(9223372036854775806:Nat)/\((!bG l)=true->(((0:Nat)=(0:Nat)/\(0:Nat)=List.length (jQ l o m))/\(1:Int)=DU l o/\True)/\((0:Nat)=List.length (jQ l o m)/\∀ (k:Nat),k<(0:Nat)->False/\False/\False/\False/\False/\True)/\True)/\((!bG l)=false->(decide (IntKind.wrap IntKind.u64 (↑(List.length l):Int)<o)=true->(((0:Nat)=(0:Nat)/\(0:Nat)=List.length (jQ l o m))/\(141:Int)=DU l o/\True)/\((0:Nat)=List.length (jQ l o m)/\∀ (k:Nat),k<(0:Nat)->False/\False/\False/\False/\False/\True)/\True)/\(decide (IntKind.wrap IntKind.u64 (↑(List.length l):Int)<o)=false->(decide ((0:Int)<=o)&&decide (o<=(↑(List.length l):Int))&&decide ((↑(List.length l):Int)<=(↑(List.length l):Int)))=true/\(true&&decide ((0:Int)<=if (↑(Int.toNat (↑(List.length l):Int) - Int.toNat o):Int)<if (64:Int)<if (0:Int) > m then (0:Int) else m then (64:Int) else if (0:Int) > m then (0:Int) else m then (↑(Int.toNat (↑(List.length l):Int) - Int.toNat o):Int) else if (64:Int)<if (0:Int) > m then (0:Int) else m then (64:Int) else if (0:Int) > m then (0:Int) else m)&&decide ((if (↑(Int.toNat (↑(List.length l):Int) - Int.toNat o):Int)<if (64:Int)<if (0:Int) > m then (0:Int) else m then (64:Int) else if (0:Int) > m then (0:Int) else m then (↑(Int.toNat (↑(List.length l):Int) - Int.toNat o):Int) else if (64:Int)<if (0:Int) > m then (0:Int) else m then (64:Int) else if (0:Int) > m then (0:Int) else m)<=(↑(Int.toNat (↑(List.length l):Int) - Int.toNat o):Int)))=true/\((b=b/\Int.toNat (if (↑(Int.toNat (↑(List.length l):Int) - Int.toNat o):Int)<if (64:Int)<if (0:Int) > m then (0:Int) else m then (64:Int) else if (0:Int) > m then (0:Int) else m then (↑(Int.toNat (↑(List.length l):Int) - Int.toNat o):Int) else if (64:Int)<if (0:Int) > m then (0:Int) else m then (64:Int) else if (0:Int) > m then (0:Int) else m) - (0:Nat)=List.length (jQ l o m)/\aj (Int.toNat (if (↑(Int.toNat (↑(List.length l):Int) - Int.toNat o):Int)<if (64:Int)<if (0:Int) > m then (0:Int) else m then (64:Int) else if (0:Int) > m then (0:Int) else m then (↑(Int.toNat (↑(List.length l):Int) - Int.toNat o):Int) else if (64:Int)<if (0:Int) > m then (0:Int) else m then (64:Int) else if (0:Int) > m then (0:Int) else m) - (0:Nat)) (5:Nat) (fun (k:Nat)=>ah fI l (Int.toNat o+((0:Nat)+k))) (ah fI (jQ l o m)))/\True)/\True/\Cm (jQ l o m)/\(((0:Nat)=(0:Nat)/\List.length (jQ l o m)=List.length (jQ l o m))/\(0:Int)=DU l o/\True)/\(List.length (jQ l o m)=List.length (jQ l o m)/\∀ (k:Nat),k<List.length (jQ l o m)->(List.getD (jQ l o m) k (@default Rec instInhabitedRec)).off=(List.getD (jQ l o m) k (@default Rec instInhabitedRec)).off/\(List.getD (jQ l o m) k (@default Rec instInhabitedRec)).key=(List.getD (jQ l o m) k (@default Rec instInhabitedRec)).key/\(List.length (List.getD (jQ l o m) k (@default Rec instInhabitedRec)).val=List.length (List.getD (jQ l o m) k (@default Rec instInhabitedRec)).val/\aj (List.length (List.getD (jQ l o m) k (@default Rec instInhabitedRec)).val) (1:Nat) (ah aJ (List.getD (jQ l o m) k (@default Rec instInhabitedRec)).val) (ah aJ (List.getD (jQ l o m) k (@default Rec instInhabitedRec)).val))/\(List.getD (jQ l o m) k (@default Rec instInhabitedRec)).prod=(List.getD (jQ l o m) k (@default Rec instInhabitedRec)).prod/\(List.getD (jQ l o m) k (@default Rec instInhabitedRec)).seq=(List.getD (jQ l o m) k (@default Rec instInhabitedRec)).seq/\True)/\True))
theorem VN (b:Bool) (l:List Rec) (o:Int) (m:Int):(bf Tryz.prog (ahf b l o m) 109 [iI b l,.y (.int .u64 o),.y (.int .i64 m)] [] (feT l o m))=aaV b l o m:=by kernel_rfl
theorem ae5 (b:Bool) (l:List Rec) (x:Rec) (h0:l.length<=9223372036854775806):(apT l x).Sat (aB Tryz.prog 134 [iI b l,.agg (encR x)] []):=by
 refine aP (ht:=ahi b l x) Tryz.mixed rfl ?_
 rw [Ro b l x]
 unfold aaN
 have hK:xV l x=if bG l=false then 1 else if 32<x.key.size then 131 else if 256<x.val.length then 144 else if l.length=4096 then 143 else 0:=rfl
 have hY:xV l x≠0->jO l x=[]:=fun h=>by unfold jO;rw [if_neg h]
 have hN:xV l x≠0->F9 l x=0:=fun h=>by unfold F9;rw [if_neg h]
 refine ⟨by simp,trivial,h0,fun h=>?_,fun h=>⟨fun h2=>?_,fun h2=>⟨fun h3=>?_,fun h3=>⟨fun h4=>?_,fun h4=>?_⟩⟩⟩⟩
 · have hk:xV l x=1:=by rw [hK];simp at h;simp [h]
   simp [hY (by rw [hk];omega),hN (by rw [hk];omega),hk]
 · have hk:xV l x=131:=by rw [hK];simp at h h2;simp [h];omega
   simp [hY (by rw [hk];omega),hN (by rw [hk];omega),hk]
 · have hk:xV l x=144:=by rw [hK];simp at h h2 h3;simp [h];omega
   simp [hY (by rw [hk];omega),hN (by rw [hk];omega),hk]
 · have hk:xV l x=143:=by rw [hK];simp at h h2 h3 h4;simp [h];omega
   simp [hY (by rw [hk];omega),hN (by rw [hk];omega),hk]
 · have hk:xV l x=0:=by rw [hK];simp at h h2 h3 h4;simp [h];omega
   obtain ⟨g1,g2,g3⟩:=NJ hk
   have hy:jO l x=l++[x.to (IntKind.u64.wrap l.length)]:=by unfold jO;rw [if_pos hk]
   have hn:F9 l x=IntKind.u64.wrap l.length:=by unfold F9;rw [if_pos hk]
   rw [hy,hn,hk]
   have e1:(l++[x.to (IntKind.u64.wrap l.length)]).getD l.length default=x.to (IntKind.u64.wrap l.length):=by rw [Ud];simp
   rw [e1]
   refine ⟨by simp,trivial,Za g1,by simp,trivial,by omega,rfl,by omega,by omega,by simp,⟨⟨by simp,by simp [Rec.to],fun k hk hne=>?_⟩,trivial⟩,trivial⟩
   have e2:(l++[x.to (IntKind.u64.wrap l.length)]).getD k default=l.getD k default:=by rw [Ud,if_pos (by omega)]
   rw [e2]
   simp
noncomputable def ahY (b:Bool) (l:List Rec) (x:Rec):eu Tryz.prog:=⟨134,[iI b l,.agg (encR x)],[],.need (l.length<=9223372036854775806) (apT l x),T.Sat.need fun h=>ae5 b l x h⟩
theorem agl (b:Bool) (l:List Rec) (o m:Int) (hl:l.length<=9223372036854775806) (h0:0<=o/\o<=18446744073709551615):(feT l o m).Sat (aB Tryz.prog 109 [iI b l,.y (.int .u64 o),.y (.int .i64 m)] []):=by
 refine aP (ht:=ahf b l o m) Tryz.mixed rfl ?_
 rw [VN b l o m]
 unfold aaV
 have hw:IntKind.u64.wrap (l.length:Int)=l.length:=wrap_u64 (by omega) (by omega)
 have hK:DU l o=if bG l=false then 1 else if (l.length:Int)<o then 141 else 0:=rfl
 have hY:DU l o≠0->jQ l o m=[]:=fun h=>by unfold jQ;rw [if_neg h]
 rw [hw]
 refine ⟨by simp,trivial,hl,fun h=>?_,fun h=>⟨fun h2=>?_,fun h2=>?_⟩⟩
 · have hk:DU l o=1:=by rw [hK];simp at h;simp [h]
   simp [hY (by rw [hk];omega),hk]
 · have hk:DU l o=141:=by rw [hK];simp at h h2;simp [h];omega
   simp [hY (by rw [hk];omega),hk]
 · have hk:DU l o=0:=by rw [hK];simp at h h2;simp [h];omega
   obtain ⟨g1,g2,g3,g4,g5⟩:=LB (m:=m) hk h0.1
   have gl:=YH (m:=m) hk h0.1
   have go:Cm (jQ l o m):=by unfold jQ;rw [if_pos hk];exact El g1 _ _
   have hn:(if (↑(Int.toNat (↑l.length:Int) - Int.toNat o):Int)<if (64:Int)<if (0:Int) > m then (0:Int) else m then (64:Int) else if (0:Int) > m then (0:Int) else m then (↑(Int.toNat (↑l.length:Int) - Int.toNat o):Int) else if (64:Int)<if (0:Int) > m then (0:Int) else m then (64:Int) else if (0:Int) > m then (0:Int) else m)=PV l o m:=by
    unfold PV
    omega
   simp only [hn]
   refine ⟨by simp;omega,by simp;omega,⟨⟨by simp,by omega,X9 hk _ (by omega) _ fun k j _=>by rw [Nat.zero_add]⟩,trivial⟩,trivial,go,by simp [hk],by simp⟩
noncomputable def ai8 (b:Bool) (l:List Rec) (o m:Int):eu Tryz.prog:=⟨109,[iI b l,.y (.int .u64 o),.y (.int .i64 m)],[],.need (l.length<=9223372036854775806/\0<=o/\o<=18446744073709551615) (feT l o m),T.Sat.need fun h=>agl b l o m h.1 h.2⟩
end N
namespace R
structure cB where
 kind:Int
 epoch:Int
 prod:Int
 seq:Int
 key:ByteArray
 val:List Int
 off:Int
 most:Int
 name:ByteArray
 plan:Int
instance:Inhabited cB:=⟨⟨0,0,0,0,ByteArray.empty,[],0,0,ByteArray.empty,0⟩⟩
structure mV where
 err:Int
 off:Int
 old:Bool
 recs:List Rec
instance:Inhabited mV:=⟨⟨0,0,false,[]⟩⟩
def bS (c:cB):List AV:=[.y (.int .i64 c.kind),.y (.int .u64 c.epoch),.y (.int .u64 c.prod),.y (.int .u64 c.seq),.y (.string c.key),h_ true c.val,.y (.int .u64 c.off),.y (.int .i64 c.most),.y (.string c.name),.y (.int .u64 c.plan)]
def sU (c d:cB):Prop:=c.kind=d.kind/\c.epoch=d.epoch/\c.prod=d.prod/\c.seq=d.seq/\c.key=d.key/\(true=true/\List.length c.val=List.length d.val/\aj (List.length c.val) (1:Nat) (ah aJ c.val) (ah aJ d.val))/\c.off=d.off/\c.most=d.most/\c.name=d.name/\c.plan=d.plan/\True
@[simp] theorem ahL (c d:cB):sU c d=(c.kind=d.kind/\c.epoch=d.epoch/\c.prod=d.prod/\c.seq=d.seq/\c.key=d.key/\(true=true/\List.length c.val=List.length d.val/\aj (List.length c.val) (1:Nat) (ah aJ c.val) (ah aJ d.val))/\c.off=d.off/\c.most=d.most/\c.name=d.name/\c.plan=d.plan/\True):=rfl
def KT (x:mV):List AV:=[.y (.int .i64 x.err),.y (.int .u64 x.off),.y (.bool x.old),dK true x.recs]
structure Cm (l:List Rec):Prop where
 n:l.length<=4096
 o:∀ k,k<l.length->0<=(l.getD k default).off/\(l.getD k default).off<=9223372036854775807
 v:∀ k,k<l.length->(l.getD k default).val.length<=140737488355328
def kJ (l:List Rec) (x:Rec):Int:=if !bG l then 1 else if 32<x.key.size then 131 else if 256<x.val.length then 144 else if l.length=4096 then 143 else 0
def ig (l:List Rec) (x:Rec):List Rec:=l++[x.to (IntKind.u64.wrap (l.length:Nat))]
def apT (l:List Rec) (x:Rec):T An:=.ite (kJ l x==0) (.ret (.tup [.own 0 5 0 (ig l x).length,.y (.int .u64 l.length),.s (.int .i64 0)],[OE (ig l x)],[])) (.ret (.tup [.s (.slice none 0 0),.y (.int .u64 0),.y (.int .i64 (kJ l x))],[],[]))
def Pz (n:Nat) (o m:Int):Int:=if ((n - o.toNat:Nat):Int)<(if (64:Int)<(if (0:Int) > m then (0:Int) else m) then (64:Int) else if (0:Int) > m then (0:Int) else m) then ((n - o.toNat:Nat):Int) else (if (64:Int)<(if (0:Int) > m then (0:Int) else m) then (64:Int) else if (0:Int) > m then (0:Int) else m)
def uX (l:List Rec) (o m:Int):List Rec:=(l.drop o.toNat).take (Pz l.length o m).toNat
def Ga (l:List Rec) (o:Int):Int:=if !bG l then 1 else if (l.length:Int)<o then 141 else 0
def feT (l:List Rec) (o m:Int):T An:=.ite (Ga l o==0) (.ret (.tup [.own 0 5 0 (uX l o m).length,.s (.int .i64 0)],[OE (uX l o m)],[])) (.ret (.tup [.s (.slice none 0 0),.y (.int .i64 (Ga l o))],[],[]))
theorem El {l:List Rec} (h:bG l=true):Cm l:=by
 have h1:=ko h
 refine ⟨h1,fun k hk=>?_,fun k hk=>?_⟩
 · simp only [bG,Bool.and_eq_true] at h
   have h2:=h.1
   unfold aU at h2
   rw [List.all_eq_true] at h2
   have h3:=h2 k (by simp;omega)
   simp only [QT,Bool.and_eq_true] at h3
   have h4:=h3.1
   simp at h4
   rw [wrap_u64 (by omega) (by omega)] at h4
   simp
   omega
 · have:=MW h hk
   omega
noncomputable def aif (b:Bool) (l:List P.Producer):eu Tryz.prog:=⟨101,[P.bg b l],[],.need (l.length*32<=140737488355328) (P.Cc l),T.Sat.need fun h=>P.y5 b l h⟩
noncomputable def aiv (b:Bool) (l:List Con):eu Tryz.prog:=⟨102,[dD b l],[],.need (l.length*24<=140737488355328) (ccR l),T.Sat.need fun h=>aeH b l h⟩
noncomputable def juC (b:Bool) (l:List P.Producer) (id s:Int):eu Tryz.prog:=⟨98,[P.bg b l,.y (.int .u64 id),.y (.int .u64 s)],[],.need (l.length<=9223372036854775806) (P.qN l id s),T.Sat.need fun h=>P.NG b l id s h⟩
def okN (c:cB):Bool:=!(P.aS [] c.prod c.seq==4)
def dU (c:cB):Bool:=if c.kind=1 then okN c&&(decide ((c.key.size:Int)<=32)&&decide ((c.val.length:Int)<=256)) else if c.kind=2 then decide (1<=c.most)&&decide (c.most<=64) else if c.kind=3 then okN c&&b_ c.name else if c.kind=4 then b_ c.name else if c.kind=5∨c.kind=6 then !(c.plan==0) else false
noncomputable def weH (c:cB):aC Tryz.prog:=hh _ bO (cs1 38 3 4 (juC true [] c.prod c.seq) (cs1 38 8 4 (juC true [] c.prod c.seq) (cs1 38 9 5 (LW c.name) (cs1 38 11 2 (LW c.name) bM)))) bL
def ahD (c:cB):Prop :=
 ((c.kind==1)=true->(0=0/\c.prod=c.prod/\c.seq=c.seq/\True)/\True/\0<=9223372036854775806/\((P.aS [] c.prod c.seq != 4)=true->(decide (((ByteArray.size c.key):Int)<=32)=true->decide ((c.val.length:Int)<=256)=dU c/\True)/\(decide (((ByteArray.size c.key):Int)<=32)=false->false=dU c/\True))/\((P.aS [] c.prod c.seq != 4)=false->false=dU c/\True))/\((c.kind==1)=false->((c.kind==2)=true->(decide (1<=c.most)=true->decide (c.most<=64)=dU c/\True)/\(decide (1<=c.most)=false->false=dU c/\True))/\((c.kind==2)=false->((c.kind==3)=true->(0=0/\c.prod=c.prod/\c.seq=c.seq/\True)/\True/\0<=9223372036854775806/\((P.aS [] c.prod c.seq != 4)=true->(c.name=c.name/\True)/\True/\b_ c.name=dU c/\True)/\((P.aS [] c.prod c.seq != 4)=false->false=dU c/\True))/\((c.kind==3)=false->((c.kind==4)=true->(c.name=c.name/\True)/\True/\b_ c.name=dU c/\True)/\((c.kind==4)=false->((c.kind==5)=true->(c.plan != 0)=dU c/\True)/\((c.kind==5)=false->((c.kind==6)=true->(c.plan != 0)=dU c/\True)/\((c.kind==6)=false->false=dU c/\True))))))
theorem XO (c:cB):(bf Tryz.prog (weH c) 38 [.agg (bS c)] [] (aZ (dU c)))=ahD c:=by kernel_rfl
end R
namespace D
structure jH (p:Part):Prop where
 rl:p.recs.length<=4611686018427387903
 pl:p.prods.length<=4611686018427387903
 cl:p.cons.length<=4611686018427387903
 po:∀ x∈p.prods,0<=x.offset/\x.offset<18446744073709551616
 co:wfC p.cons
theorem jH.isIn {p:Part} (h:jH p):eH p:=⟨h.rl,h.pl,h.cl,fun k hk=>(h.po _ (by simp [hk])).1⟩
theorem aiq (x:P.Producer) (j:Nat) (hj:j<4):fC (Ax.get (P.ak x) j)=true:=by
 match j,hj with
 | 0,_=>rfl
 | 1,_=>rfl
 | 2,_=>rfl
 | 3,_=>rfl
theorem ai' (x:Con) (j:Nat) (hj:j<2):fC (Ax.get (aD x) j)=true:=by
 match j,hj with
 | 0,_=>rfl
 | 1,_=>rfl
def bad (p:Part):Bool:=!aH p||IntKind.u64.wrap (p.epoch+1)==0
theorem iZ:∀ l:List UInt8,Op.bytesLess l l=false
 | []=>rfl
 | a::l=>by simp [Op.bytesLess,iZ l]
theorem ab5 (a:ByteArray):lt a a=false:=iZ _
theorem AB {p:Part} (h:aH p=true):fJ p.rng=0/\p.epoch≠0/\bG p.recs=true/\P.bF p.prods=true/\bY p.cons=true/\bI p 0=true/\p.prods.any (cu p)=false/\p.cons.any (bW p.recs.length)=false:=by
 simp only [aH,Bool.and_eq_true,Bool.not_eq_true',beq_iff_eq] at h
 obtain ⟨a,b,c,d,e,f,g,i⟩:=h
 exact ⟨a,by simpa using b,c,d,e,f,g,i⟩
end D
namespace R
structure qj (p:Part):Prop where
 n:p.recs.length<=4096
 v:∀ k,k<p.recs.length->(p.recs.getD k default).val.length<=140737488355328
 pl:p.prods.length<=4294967296
 cl:p.cons.length<=4294967296
theorem ajd (c:cB):(aZ (dU c)).Sat (aB Tryz.prog 38 [.agg (bS c)] []):=by
 refine aP (ht:=weH c) Tryz.mixed rfl ?_
 rw [XO c]
 unfold ahD dU okN
 by_cases h1:c.kind=1
 · by_cases h2:P.aS [] c.prod c.seq=4<;>by_cases h3:(c.key.size:Int)<=32<;>simp [h1,h2,h3]
 · by_cases h2:c.kind=2
   · by_cases h3:1<=c.most<;>simp [h2,h3]
   · by_cases h3:c.kind=3
     · by_cases h4:P.aS [] c.prod c.seq=4<;>simp [h3,h4]
     · by_cases h4:c.kind=4
       · simp [h4]
       · by_cases h5:c.kind=5
         · simp [h5];rfl
         · by_cases h6:c.kind=6
           · simp [h6];rfl
           · simp [h1,h2,h3,h4,h5,h6]
noncomputable def weC (c:cB):eu Tryz.prog:=⟨38,[.agg (bS c)],[],aZ (dU c),ajd c⟩
end R
namespace N
open H Q R
def Jq (l:List P.Producer):ay:=.row 80 4 l.length none (ah P.ak l)
def Yv (p:Part) (i j k:Nat):List AV:=[.y (.string p.rng.lo),.y (.string p.rng.hi),.y (.int .u64 p.epoch),.y (.int .u64 p.frozen),.own i 5 0 p.recs.length,.own j 4 0 p.prods.length,.own k 2 0 p.cons.length]
def ptM (p:Part):List ay:=[wU p.recs,Jq p.prods,FH p.cons]
def V6 (p:Part):T An:=.ret (.agg (Yv p 0 1 2),ptM p,[])
def pwT (b:Bool) (p:Part) (k:Nat):List AV:=mkT 37 [(1,.ptr 0 0 0 0),(2,.ptr 1 0 0 0),(3,.own 2 5 0 k),(11,dK b p.recs),(12,.y (.int .i64 p.recs.length)),(13,.y (.int .i64 k))]
def pwM (b:Bool) (p:Part) (k:Nat):List ay:=[.box 30 (aX b p),.box 30 (aX true default),Kv p.recs k]
def pwS (b:Bool) (p:Part) (_:Unit):Exit×List AV×List ay:=(.exit 0,mkT 37 [(1,.ptr 0 0 0 0),(2,.ptr 1 0 0 0),(3,.own 2 5 0 p.recs.length)],[.box 30 (aX b p),.box 30 (aX true default),wU p.recs])
noncomputable def ag4 (p:Part) (k:Nat):aC Tryz.prog:=dO (hh _ bO (cs1 39 5 2 (Qb true (p.recs.getD k default).val.length (ah aJ (p.recs.getD k default).val)) bM) bL) noSh
def abt (b:Bool) (p:Part) (k:{ k:Nat // k<=p.recs.length }):Prop :=
 (decide ((k.val:Int)<(p.recs.length:Int))=true->(true&&decide ((k.val:Int)<(p.recs.length:Int)))=true/\((true=true/\(p.recs.getD (Int.toNat (k.val:Int)) default).val.length=(p.recs.getD k.val default).val.length/\aj (p.recs.getD (Int.toNat (k.val:Int)) default).val.length 1 (ah aJ (p.recs.getD (Int.toNat (k.val:Int)) default).val) (ah aJ (p.recs.getD k.val default).val))/\True)/\True/\(p.recs.getD k.val default).val.length<=140737488355328/\k.val=k.val/\k.val+1<=9223372036854775807/\(k.val+1)*64<=140737488355328/\∃ (j:{ k:Nat // k<=p.recs.length }),p.recs.length - j.val<p.recs.length - k.val/\(((0=0/\0=0)/\(0=0/\0=0)/\(0=0/\k.val+1=j.val)/\(b=b/\p.recs.length=p.recs.length/\aj p.recs.length 5 (ah encR p.recs) (ah encR p.recs))/\(p.recs.length:Int)=(p.recs.length:Int)/\IntKind.i64.wrap ((k.val:Int)+1)=(j.val:Int)/\True)/\(((bP b b p p)/\(ByteArray.empty=ByteArray.empty/\ByteArray.empty=ByteArray.empty/\(0:Int)=0/\(0:Int)=0/\(true=true/\0=0/\aj 0 5 (ah encR []) (ah encR []))/\(true=true/\0=0/\aj 0 4 (ah P.ak []) (ah P.ak []))/\(true=true/\0=0/\aj 0 2 (ah aD []) (ah aD []))/\True)/\(k.val+1=j.val/\(((true=true/\(p.recs.getD (Int.toNat (k.val:Int)) default).off=(p.recs.getD k.val default).off)/\(true=true/\(p.recs.getD (Int.toNat (k.val:Int)) default).key=(p.recs.getD k.val default).key)/\((p.recs.getD k.val default).val.length=(p.recs.getD k.val default).val.length/\aj (p.recs.getD k.val default).val.length 1 (ah aJ (p.recs.getD k.val default).val) (ah aJ (p.recs.getD k.val default).val))/\(true=true/\(p.recs.getD (Int.toNat (k.val:Int)) default).prod=(p.recs.getD k.val default).prod)/\(true=true/\(p.recs.getD (Int.toNat (k.val:Int)) default).seq=(p.recs.getD k.val default).seq)/\True)/\True)/\∀ k_1,k_1<k.val+1->¬k_1=k.val->(p.recs.getD k_1 default).off=(p.recs.getD k_1 default).off/\(p.recs.getD k_1 default).key=(p.recs.getD k_1 default).key/\((p.recs.getD k_1 default).val.length=(p.recs.getD k_1 default).val.length/\aj (p.recs.getD k_1 default).val.length 1 (ah aJ (p.recs.getD k_1 default).val) (ah aJ (p.recs.getD k_1 default).val))/\(p.recs.getD k_1 default).prod=(p.recs.getD k_1 default).prod/\(p.recs.getD k_1 default).seq=(p.recs.getD k_1 default).seq/\True)/\True)/\True)/\true=true)/\true=true/\()=())/\(decide ((k.val:Int)<(p.recs.length:Int))=false->((0=0/\0=0)/\(0=0/\0=0)/\(0=0/\k.val=p.recs.length)/\True)/\((bP b b p p)/\(ByteArray.empty=ByteArray.empty/\ByteArray.empty=ByteArray.empty/\(0:Int)=0/\(0:Int)=0/\(true=true/\0=0/\aj 0 5 (ah encR []) (ah encR []))/\(true=true/\0=0/\aj 0 4 (ah P.ak []) (ah P.ak []))/\(true=true/\0=0/\aj 0 2 (ah aD []) (ah aD []))/\True)/\(k.val=p.recs.length/\∀ k_1,k_1<k.val->(p.recs.getD k_1 default).off=(p.recs.getD k_1 default).off/\(p.recs.getD k_1 default).key=(p.recs.getD k_1 default).key/\((p.recs.getD k_1 default).val.length=(p.recs.getD k_1 default).val.length/\aj (p.recs.getD k_1 default).val.length 1 (ah aJ (p.recs.getD k_1 default).val) (ah aJ (p.recs.getD k_1 default).val))/\(p.recs.getD k_1 default).prod=(p.recs.getD k_1 default).prod/\(p.recs.getD k_1 default).seq=(p.recs.getD k_1 default).seq/\True)/\True)/\true=true)
theorem Q7 (b:Bool) (p:Part) (k:{ k:Nat // k<=p.recs.length }):(bR Tryz.prog (ag4 p k.1) 39 3 (fun (k:{ k:Nat // k<=p.recs.length })=>p.recs.length - k.1) (fun k=>pwT b p k.1) (fun k=>pwM b p k.1) [0,1,2,3,4,5,6] (fun _=>.ret ()) (pwS b p) k)=abt b p k:=by kernel_rfl
noncomputable def pwH (b:Bool) (p:Part):aC Tryz.prog:=dO (hh _ (mU 39 3 (dM (fun (k:{ k:Nat // k<=p.recs.length })=>pwT b p k.1) (fun k=>pwM b p k.1) [0,1,2,3,4,5,6] (fun _=>.ret ()) (pwS b p) ⟨0,Nat.zero_le _⟩) bO) (cs1 39 8 3 (aif b p.prods) (cs1 39 8 6 (aiv b p.cons) bM)) bL) (uL 39 1 3 787 noSh)
def agy (b:Bool) (p:Part):Prop :=
 (0:Int)=0/\0<=(p.recs.length:Int)/\64*(p.recs.length:Int)<=281474976710656/\(p.recs.length:Int)<=9223372036854775807/\(((0=0/\0=0)/\(0=0/\0=0)/\(0=0/\0=0)/\(b=b/\p.recs.length=p.recs.length/\aj p.recs.length 5 (ah encR p.recs) (ah encR p.recs))/\(p.recs.length:Int)=(p.recs.length:Int)/\(0:Int)=0/\True)/\((bP b b p p)/\({ data:=#[]:ByteArray }=ByteArray.empty/\{ data:=#[]:ByteArray }=ByteArray.empty/\(0:Int)=0/\(0:Int)=0/\0=0/\0=0/\0=0/\True)/\(0=0/\∀ k,k<0->False/\False/\False/\False/\False/\True)/\True)/\true=true)/\aM Tryz.prog 39 3 (aN Tryz.prog 39 3) { t:=pwT b p (⟨0,pwH._proof_1 p⟩:{ k:Nat // k<=p.recs.length }).val,m:=pwM b p (⟨0,pwH._proof_1 p⟩:{ k:Nat // k<=p.recs.length }).val,mv:=[]:St } (T.map (bJ [0,1,2,3,4,5,6] (pwS b p)) ((fun (x:{ k:Nat // k<=p.recs.length })=>T.ret ()) (⟨0,pwH._proof_1 p⟩:{ k:Nat // k<=p.recs.length })))/\((b=b/\p.prods.length=p.prods.length/\aj p.prods.length 4 (ah P.ak p.prods) (ah P.ak p.prods))/\True)/\True/\p.prods.length*32<=140737488355328/\((b=b/\p.cons.length=p.cons.length/\aj p.cons.length 2 (ah aD p.cons) (ah aD p.cons))/\True)/\True/\p.cons.length*24<=140737488355328/\(p.rng.lo=p.rng.lo/\p.rng.hi=p.rng.hi/\p.epoch=p.epoch/\p.frozen=p.frozen/\(0=0/\p.recs.length=p.recs.length)/\(0=0/\p.prods.length=p.prods.length)/\(0=0/\p.cons.length=p.cons.length)/\True)/\(p.recs.length=p.recs.length/\∀ k,k<p.recs.length->(p.recs.getD k default).off=(p.recs.getD k default).off/\(p.recs.getD k default).key=(p.recs.getD k default).key/\((p.recs.getD k default).val.length=(p.recs.getD k default).val.length/\aj (p.recs.getD k default).val.length 1 (ah aJ (p.recs.getD k default).val) (ah aJ (p.recs.getD k default).val))/\(p.recs.getD k default).prod=(p.recs.getD k default).prod/\(p.recs.getD k default).seq=(p.recs.getD k default).seq/\True)/\(p.prods.length=p.prods.length/\aj p.prods.length 4 (ah P.ak p.prods) (ah P.ak p.prods))/\(p.cons.length=p.cons.length/\aj p.cons.length 2 (ah aD p.cons) (ah aD p.cons))/\True
theorem ZQ (b:Bool) (p:Part):(bf Tryz.prog (pwH b p) 39 [.agg (aX b p)] [] (V6 p))=agy b p:=by kernel_rfl
theorem ZY (b:Bool) (p:Part) (h:qj p) (k:{ k:Nat // k<=p.recs.length }):aM Tryz.prog 39 3 (aN Tryz.prog 39 3) ⟨pwT b p k.1,pwM b p k.1,[]⟩ (T.map (bJ [0,1,2,3,4,5,6] (pwS b p)) (.ret ())):=by
 refine dL (P:=Tryz.prog) (f:=39) (k:=3) (μ:=fun (k:{ k:Nat // k<=p.recs.length })=>p.recs.length - k.1) (o:=fun _=>.ret ()) (ht:=fun k=>ag4 p k.1) (sS:=fun k=>pwT b p k.1) (stM:=fun k=>pwM b p k.1) (X:=[0,1,2,3,4,5,6]) (S:=pwS b p) Tryz.mixed (fun _=>rfl) (fun k=>(Q7 b p k).mpr ?_) k
 unfold abt
 obtain ⟨k,hk⟩:=k
 have hn:=h.n
 by_cases hkl:k<p.recs.length
 · have hv:=h.v k hkl
   have hex:∀ q:{ k:Nat // k<=p.recs.length }->Prop,q ⟨k+1,hkl⟩->∃ j,q j:=fun q hq=>⟨_,hq⟩
   have hw:IntKind.i64.wrap ((k:Int)+1)=((k+1:Nat):Int):=by rw [wrap_i64 (by omega) (by omega)];omega
   simp only [Int.toNat_natCast]
   generalize p.recs.getD k default=x at hv ⊢
   refine ⟨fun _=>?_,fun h=>by simp at h;omega⟩
   repeat' with_reducible apply And.intro
   all_goals first
    | with_reducible rfl
    | exact trivial
    | omega
    | (simp;done)
    | (simp;omega)
    | exact aG _ _ _
    | (refine hex _ ?_;simp [hw];omega)
 · obtain rfl:k=p.recs.length:=by omega
   refine ⟨fun h=>by simp at h,fun _=>?_⟩
   simp
theorem ahZ (b:Bool) (p:Part) (h:qj p):(V6 p).Sat (aB Tryz.prog 39 [.agg (aX b p)] []):=by
 refine aP (ht:=pwH b p) Tryz.mixed rfl ?_
 rw [ZQ b p]
 unfold agy
 have lp:=ZY b p h ⟨0,Nat.zero_le _⟩
 have hn:=h.n
 have hp:=h.pl
 have hc:=h.cl
 simp [lp]
 exact ⟨by omega,by omega,rfl,by omega,by omega⟩
end N
namespace R
noncomputable def agP (b:Bool) (l:List P.Producer) (id seq o:Int):eu Tryz.prog:=⟨135,[P.bg b l,.y (.int .u64 id),.y (.int .u64 seq),.y (.int .u64 o)],[],.need (l.length<=9223372036854775806) (P.jP l (P.bK id seq true o)),T.Sat.need fun h=>P.aaD b l id seq o h⟩
noncomputable def aaI (b:Bool) (l:List P.Producer) (id seq:Int):eu Tryz.prog:=⟨139,[P.bg b l,.y (.int .u64 id),.y (.int .u64 seq)],[],.need (l.length<=9223372036854775806) (P.jP l (P.bK id seq false 0)),T.Sat.need fun h=>P.Qi b l id seq h⟩
def newR (c:cB):Rec:=⟨0,c.key,c.val,c.prod,c.seq⟩
def nN (p:Part) (c:cB):P.Producer:=P.bK c.prod c.seq true p.recs.length
def nH (c:cB):P.Producer:=P.bK c.prod c.seq false 0
def rP (p:Part) (c:cB):Int:=dH p.cons ⟨c.name,c.off⟩ (IntKind.u64.wrap (p.recs.length:Nat))
def QF (c:cB) (e:Int):List ay:=[.box 186 [.y (.int .i64 c.kind),.ifc 31 (.y (.int .i64 e))]]
def agM (c:cB):List ay:=[.box 186 [.y (.int .i64 c.kind),.ifc 141 (.agg [])]]
def tq (p:Part) (c:cB):Int:=if fZ p.rng c.key=false then 163 else if P.aS p.prods c.prod c.seq=2 then 999 else if P.aS p.prods c.prod c.seq=3 then 152 else if p.frozen≠0 then 164 else if kJ p.recs (newR c)≠0 then kJ p.recs (newR c) else P.aI p.prods (nN p c)
def Rk (p:Part) (c:cB):Part:=⟨p.rng,p.epoch,p.frozen,ig p.recs (newR c),P.aF p.prods (nN p c),p.cons⟩
def vP (p:Part) (c:cB):Int:=if P.aS p.prods c.prod c.seq≠1 then 999 else if p.frozen≠0 then 164 else if rP p c≠0 then rP p c else P.aI p.prods (nH c)
def Vq (p:Part) (c:cB):Part:=⟨p.rng,p.epoch,p.frozen,p.recs,P.aF p.prods (nH c),aF p.cons ⟨c.name,c.off⟩⟩
def yF (p:Part) (c:cB):Bool:=!(p.frozen==0)&&!(p.frozen==c.plan)
def Ho (p:Part) (by':Int):Part:=⟨p.rng,p.epoch,by',p.recs,p.prods,p.cons⟩
theorem tRs (l:List Rec):∀ (k:Nat),k<l.length->∀ (j:Nat),j<5->fC (ah encR l k j)=true:=fun k _ j hj=>aix _ j hj
theorem tPs (l:List P.Producer):∀ (k:Nat),k<l.length->∀ (j:Nat),j<4->fC (ah P.ak l k j)=true:=fun k _ j hj=>D.aiq _ j hj
theorem tCs (l:List Con):∀ (k:Nat),k<l.length->∀ (j:Nat),j<2->fC (ah aD l k j)=true:=fun k _ j hj=>D.ai' _ j hj
theorem wI (l:List P.Producer) (x:P.Producer):P.aI l x≠999:=by
 unfold P.aI
 repeat' split
 all_goals decide
theorem MI (l:List Rec) (x:Rec):kJ l x≠999:=by
 unfold kJ
 repeat' split
 all_goals decide
theorem LC (l:List Con) (x:Con) (e:Int):dH l x e≠999:=by
 unfold dH
 repeat' split
 all_goals decide
def un9 (e:Int):Int:=if e=999 then 0 else e
def kT (p:Part) (c:cB):Int:=if c.kind=1 then un9 (tq p c) else if c.kind=3 then un9 (vP p c) else if c.kind=5∨c.kind=6 then (if yF p c=true then 164 else 0) else if p.frozen≠0 then 164 else if c.kind=2 then Ga p.recs c.off else 0
def Lb (c:cB):Int:=if c.kind=5 then c.plan else 0
def JC (p:Part) (c:cB):Part:=if c.kind=1 then (if tq p c=0 then Rk p c else p) else if c.kind=3 then (if vP p c=0 then Vq p c else p) else if c.kind=5∨c.kind=6 then (if yF p c=true then p else Ho p (Lb c)) else p
def qp (p:Part) (c:cB):mV :=
 if c.kind=1 then (if tq p c=0 then ⟨0,p.recs.length,false,[]⟩ else if tq p c=999 then ⟨0,P.dZ p.prods c.prod c.seq,true,[]⟩ else ⟨0,0,false,[]⟩)
 else if c.kind=3 then (if vP p c=999 then ⟨0,0,true,[]⟩ else ⟨0,c.off,false,[]⟩)
 else if c.kind=5∨c.kind=6 then ⟨0,0,!yF p c&&p.frozen==Lb c,[]⟩
 else if p.frozen≠0 then ⟨0,0,false,[]⟩
 else if c.kind=4 then ⟨0,gX p.cons c.name,jL p.cons c.name,[]⟩
 else if c.kind=2 then (if Ga p.recs c.off=0 then ⟨0,IntKind.u64.wrap (c.off+IntKind.u64.wrap (uX p.recs c.off c.most).length),false,uX p.recs c.off c.most⟩ else ⟨0,c.off,false,[]⟩)
 else ⟨0,0,false,[]⟩
structure Act where
 q:Part
 x:mV
 e:Int
end R
namespace N
open H Q R
def ptG (p:Part):List ay:=[.dead,.dead,.dead,.dead,wU p.recs,Jq p.prods,FH p.cons]
def vH (p:Part):List ay:=[.dead,.dead,.dead,.dead,wU p.recs,Jq p.prods,FH p.cons,.dead,.dead,.dead,.dead,.dead]
def yH:List Nat:=[0,1,2,3,4,5,6,7,8,9,10,11,12,13,14,15,16,17,18,19,20,21,22,23,24,25]
def Ct (p:Part):AV:=.agg (Yv p 4 5 6)
def dw (a:Part) (b:Part):Prop :=
 a.rng.lo=b.rng.lo/\a.rng.hi=b.rng.hi/\a.epoch=b.epoch/\a.frozen=b.frozen/\((0:Nat)=(0:Nat)/\List.length a.recs=List.length b.recs)/\((0:Nat)=(0:Nat)/\List.length a.prods=List.length b.prods)/\((0:Nat)=(0:Nat)/\List.length a.cons=List.length b.cons)/\True
def bB (a:Part) (b:Part):Prop :=
 List.length a.recs=List.length b.recs/\∀ (k:Nat),k<List.length a.recs->(List.getD a.recs k (@default Rec instInhabitedRec)).off=(List.getD b.recs k (@default Rec instInhabitedRec)).off/\(List.getD a.recs k (@default Rec instInhabitedRec)).key=(List.getD b.recs k (@default Rec instInhabitedRec)).key/\(List.length (List.getD a.recs k (@default Rec instInhabitedRec)).val=List.length (List.getD b.recs k (@default Rec instInhabitedRec)).val/\aj (List.length (List.getD a.recs k (@default Rec instInhabitedRec)).val) (1:Nat) (ah aJ (List.getD a.recs k (@default Rec instInhabitedRec)).val) (ah aJ (List.getD b.recs k (@default Rec instInhabitedRec)).val))/\(List.getD a.recs k (@default Rec instInhabitedRec)).prod=(List.getD b.recs k (@default Rec instInhabitedRec)).prod/\(List.getD a.recs k (@default Rec instInhabitedRec)).seq=(List.getD b.recs k (@default Rec instInhabitedRec)).seq/\True
def bH (a:Part) (b:Part):Prop :=
 List.length a.prods=List.length b.prods/\aj (List.length a.prods) (4:Nat) (ah P.ak a.prods) (ah P.ak b.prods)
def bC (a:Part) (b:Part):Prop :=
 List.length a.cons=List.length b.cons/\aj (List.length a.cons) (2:Nat) (ah aD a.cons) (ah aD b.cons)
theorem lM (a:Part):dw a a:=by unfold dw;simp
theorem lK (a:Part):bB a a:=by unfold bB;simp
theorem lN (a:Part):bH a a:=by unfold bH;simp
theorem lT (a:Part):bC a a:=by unfold bC;simp
end N
end Go.Proofs.YtnbhdjadlbhknaaGreatDoor
