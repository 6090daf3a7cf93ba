import Derived.Test.YtnbhdjadlbhknaaGreatDoorProg
import Derived.KernelRfl
import Derived.Test.YtnbhdjadlbhknaaGreatDoorE11
import Derived.Test.YtnbhdjadlbhknaaGreatDoorW1
set_option linter.unusedVariables false
set_option linter.unusedSimpArgs false
set_option maxRecDepth 1000000
namespace Go.Proofs.YtnbhdjadlbhknaaGreatDoor
open Go.Ax
section
def Bb (l:List Con) (k:Nat):Bool:=dD (l.getD k default).name&&!(decide (0<k)&&!lt (l.getD (k - 1) default).name (l.getD k default).name)
def bW (l:List Con) (k:Nat):Bool:=(List.range' k (l.length - k)).all fun j=>Bb l j
theorem Bz {l:List Con} {k:Nat} (h:l.length<=k):bW l k=true:=by
 unfold bW
 rw [show l.length - k=0 by omega];rfl
theorem rO {l:List Con} {k:Nat} (h:k<l.length):bW l k=(Bb l k&&bW l (k+1)):=by
 unfold bW
 rw [show l.length - k=(l.length - (k+1))+1 by omega,List.range'_succ];rfl
def dJ (l:List Con):Bool:=bW l 0&&decide (l.length<=64)
def coT (b:Bool) (l:List Con) (k:Nat):List AV:=mkT 35 [(0,dR b l),(2,.s (.bool false)),(5,dR b l),(6,.y (.int .i64 l.length)),(7,.y (.int .i64 k))]
def coS (b:Bool) (l:List Con) (r:Bool):Exit×List AV×List aH:=match r with
 | true=>(.exit 0,mkT 35 [(0,dR b l)],[])
 | false=>(.ret,mkT 35 [(2,.s (.bool false))],[])
def Zv (l:List Con) (k:Nat):T Bool:=.ite (bW l k) (.ret true) (.ret false)
noncomputable def ad2 (l:List Con) (k:Nat):aC Tryz.prog:=hh _ bB (cs1 46 4 2 (Mh (l.getD k default).name) bA) bq
def Y6 (b:Bool) (l:List Con) (k:Nat):Prop :=
 (decide ((k:Int)<(l.length:Int))=true->(true&&decide ((k:Int)<(l.length:Int)))=true/\((l.getD (Int.toNat (k:Int)) default).name=(l.getD k default).name/\True)/\True/\((!dD (l.getD k default).name)=true->(bW l k=true->False)/\(bW l k=false->(false=false/\True)/\True/\true=true))/\((!dD (l.getD k default).name)=false->(decide (0<(k:Int))=true->(decide (0<=IntKind.i64.wrap ((k:Int) - 1))&&decide (IntKind.i64.wrap ((k:Int) - 1)<(l.length:Int)))=true/\((!Op.bytesLess (l.getD (Int.toNat (IntKind.i64.wrap ((k:Int) - 1))) default).name.data.toList (l.getD (Int.toNat (k:Int)) default).name.data.toList)=true->(bW l k=true->False)/\(bW l k=false->(false=false/\True)/\True/\true=true))/\((!Op.bytesLess (l.getD (Int.toNat (IntKind.i64.wrap ((k:Int) - 1))) default).name.data.toList (l.getD (Int.toNat (k:Int)) default).name.data.toList)=false->∃ j:Nat,l.length - j<l.length - k/\(((b=b/\l.length=l.length/\ak l.length 2 (ah aJ l) (ah aJ l))/\false=false/\(b=b/\l.length=l.length/\ak l.length 2 (ah aJ l) (ah aJ l))/\(l.length:Int)=(l.length:Int)/\IntKind.i64.wrap ((k:Int)+1)=(j:Int)/\True)/\True/\true=true)/\true=true/\(bW l j=true->(bW l k=true->true=true)/\(bW l k=false->true=false))/\(bW l j=false->(bW l k=true->false=true)/\(bW l k=false->false=false))))/\(decide (0<(k:Int))=false->∃ j:Nat,l.length - j<l.length - k/\(((b=b/\l.length=l.length/\ak l.length 2 (ah aJ l) (ah aJ l))/\false=false/\(b=b/\l.length=l.length/\ak l.length 2 (ah aJ l) (ah aJ l))/\(l.length:Int)=(l.length:Int)/\IntKind.i64.wrap ((k:Int)+1)=(j:Int)/\True)/\True/\true=true)/\true=true/\(bW l j=true->(bW l k=true->true=true)/\(bW l k=false->true=false))/\(bW l j=false->(bW l k=true->false=true)/\(bW l k=false->false=false)))))/\(decide ((k:Int)<(l.length:Int))=false->(bW l k=true->((b=b/\l.length=l.length/\ak l.length 2 (ah aJ l) (ah aJ l))/\True)/\True/\true=true)/\(bW l k=false->False))
theorem SL (b:Bool) (l:List Con) (k:Nat):(cu Tryz.prog (ad2 l k) 46 2 (fun k=>l.length - k) (coT b l) (fun _=>[]) [0] (Zv l) (coS b l) k)=Y6 b l k:=by kernel_rfl
noncomputable def coH (b:Bool) (l:List Con):aC Tryz.prog:=hh _ (nu 46 2 (eP (coT b l) (fun _=>[]) [0] (Zv l) (coS b l) 0) bB) bA bq
def Rb (b:Bool) (l:List Con):Prop :=
 (((b=b/\l.length=l.length/\ak l.length 2 (ah aJ l) (ah aJ l))/\false=false/\(b=b/\l.length=l.length/\ak l.length 2 (ah aJ l) (ah aJ l))/\(l.length:Int)=(l.length:Int)/\(0:Int)=0/\True)/\True/\true=true)/\aQ Tryz.prog 46 2 (aS Tryz.prog 46 2) { t:=coT b l 0,m:=[],mv:=[]:St } (T.map (bU [0] (coS b l)) (Zv l 0))/\(bW l 0=true->decide ((l.length:Int)<=64)=dJ l/\True)/\(bW l 0=false->false=dJ l/\True)
theorem Fh (b:Bool) (l:List Con):(aZ Tryz.prog (coH b l) 46 [dR b l] [] (bM (dJ l)))=Rb b l:=by kernel_rfl
def crT (b:Bool) (l:List Con) (k:Nat):List AV:=mkT 40 [(0,dR b l),(2,.s (.bool false)),(3,.y (.int .i64 k))]
def crS (r:Bool):Exit×List AV×List aH:=match r with
 | true=>(.exit 0,mkT 40 [],[])
 | false=>(.ret,mkT 40 [(2,.s (.bool false))],[])
noncomputable def aew (l:List Con) (k:Nat):aC Tryz.prog:=hh _ bB (cs1 52 6 5 (nmC (l.getD k default).name) bA) bq
def ZM (b:Bool) (l:List Con) (k:Nat):Prop :=
 (decide ((k:Int)<(l.length:Int))=true->(true&&decide ((k:Int)<(l.length:Int)))=true/\((l.getD (Int.toNat (k:Int)) default).name=(l.getD k default).name/\True)/\True/\((!dD (l.getD k default).name)=true->(bW l k=true->False)/\(bW l k=false->(false=false/\True)/\True/\true=true))/\((!dD (l.getD k default).name)=false->(decide (0<(k:Int))=true->(decide (0<=IntKind.i64.wrap ((k:Int) - 1))&&decide (IntKind.i64.wrap ((k:Int) - 1)<(l.length:Int)))=true/\(true&&decide ((k:Int)<(l.length:Int)))=true/\((!Op.bytesLess (l.getD (Int.toNat (IntKind.i64.wrap ((k:Int) - 1))) default).name.data.toList (l.getD (Int.toNat (k:Int)) default).name.data.toList)=true->(bW l k=true->False)/\(bW l k=false->(false=false/\True)/\True/\true=true))/\((!Op.bytesLess (l.getD (Int.toNat (IntKind.i64.wrap ((k:Int) - 1))) default).name.data.toList (l.getD (Int.toNat (k:Int)) default).name.data.toList)=false->∃ j:Nat,l.length - j<l.length - k/\(((b=b/\l.length=l.length/\ak l.length 2 (ah aJ l) (ah aJ l))/\false=false/\IntKind.i64.wrap ((k:Int)+1)=(j:Int)/\True)/\True/\true=true)/\true=true/\(bW l j=true->(bW l k=true->true=true)/\(bW l k=false->true=false))/\(bW l j=false->(bW l k=true->false=true)/\(bW l k=false->false=false))))/\(decide (0<(k:Int))=false->∃ j:Nat,l.length - j<l.length - k/\(((b=b/\l.length=l.length/\ak l.length 2 (ah aJ l) (ah aJ l))/\false=false/\IntKind.i64.wrap ((k:Int)+1)=(j:Int)/\True)/\True/\true=true)/\true=true/\(bW l j=true->(bW l k=true->true=true)/\(bW l k=false->true=false))/\(bW l j=false->(bW l k=true->false=true)/\(bW l k=false->false=false)))))/\(decide ((k:Int)<(l.length:Int))=false->(bW l k=true->True/\True/\true=true)/\(bW l k=false->False))
theorem Sd (b:Bool) (l:List Con) (k:Nat):(cu Tryz.prog (aew l k) 52 4 (fun k=>l.length - k) (crT b l) (fun _=>[]) [0] (Zv l) crS k)=ZM b l k:=by kernel_rfl
noncomputable def crH (b:Bool) (l:List Con):aC Tryz.prog:=hh _ (nu 52 4 (eP (crT b l) (fun _=>[]) [0] (Zv l) crS 0) bB) bA bq
def acY (b:Bool) (l:List Con):Prop :=
 (decide (64<(l.length:Int))=true->false=dJ l/\True)/\(decide (64<(l.length:Int))=false->(((b=b/\l.length=l.length/\ak l.length 2 (ah aJ l) (ah aJ l))/\false=false/\(0:Int)=0/\True)/\True/\true=true)/\aQ Tryz.prog 52 4 (aS Tryz.prog 52 4) { t:=crT b l 0,m:=[],mv:=[]:St } (T.map (bU [0] crS) (Zv l 0))/\(bW l 0=true->true=dJ l/\True)/\(bW l 0=false->false=dJ l/\True))
theorem X6 (b:Bool) (l:List Con):(aZ Tryz.prog (crH b l) 52 [dR b l] [] (bM (dJ l)))=acY b l:=by kernel_rfl
def Dh (a b:ByteArray):Bool:=a.data.toList==b.data.toList
def Cq (l:List Con) (s:ByteArray):Option Con:=l.find? fun x=>Dh x.name s
def fnR (s:ByteArray):AV:=.fn (.func 140) [] [.ip false 1 (get [.y (.string s)])]
def rxT (b:Bool) (s:ByteArray) (l:List Con) (k:Nat):List AV:=mkT 19 [(0,dR b l),(1,fnR s),(4,.s (.int .i64 0)),(7,.y (.int .i64 l.length)),(8,.y (.int .i64 k))]
def uh (r:Bool×Nat):Exit×List AV×List aH:=match r.1 with
 | true=>(.ret,mkT 19 [(4,.y (.int .i64 r.2))],[])
 | false=>(.exit 0,mkT 19 [],[])
def lT (l:List Con) (s:ByteArray):Bool:=l.any fun x=>Dh x.name s
def rxO (l:List Con) (s:ByteArray) (k:Nat):T (Bool×Nat):=.ite (lT (l.drop k) s) (.ret (true,k+(l.drop k).findIdx fun x=>Dh x.name s)) (.ret (false,0))
def Zu (b:Bool) (s:ByteArray) (l:List Con) (k:Nat):Prop :=
 (decide ((↑k:Int)<(↑(List.length l):Int))=true->(true&&decide ((↑k:Int)<(↑(List.length l):Int)))=true/\(((List.getD l (Int.toNat (↑k:Int)) (@default Con instInhabitedCon)).name.data.toList==s.data.toList)=true->(lT (List.drop k l) s=true->((↑k:Int)=(↑(k+List.findIdx (fun (x:Con)=>Dh x.name s) (List.drop k l)):Int)/\True)/\True/\true=true)/\(lT (List.drop k l) s=false->False))/\(((List.getD l (Int.toNat (↑k:Int)) (@default Con instInhabitedCon)).name.data.toList==s.data.toList)=false->∃ (j:Nat),List.length l - j<List.length l - k/\(((b=b/\List.length l=List.length l/\ak (List.length l) (2:Nat) (ah aJ l) (ah aJ l))/\(True/\(false=false/\(1:Nat)<=(1:Nat)/\eT (1:Nat) (Ax.get [AV.y (Value.string s)]) (Ax.get [AV.y (Value.string s)]))/\True)/\(0:Int)=(0:Int)/\(↑(List.length l):Int)=(↑(List.length l):Int)/\IntKind.wrap IntKind.i64 ((↑k:Int)+(1:Int))=(↑j:Int)/\True)/\True/\true=true)/\true=true/\(lT (List.drop j l) s=true->(lT (List.drop k l) s=true->(true,j+List.findIdx (fun (x:Con)=>Dh x.name s) (List.drop j l))=(true,k+List.findIdx (fun (x:Con)=>Dh x.name s) (List.drop k l)))/\(lT (List.drop k l) s=false->(true,j+List.findIdx (fun (x:Con)=>Dh x.name s) (List.drop j l))=(false,(0:Nat))))/\(lT (List.drop j l) s=false->(lT (List.drop k l) s=true->(false,(0:Nat))=(true,k+List.findIdx (fun (x:Con)=>Dh x.name s) (List.drop k l)))/\(lT (List.drop k l) s=false->(false,(0:Nat))=(false,(0:Nat))))))/\(decide ((↑k:Int)<(↑(List.length l):Int))=false->(lT (List.drop k l) s=true->False)/\(lT (List.drop k l) s=false->True/\True/\true=true))
theorem QH (b:Bool) (s:ByteArray) (l:List Con) (k:Nat):(cu Tryz.prog (hT _) 117 2 (fun k=>l.length - k) (rxT b s l) (fun _=>[]) [0] (rxO l s) uh k)=Zu b s l k:=by kernel_rfl
noncomputable def rxH (b:Bool) (s:ByteArray) (l:List Con):aC Tryz.prog:=hh _ (nu 117 2 (eP (rxT b s l) (fun _=>[]) [0] (rxO l s) uh 0) bB) bA bq
def iK (l:List Con) (s:ByteArray):Int:=((Cq l s).getD default).off
def rdR (l:List Con) (s:ByteArray):T An:=.ret (.tup [.y (.int .u64 (iK l s)),.y (.bool (lT l s))],[],[])
def Pn (b:Bool) (s:ByteArray) (l:List Con):Prop :=
 (((b=b/\List.length l=List.length l/\ak (List.length l) (2:Nat) (ah aJ l) (ah aJ l))/\(True/\(false=false/\(1:Nat)<=(1:Nat)/\eT (1:Nat) (fun (j:Nat)=>Ax.get [AV.y (Value.string s)] ((0:Nat)+j)) (Ax.get [AV.y (Value.string s)]))/\True)/\(0:Int)=(0:Int)/\(↑(List.length l):Int)=(↑(List.length l):Int)/\(0:Int)=(0:Int)/\True)/\True/\true=true)/\aQ Tryz.prog (117:Nat) (2:Nat) (aS Tryz.prog (117:Nat) (2:Nat)) { t:=rxT b s l (0:Nat),m:=[],mv:=[]:St } (T.map (bU [(0:Nat)] uh) (rxO l s (0:Nat)))/\(lT (List.drop (0:Nat) l) s=true->true=true/\True/\(false=true->((0:Int)=iK l s/\false=lT l s/\True)/\True)/\(false=false->(true&&decide ((↑((0:Nat)+List.findIdx (fun (x:Con)=>Dh x.name s) (List.drop (0:Nat) l)):Int)<(↑(List.length l):Int)))=true/\((List.getD l (Int.toNat (↑((0:Nat)+List.findIdx (fun (x:Con)=>Dh x.name s) (List.drop (0:Nat) l)):Int)) (@default Con instInhabitedCon)).off=iK l s/\true=lT l s/\True)/\True))/\(lT (List.drop (0:Nat) l) s=false->true=true/\True/\((0:Int)=iK l s/\false=lT l s/\True)/\True)
theorem OC (b:Bool) (s:ByteArray) (l:List Con):(aZ Tryz.prog (rxH b s l) 108 [dR b l,.y (.string s)] [] (rdR l s))=Pn b s l:=by kernel_rfl
def rrT (b:Bool) (s:ByteArray) (l:List Con) (k:Nat):List AV:=mkT 25 [(0,dR b l),(1,.y (.string s)),(6,.y (.int .i64 k))]
def rrS (r:Bool×Int):Exit×List AV×List aH:=match r.1 with
 | true=>(.ret,mkT 25 [(4,.y (.int .u64 r.2)),(5,.s (.bool true))],[])
 | false=>(.exit 0,mkT 25 [],[])
def rrO (l:List Con) (s:ByteArray) (k:Nat):T (Bool×Int):=.ite (lT (l.drop k) s) (.ret (true,iK (l.drop k) s)) (.ret (false,0))
def aaj (b:Bool) (s:ByteArray) (l:List Con) (k:Nat):Prop :=
 (decide ((↑k:Int)<(↑(List.length l):Int))=true->(true&&decide ((↑k:Int)<(↑(List.length l):Int)))=true/\(((List.getD l (Int.toNat (↑k:Int)) (@default Con instInhabitedCon)).name.data.toList==s.data.toList)=true->(true&&decide ((↑k:Int)<(↑(List.length l):Int)))=true/\(lT (List.drop k l) s=true->((List.getD l (Int.toNat (↑k:Int)) (@default Con instInhabitedCon)).off=iK (List.drop k l) s/\true=true/\True)/\True/\true=true)/\(lT (List.drop k l) s=false->False))/\(((List.getD l (Int.toNat (↑k:Int)) (@default Con instInhabitedCon)).name.data.toList==s.data.toList)=false->∃ (j:Nat),List.length l - j<List.length l - k/\(((b=b/\List.length l=List.length l/\ak (List.length l) (2:Nat) (ah aJ l) (ah aJ l))/\s=s/\IntKind.wrap IntKind.i64 ((↑k:Int)+(1:Int))=(↑j:Int)/\True)/\True/\true=true)/\true=true/\(lT (List.drop j l) s=true->(lT (List.drop k l) s=true->(true,iK (List.drop j l) s)=(true,iK (List.drop k l) s))/\(lT (List.drop k l) s=false->(true,iK (List.drop j l) s)=(false,(0:Int))))/\(lT (List.drop j l) s=false->(lT (List.drop k l) s=true->(false,(0:Int))=(true,iK (List.drop k l) s))/\(lT (List.drop k l) s=false->(false,(0:Int))=(false,(0:Int))))))/\(decide ((↑k:Int)<(↑(List.length l):Int))=false->(lT (List.drop k l) s=true->False)/\(lT (List.drop k l) s=false->True/\True/\true=true))
theorem PE (b:Bool) (s:ByteArray) (l:List Con) (k:Nat):(cu Tryz.prog (hT _) 72 2 (fun k=>l.length - k) (rrT b s l) (fun _=>[]) [0] (rrO l s) rrS k)=aaj b s l k:=by kernel_rfl
noncomputable def rrH (b:Bool) (s:ByteArray) (l:List Con):aC Tryz.prog:=hh _ (nu 72 2 (eP (rrT b s l) (fun _=>[]) [0] (rrO l s) rrS 0) bB) bA bq
def adQ (b:Bool) (s:ByteArray) (l:List Con):Prop :=
 (((b=b/\l.length=l.length/\ak l.length 2 (ah aJ l) (ah aJ l))/\s=s/\(0:Int)=0/\True)/\True/\true=true)/\aQ Tryz.prog 72 2 (aS Tryz.prog 72 2) { t:=rrT b s l 0,m:=[],mv:=[]:St } (T.map (bU [0] rrS) (rrO l s 0))/\(lT (List.drop 0 l) s=true->(iK (List.drop 0 l) s=iK l s/\true=lT l s/\True)/\True)/\(lT (List.drop 0 l) s=false->(0=iK l s/\false=lT l s/\True)/\True)
theorem Ue (b:Bool) (s:ByteArray) (l:List Con):(aZ Tryz.prog (rrH b s l) 72 [dR b l,.y (.string s)] [] (rdR l s))=adQ b s l:=by kernel_rfl
def adT (to:List Int) (o:Int):Int:=to.getD (min o (to.length - 1)).toNat 0
theorem Wj (b:Bool) (l:List Con) (hl:l.length<=9223372036854775806) (k:Nat):aQ Tryz.prog 46 2 (aS Tryz.prog 46 2) ⟨coT b l k,[],[]⟩ ((Zv l k).map (bU [0] (coS b l))):=by
 refine dU (ht:=ad2 l) Tryz.mixed (fun _=>rfl) (fun k=>(SL b l k).mpr ?_) k
 unfold Y6
 simp
 refine ⟨fun h=>?_,fun h=>by simp [Bz h]⟩
 rw [rO h]
 have e1:IntKind.i64.wrap ((k:Int)+1)=((k+1:Nat):Int):=by rw [wrap_i64 (by omega) (by omega)];omega
 rw [e1]
 rcases Nat.eq_zero_or_pos k with rfl | hk
 · simp [Bb]
   generalize l[0]?.getD default=x
   cases dD x.name<;>simp
   all_goals repeat' with_reducible apply And.intro
   all_goals first | omega | exact ⟨1,by omega,by simp,by grind⟩
 · have e2:IntKind.i64.wrap ((k:Int) - 1)=((k - 1:Nat):Int):=by rw [wrap_i64 (by omega) (by omega)];omega
   rw [e2]
   simp [Bb,lt,hk]
   generalize l[k]?.getD default=x
   generalize l[k - 1]?.getD default=y
   generalize Op.bytesLess y.name.data.toList x.name.data.toList=q
   cases dD x.name<;>cases q<;>simp<;>(try omega)
   all_goals repeat' with_reducible apply And.intro
   all_goals first | omega | (intro h0;exact absurd h0 (by omega)) | exact ⟨k+1,by omega,by simp,by grind⟩
theorem abw (b:Bool) (l:List Con) (hl:l.length<=9223372036854775806):(bM (dJ l)).Sat (au Tryz.prog 46 [dR b l] []):=by
 refine aR (ht:=coH b l) Tryz.mixed rfl ?_
 rw [Fh b l]
 unfold Rb
 have:=Wj b l hl 0
 simp [this,dJ]
 grind
theorem Yh (b:Bool) (l:List Con) (hl:l.length<=9223372036854775806) (k:Nat):aQ Tryz.prog 52 4 (aS Tryz.prog 52 4) ⟨crT b l k,[],[]⟩ ((Zv l k).map (bU [0] crS)):=by
 refine dU (ht:=aew l) Tryz.mixed (fun _=>rfl) (fun k=>(Sd b l k).mpr ?_) k
 unfold ZM
 simp
 refine ⟨fun h=>?_,fun h=>by simp [Bz h]⟩
 rw [rO h]
 have e1:IntKind.i64.wrap ((k:Int)+1)=((k+1:Nat):Int):=by rw [wrap_i64 (by omega) (by omega)];omega
 rw [e1]
 rcases Nat.eq_zero_or_pos k with rfl | hk
 · simp [Bb]
   generalize l[0]?.getD default=x
   cases dD x.name<;>simp
   all_goals repeat' with_reducible apply And.intro
   all_goals first | omega | exact ⟨1,by omega,by simp,by grind⟩
 · have e2:IntKind.i64.wrap ((k:Int) - 1)=((k - 1:Nat):Int):=by rw [wrap_i64 (by omega) (by omega)];omega
   rw [e2]
   simp [Bb,lt,hk]
   generalize l[k]?.getD default=x
   generalize l[k - 1]?.getD default=y
   generalize Op.bytesLess y.name.data.toList x.name.data.toList=q
   cases dD x.name<;>cases q<;>simp<;>(try omega)
   all_goals repeat' with_reducible apply And.intro
   all_goals first | omega | (intro h0;exact absurd h0 (by omega)) | exact ⟨k+1,by omega,by simp,by grind⟩
theorem ag3 (b:Bool) (l:List Con) (hl:l.length<=9223372036854775806):(bM (dJ l)).Sat (au Tryz.prog 52 [dR b l] []):=by
 refine aR (ht:=crH b l) Tryz.mixed rfl ?_
 rw [X6 b l]
 unfold acY
 have:=Yh b l hl 0
 simp [this,dJ]
 grind
theorem Fu (s:ByteArray):lT [] s=false:=rfl
theorem uP (y:Con) (l:List Con) (s:ByteArray):lT (y::l) s=(Dh y.name s||lT l s):=rfl
theorem uI (y:Con) (l:List Con) (s:ByteArray):iK (y::l) s=if Dh y.name s then y.off else iK l s:=by
 unfold iK Cq
 rw [List.find?_cons]
 split<;>simp_all
theorem Vm (b:Bool) (s:ByteArray) (l:List Con) (hl:l.length<=9223372036854775806) (k:Nat):aQ Tryz.prog 117 2 (aS Tryz.prog 117 2) ⟨rxT b s l k,[],[]⟩ ((rxO l s k).map (bU [0] uh)):=by
 refine fO Tryz.mixed (fun _=>rfl) (fun k=>(QH b s l k).mpr ?_) k
 unfold Zu
 simp
 refine ⟨fun h=>?_,fun h=>by simp [jJ h,Fu]⟩
 simp (disch:=omega) only [wrap_i64]
 rw [drop_cons h]
 simp only [uP,List.findIdx_cons]
 generalize l[k]?.getD default=y
 by_cases h1:y.name.data=s.data
 · simp [Dh,h1,h]
 · simp [Dh,h1,h,cast_succ_eq]
   exact ⟨k+1,by omega,rfl,by grind⟩
theorem Lb:∀ (l:List Con) (s:ByteArray),lT l s=true->(l.findIdx fun x=>Dh x.name s)<l.length/\(l.getD (l.findIdx fun x=>Dh x.name s) default).off=iK l s
 | [],s,h=>by simp [Fu] at h
 | y::l,s,h=>by
   rw [uP] at h
   rw [uI,List.findIdx_cons]
   cases hy:Dh y.name s
   · rw [hy,Bool.false_or] at h
     have:=Lb l s h
     simpa using this
   · simp
theorem xE:∀ (l:List Con) (s:ByteArray),lT l s=false->iK l s=0
 | [],s,_=>rfl
 | y::l,s,h=>by
   rw [uP,Bool.or_eq_false_iff] at h
   rw [uI,h.1]
   simpa using xE l s h.2
theorem ab9 (b:Bool) (s:ByteArray) (l:List Con) (hl:l.length<=9223372036854775806):(rdR l s).Sat (au Tryz.prog 108 [dR b l,.y (.string s)] []):=by
 refine aR (ht:=rxH b s l) Tryz.mixed rfl ?_
 rw [OC b s l]
 unfold Pn
 have lp:=Vm b s l hl 0
 cases hi:lT l s
 · have:=xE l s hi
   simp [lp,hi,this]
 · have:=Lb l s hi
   simp [lp,hi,this.1] at this ⊢
   exact this
theorem XI (b:Bool) (s:ByteArray) (l:List Con) (hl:l.length<=9223372036854775806) (k:Nat):aQ Tryz.prog 72 2 (aS Tryz.prog 72 2) ⟨rrT b s l k,[],[]⟩ ((rrO l s k).map (bU [0] rrS)):=by
 refine fO Tryz.mixed (fun _=>rfl) (fun k=>(PE b s l k).mpr ?_) k
 unfold aaj
 simp
 refine ⟨fun h=>?_,fun h=>by simp [jJ h,Fu]⟩
 simp (disch:=omega) only [wrap_i64]
 rw [drop_cons h]
 simp only [uP,uI]
 generalize l[k]?.getD default=y
 by_cases h1:y.name.data=s.data
 · simp [Dh,h1,h]
 · simp [Dh,h1,h,cast_succ_eq]
   exact ⟨k+1,by omega,rfl,by grind⟩
theorem ahn (b:Bool) (s:ByteArray) (l:List Con) (hl:l.length<=9223372036854775806):(rdR l s).Sat (au Tryz.prog 72 [dR b l,.y (.string s)] []):=by
 refine aR (ht:=rrH b s l) Tryz.mixed rfl ?_
 rw [Ue b s l]
 unfold adQ
 have lp:=XI b s l hl 0
 cases hi:lT l s
 · have:=xE l s hi
   simp [lp,hi,this]
 · simp [lp,hi]
def Ls (o:Int):Prop:=0<=o/\o<18446744073709551616
noncomputable def coC (b:Bool) (l:List Con):dO Tryz.prog:=⟨46,[dR b l],[],.need (l.length<=9223372036854775806) (bM (dJ l)),T.Sat.need fun h=>abw b l h⟩
noncomputable def crC (b:Bool) (l:List Con):dO Tryz.prog:=⟨52,[dR b l],[],.need (l.length<=9223372036854775806) (bM (dJ l)),T.Sat.need fun h=>ag3 b l h⟩
noncomputable def rdC (b:Bool) (l:List Con) (s:ByteArray):dO Tryz.prog:=⟨108,[dR b l,.y (.string s)],[],.need (l.length<=9223372036854775806) (rdR l s),T.Sat.need fun h=>ab9 b s l h⟩
noncomputable def rrC (b:Bool) (l:List Con) (s:ByteArray):dO Tryz.prog:=⟨72,[dR b l,.y (.string s)],[],.need (l.length<=9223372036854775806) (rdR l s),T.Sat.need fun h=>ahn b s l h⟩
theorem BJ:∀ (a b c:List UInt8),Op.bytesLess a b=true->Op.bytesLess b c=true->Op.bytesLess a c=true
 | [],[],c,h,_=>by simp [Op.bytesLess] at h
 | [],_::_,[],_,h=>by simp [Op.bytesLess] at h
 | [],_::_,_::_,_,_=>rfl
 | _::_,[],_,h,_=>by simp [Op.bytesLess] at h
 | _::_,_::_,[],_,h=>by simp [Op.bytesLess] at h
 | a::l,b::m,c::n,h1,h2=>by
   simp only [Op.bytesLess,Bool.or_eq_true,Bool.and_eq_true,decide_eq_true_eq,beq_iff_eq] at h1 h2 ⊢
   rcases h1 with h1 | ⟨rfl,h1⟩
   · rcases h2 with h2 | ⟨rfl,h2⟩
     · exact Or.inl (UInt8.lt_trans h1 h2)
     · exact Or.inl h1
   · rcases h2 with h2 | ⟨rfl,h2⟩
     · exact Or.inl h2
     · exact Or.inr ⟨rfl,BJ l m n h1 h2⟩
theorem Dk {a b c:ByteArray} (h1:lt a b=true) (h2:lt b c=true):lt a c=true:=BJ _ _ _ h1 h2
def pQ (l:List Con):Prop:=∀ i j,i<j->j<l.length->lt (l.getD i default).name (l.getD j default).name=true
def iD (l:List Con) (s:ByteArray):Nat:=(l.takeWhile (fun y=>lt y.name s)).length
theorem Yz {l:List Con} {s:ByteArray} {i:Nat} (h:i<=l.length) (lo:∀ k,k<i->lt (l.getD k default).name s=true) (hi:∀ k,i<=k->k<l.length->lt (l.getD k default).name s=false):iD l s=i:=by
 unfold iD
 have e:l=l.take i++l.drop i:=(List.take_append_drop i l).symm
 have h1:∀ a∈l.take i,lt a.name s=true:=by
  intro a ha
  obtain ⟨k,hk,rfl⟩:=List.mem_iff_getElem.1 ha
  simp only [List.length_take] at hk
  have:=lo k (by omega)
  have hkl:k<l.length:=by omega
  simp [hkl] at this
  simpa using this
 have h2:(l.drop i).takeWhile (fun y=>lt y.name s)=[]:=by
  cases hd:l.drop i with
  | nil=>rfl
  | cons y r =>
    have hil:i<l.length:=by
     have:=congrArg List.length hd
     simp at this;omega
    have:=hi i (Nat.le_refl _) hil
    rw [List.drop_eq_getElem_cons hil] at hd
    cases hd
    simp [hil] at this
    rw [List.takeWhile_cons_of_neg]
    simpa using this
 rw [e,List.takeWhile_append_of_pos h1,h2,List.append_nil,List.length_take]
 omega
theorem Ld (l:List Con) (s:ByteArray):iD l s<=l.length:=(List.takeWhile_sublist _).length_le
theorem RJ {l:List Con} {s:ByteArray} (hr:pQ l) {m k:Nat} (hm:m<l.length) (hk:k<=m) (h:lt (l.getD m default).name s=true):lt (l.getD k default).name s=true:=by
 rcases Nat.lt_or_ge k m with h1 | h1
 · exact Dk (hr k m h1 hm) h
 · obtain rfl:k=m:=by omega
   exact h
theorem aaB {l:List Con} {s:ByteArray} (hr:pQ l) {m k:Nat} (hk:m<=k) (hl:k<l.length) (h:lt (l.getD m default).name s=false):lt (l.getD k default).name s=false:=by
 cases hc:lt (l.getD k default).name s
 · rfl
 · rw [RJ hr hl hk hc] at h;exact h
structure BS (l:List Con) (x:Con) where
 i:Nat
 j:Nat
 ij:i<=j
 jl:j<=l.length
 lo:∀ k,k<i->lt (l.getD k default).name x.name=true
 hi:∀ k,j<=k->k<l.length->lt (l.getD k default).name x.name=false
def BS.up {l:List Con} {x:Con} (hr:pQ l) (q:BS l x) (m:Nat) (h2:m<q.j) (hx:lt (l.getD m default).name x.name=true):BS l x where
 i:=m+1
 j:=q.j
 ij:=by omega
 jl:=q.jl
 lo:=fun k hk=>RJ hr (m:=m) (by have:=q.jl;omega) (by omega) hx
 hi:=q.hi
def BS.down {l:List Con} {x:Con} (hr:pQ l) (q:BS l x) (m:Nat) (h1:q.i<=m) (h2:m<q.j) (hx:lt (l.getD m default).name x.name=false):BS l x where
 i:=q.i
 j:=m
 ij:=h1
 jl:=by have:=q.jl;omega
 lo:=q.lo
 hi:=fun k hk hl=>aaB hr hk hl hx
def BS.start (l:List Con) (x:Con):BS l x:=⟨0,l.length,Nat.zero_le _,Nat.le_refl _,fun _ h=>absurd h (Nat.not_lt_zero _),fun k h1 h2=>absurd h2 (by omega)⟩
def OH:AV:=.fn (.func 160) [] []
def ny (a b:ByteArray):Int:=if lt a b then -1 else if lt b a then 1 else 0
def Ht (x:Con) (y:Con):Prop :=
 ((!x.name.data.toList==x.name.data.toList)=true->((!y.name.data.toList==y.name.data.toList)=true->0=ny x.name y.name/\True)/\((!y.name.data.toList==y.name.data.toList)=false->(-1:Int)=ny x.name y.name/\True))/\((!x.name.data.toList==x.name.data.toList)=false->((!y.name.data.toList==y.name.data.toList)=true->1=ny x.name y.name/\True)/\((!y.name.data.toList==y.name.data.toList)=false->(Op.bytesLess x.name.data.toList y.name.data.toList=true->(-1:Int)=ny x.name y.name/\True)/\(Op.bytesLess x.name.data.toList y.name.data.toList=false->((!(Op.bytesLess x.name.data.toList y.name.data.toList||x.name.data.toList==y.name.data.toList))=true->1=ny x.name y.name/\True)/\((!(Op.bytesLess x.name.data.toList y.name.data.toList||x.name.data.toList==y.name.data.toList))=false->0=ny x.name y.name/\True))))
theorem vG (x:Con) (y:Con):(aZ Tryz.prog (hT _) 160 [.agg (aJ x),.agg (aJ y)] [] (yP (ny x.name y.name)))=Ht x y:=by kernel_rfl
theorem Rh (x y:Con):(yP (ny x.name y.name)).Sat (au Tryz.prog 160 [.agg (aJ x),.agg (aJ y)] []):=by
 refine aR (ht:=hT _) Tryz.mixed rfl ?_
 rw [vG x y]
 unfold Ht ny lt
 have h1:=tZ x.name.data.toList y.name.data.toList
 have h2:=oN x.name.data.toList y.name.data.toList
 have h3:Op.bytesLess y.name.data.toList x.name.data.toList=true->¬ x.name.data=y.name.data:=fun h e=>by rw [e,mX] at h;simp at h
 generalize Op.bytesLess x.name.data.toList y.name.data.toList=p at *
 generalize Op.bytesLess y.name.data.toList x.name.data.toList=q at *
 cases p<;>cases q<;>simp at *<;>assumption
noncomputable def byC (x y:Con):dO Tryz.prog:=⟨160,[.agg (aJ x),.agg (aJ y)],[],yP (ny x.name y.name),Rh x y⟩
def VY (b:Bool) (l:List Con) (x:Con) (q:BS l x):List AV:=mkT 49 [(0,dR b l),(2,OH),(4,.ptr 0 0 0 0),(6,.s (.int .i64 0)),(7,.s (.bool false)),(8,.y (.int .i64 l.length)),(9,.y (.int .i64 q.i)),(10,.y (.int .i64 q.j))]
def Rf (x:Con):List aH:=[.box 83 (aJ x)]
def Wq (b:Bool) (l:List Con) (x:Con) (_:Unit):Exit×List AV×List aH:=(.exit 0,mkT 49 [(0,dR b l),(2,OH),(4,.ptr 0 0 0 0),(8,.y (.int .i64 l.length)),(9,.y (.int .i64 (iD l x.name)))],Rf x)
noncomputable def aeE (l:List Con) (x:Con) (q:BS l x):aC Tryz.prog:=hh _ bB (cs1 166 5 6 (byC (l.getD ((q.i+q.j) / 2) default) x) bA) bq
def I6 (b:Bool) (l:List Con) (x:Con) (q:BS l x):Prop :=
 (decide ((q.i:Int)<(q.j:Int))=true->(decide (0<=IntKind.i64.wrap (IntKind.u64.wrap (IntKind.i64.wrap ((q.i:Int)+(q.j:Int))) / 2))&&decide (IntKind.i64.wrap (IntKind.u64.wrap (IntKind.i64.wrap ((q.i:Int)+(q.j:Int))) / 2)<(l.length:Int)))=true/\(((l.getD (Int.toNat (IntKind.i64.wrap (IntKind.u64.wrap (IntKind.i64.wrap ((q.i:Int)+(q.j:Int))) / 2))) default).name=(l.getD ((q.i+q.j) / 2) default).name/\(l.getD (Int.toNat (IntKind.i64.wrap (IntKind.u64.wrap (IntKind.i64.wrap ((q.i:Int)+(q.j:Int))) / 2))) default).off=(l.getD ((q.i+q.j) / 2) default).off/\True)/\(x.name=x.name/\x.off=x.off/\True)/\True)/\True/\(decide (ny (l.getD ((q.i+q.j) / 2) default).name x.name<0)=true->∃ (j:BS l x),j.j - j.i<q.j - q.i/\(((b=b/\l.length=l.length/\ak l.length 2 (ah aJ l) (ah aJ l))/\(True/\True)/\(0=0/\0=0)/\(0:Int)=0/\false=false/\(l.length:Int)=(l.length:Int)/\IntKind.i64.wrap (IntKind.i64.wrap (IntKind.u64.wrap (IntKind.i64.wrap ((q.i:Int)+(q.j:Int))) / 2)+1)=(j.i:Int)/\(q.j:Int)=(j.j:Int)/\True)/\((x.name=x.name/\x.off=x.off/\True)/\True)/\true=true)/\true=true/\()=())/\(decide (ny (l.getD ((q.i+q.j) / 2) default).name x.name<0)=false->∃ (j:BS l x),j.j - j.i<q.j - q.i/\(((b=b/\l.length=l.length/\ak l.length 2 (ah aJ l) (ah aJ l))/\(True/\True)/\(0=0/\0=0)/\(0:Int)=0/\false=false/\(l.length:Int)=(l.length:Int)/\(q.i:Int)=(j.i:Int)/\IntKind.i64.wrap (IntKind.u64.wrap (IntKind.i64.wrap ((q.i:Int)+(q.j:Int))) / 2)=(j.j:Int)/\True)/\((x.name=x.name/\x.off=x.off/\True)/\True)/\true=true)/\true=true/\()=()))/\(decide ((q.i:Int)<(q.j:Int))=false->((b=b/\l.length=l.length/\ak l.length 2 (ah aJ l) (ah aJ l))/\(True/\True)/\(0=0/\0=0)/\(l.length:Int)=(l.length:Int)/\(q.i:Int)=((iD l x.name):Int)/\True)/\((x.name=x.name/\x.off=x.off/\True)/\True)/\true=true)
theorem zM (b:Bool) (l:List Con) (x:Con) (q:BS l x):(cu Tryz.prog (aeE l x q) 166 3 (fun q:BS l x=>q.j - q.i) (VY b l x) (fun _=>Rf x) [1,2,3,4] (fun _=>.ret ()) (Wq b l x) q)=I6 b l x q:=by kernel_rfl
noncomputable def bsH (b:Bool) (l:List Con) (x:Con):aC Tryz.prog:=hh _ (nu 166 3 (eP (VY b l x) (fun _=>Rf x) [1,2,3,4] (fun _=>.ret ()) (Wq b l x) (BS.start l x)) bB) (cs1 166 8 11 (byC (l.getD (iD l x.name) default) x) bA) bq
def yj (l:List Con) (x:Con):Bool:=decide (iD l x.name<l.length)&&(ny (l.getD (iD l x.name) default).name x.name==0)
def bsR (l:List Con) (x:Con):T An:=.ret (.tup [.y (.int .i64 (iD l x.name)),.y (.bool (yj l x))],[],[])
def S_ (b:Bool) (l:List Con) (x:Con):Prop :=
 (((b=b/\l.length=l.length/\ak l.length 2 (ah aJ l) (ah aJ l))/\(True/\True)/\(0=0/\0=0)/\(0:Int)=0/\false=false/\(l.length:Int)=(l.length:Int)/\(0:Int)=0/\(l.length:Int)=(l.length:Int)/\True)/\((x.name=x.name/\x.off=x.off/\True)/\True)/\true=true)/\aQ Tryz.prog 166 3 (aS Tryz.prog 166 3) { t:=VY b l x (BS.start l x),m:=Rf x,mv:=[]:St } (T.map (bU [1,2,3,4] (Wq b l x)) ((fun (x:BS l x)=>T.ret ()) (BS.start l x)))/\(decide (((iD l x.name):Int)<(l.length:Int))=true->(true&&decide (((iD l x.name):Int)<(l.length:Int)))=true/\(((l.getD (Int.toNat ((iD l x.name):Int)) default).name=(l.getD (iD l x.name) default).name/\(l.getD (Int.toNat ((iD l x.name):Int)) default).off=(l.getD (iD l x.name) default).off/\True)/\(x.name=x.name/\x.off=x.off/\True)/\True)/\True/\(((iD l x.name):Int)=((iD l x.name):Int)/\(ny (l.getD (iD l x.name) default).name x.name==0)=yj l x/\True)/\True)/\(decide (((iD l x.name):Int)<(l.length:Int))=false->(((iD l x.name):Int)=((iD l x.name):Int)/\false=yj l x/\True)/\True)
theorem DX (b:Bool) (l:List Con) (x:Con):(aZ Tryz.prog (bsH b l x) 166 [dR b l,.agg (aJ x),OH] [] (bsR l x))=S_ b l x:=by kernel_rfl
def ccR (l:List Con):T An:=.ret (.own 0 2 0 l.length,[SQ l],[])
noncomputable def ccH:aC Tryz.prog:=hh _ bB bA (op1 102 2 0 (.row 83 2) bq)
def ZX (l:List Con):Prop :=
 (0=0/\0=l.length)/\(0=l.length/\ak 0 2 (fun (x x_1:Nat)=>AV.junk) (ah aJ l))/\True
theorem P5 (l:List Con):(aZ Tryz.prog ccH 102 [.s (.slice none 0 0)] [] (ccR l))=ZX l:=by kernel_rfl
def ZV (b:Bool) (l:List Con):Prop :=
 (decide (0+l.length<=9223372036854775807)&&decide ((0+l.length)*24<=140737488355328))=true/\(0=0/\0+l.length=l.length)/\(0+l.length=l.length/\ak (0+l.length) 2 (aL 0 (fun (k j:Nat)=>AV.junk) (ah aJ l)) (ah aJ l))/\True
theorem Sr (b:Bool) (l:List Con):(aZ Tryz.prog ccH 102 [.yn b 2 l.length (ah aJ l)] [] (ccR l))=ZV b l:=by kernel_rfl
theorem ae9 (b:Bool) (l:List Con) (hl:l.length*24<=140737488355328):(ccR l).Sat (au Tryz.prog 102 [dR b l] []):=by
 refine xG (pre:=[]) (post:=[]) (fun h0=>?_) ?_ ⟨_,rfl⟩
 · refine aR (ht:=ccH) Tryz.mixed rfl ?_
   rw [List.nil_append,P5 l]
   unfold ZX
   simp [h0]
 · refine aR (ht:=ccH) Tryz.mixed rfl ?_
   rw [List.nil_append,Sr b l]
   unfold ZV
   simp
   omega
noncomputable def ccC (b:Bool) (l:List Con) (hl:l.length*24<=140737488355328):dO Tryz.prog:=⟨102,[dR b l],[],ccR l,ae9 b l hl⟩
theorem acj {a b:ByteArray} (h:lt a b=false):(decide (ny a b<0))=false:=by
 unfold ny;rw [h];simp;split<;>omega
theorem abI {a b:ByteArray} (h:lt a b=true):(decide (ny a b<0))=true:=by
 unfold ny;rw [h];rfl
theorem FH (b:Bool) (l:List Con) (x:Con) (hl:l.length<=4611686018427387900) (hr:pQ l) (q:BS l x):aQ Tryz.prog 166 3 (aS Tryz.prog 166 3) ⟨VY b l x q,Rf x,[]⟩ (T.map (bU [1,2,3,4] (Wq b l x)) (.ret ())):=by
 refine dU (ht:=aeE l x) (o:=fun _=>.ret ()) Tryz.mixed (fun _=>rfl) (fun q=>(zM b l x q).mpr ?_) q
 unfold I6
 have h1:=q.ij
 have h2:=q.jl
 obtain ⟨m,hm⟩:∃ m,m=(q.i+q.j) / 2:=⟨_,rfl⟩
 have hw:IntKind.i64.wrap (IntKind.u64.wrap (IntKind.i64.wrap (↑q.i+↑q.j)) / 2)=(m:Int):=by
  rw [wrap_i64 (n:=↑q.i+↑q.j) (by omega) (by omega),wrap_u64 (by omega) (by omega),wrap_i64 (by omega) (by omega)];omega
 rw [<- hm]
 simp [hw]
 refine ⟨fun h=>⟨by omega,fun hx=>?_,fun hx=>?_⟩,fun h=>?_⟩
 · have hc:lt (l.getD m default).name x.name=true:=by
    cases hc:lt (l.getD m default).name x.name
    · have:=of_decide_eq_false (acj hc);simp at this;omega
    · rfl
   refine ⟨q.up hr m (by omega) hc,?_,?_,rfl⟩
   · show q.j - (m+1)<q.j - q.i;omega
   · show IntKind.i64.wrap (m+1)=((m+1:Nat):Int)
     rw [wrap_i64 (by omega) (by omega)];omega
 · have hc:lt (l.getD m default).name x.name=false:=by
    cases hc:lt (l.getD m default).name x.name
    · rfl
    · have:=of_decide_eq_true (abI hc);simp at this;omega
   refine ⟨q.down hr m (by omega) (by omega) hc,?_,rfl,rfl⟩
   show m - q.i<q.j - q.i;omega
 · have:=Yz (i:=q.i) (by omega) q.lo fun k hk hl=>q.hi k (by omega) hl
   omega
theorem abD (b:Bool) (l:List Con) (x:Con) (hl:l.length<=4611686018427387900) (hr:pQ l):(bsR l x).Sat (au Tryz.prog 166 [dR b l,.agg (aJ x),OH] []):=by
 refine aR (ht:=bsH b l x) Tryz.mixed rfl ?_
 rw [DX b l x]
 unfold S_
 have:=FH b l x hl hr (BS.start l x)
 simp [yj,this]
 grind
noncomputable def bsC (b:Bool) (l:List Con) (x:Con) (hl:l.length<=4611686018427387900) (hr:pQ l):dO Tryz.prog:=⟨166,[dR b l,.agg (aJ x),OH],[],bsR l x,abD b l x hl hr⟩
def aN (l:List Con) (x:Con):List Con:=if yj l x then l.set (iD l x.name) x else l.take (iD l x.name)++x::l.drop (iD l x.name)
def rho:Go.Shelf.Ren:=⟨fun f=>match f with | 22=>167 | 29=>178 | 30=>179 | x=>x,fun t=>match t with | 24=>28 | 9=>83 | x=>x,fun x=>x⟩
theorem lay:qp Tryz.prog rho 2 24 ((Tryz.prog.info? 83).bind (·.zero) |>.getD undef) "slices.Insert[[]gazette/api.Consumer,gazette/api.Consumer]" where
 mixed:=by kernel_rfl
 f22:=by kernel_rfl
 ov:=fun w args=>by
  rw [show rho.f 29=178 from rfl,run_callFunc_extern (P:=Tryz.prog) (f:=178) (fn:=Tryz.f178) Tryz.func178 (by kernel_rfl) (by kernel_rfl) (by kernel_rfl) (e:=Extern.SlicesOverlaps.overlaps #[28,28] #[4]) (by kernel_rfl)]
  rfl
 t0:=by kernel_rfl
 a0:=fun w=>by kernel_rfl
 z0:=fun w=>by kernel_rfl
 v0:=fun w=>by kernel_rfl
 t3:=by kernel_rfl
 a3:=fun w=>by kernel_rfl
 z3:=fun w=>by kernel_rfl
 v3:=fun w=>by kernel_rfl
 t4:=by kernel_rfl
 a4:=fun w=>by kernel_rfl
 z4:=fun w=>by kernel_rfl
 v4:=fun w=>by kernel_rfl
 t24:=by kernel_rfl
 a24:=fun w=>by kernel_rfl
 z24:=fun w=>by kernel_rfl
 v24:=fun w=>by kernel_rfl
 z9:=fun w=>by kernel_rfl
 i9s:=by kernel_rfl
 i9:=by kernel_rfl
 pos:=by decide
 zc:=by kernel_rfl
noncomputable def RH (b:Bool) (l:List Con) (x:Con) (hl:l.length*24<=140737488355200) (hr:pQ l):aC Tryz.prog :=
 Mr (rW (hh _ bB (cs1 159 1 3 (bsC b l x (by omega) hr) (cs1 159 2 1 (ccC b l (by omega)) bA)) bq) [167]) lay
def NU (l:List Con):T An:=.ret (.own 0 2 0 l.length,[SQ l],[])
def Gl (b:Bool) (l:List Con) (x:Con) (hl:l.length*24<=140737488355200) (hr:pQ l):Prop :=
 ((b=b/\l.length=l.length/\ak l.length 2 (ah aJ l) (ah aJ l))/\(x.name=x.name/\x.off=x.off/\True)/\(True/\True)/\True)/\True/\((b=b/\l.length=l.length/\ak l.length 2 (ah aJ l) (ah aJ l))/\True)/\True/\(yj l x=true->(true&&decide (((iD l x.name):Int)<(l.length:Int)))=true/\decide (0+Int.toNat ((iD l x.name):Int)<l.length)=true/\(0=0/\l.length=(aN l x).length)/\(l.length=(aN l x).length/\ak l.length 2 (zS (ah aJ l) (0+Int.toNat ((iD l x.name):Int)) 0 [AV.y (.string x.name),AV.y (.int .u64 x.off)]) (ah aJ (aN l x)))/\True)/\(yj l x=false->(l.length=l.length/\0<=((iD l x.name):Int)/\((iD l x.name):Int)<=(l.length:Int)/\l.length+1<=9223372036854775807/\(l.length+1)*24<=140737488355328)/\(0=0/\l.length+1=(aN l x).length)/\(l.length+1=(aN l x).length/\ak (l.length+1) 2 (qc (Int.toNat ((iD l x.name):Int)) 1 (ah aJ l) fun (k j:Nat)=>Ax.get [AV.y (.string x.name),AV.y (.int .u64 x.off)] (k*2+j)) (ah aJ (aN l x)))/\True)
theorem AO (b:Bool) (l:List Con) (x:Con) (hl:l.length*24<=140737488355200) (hr:pQ l):(aZ Tryz.prog (RH b l x hl hr) 159 [dR b l,.agg (aJ x),OH] [] (NU (aN l x)))=Gl b l x hl hr:=by kernel_rfl
def pV (x:Con) (s:Bool×List Con) (y:Con):Bool×List Con :=
 let s1:=if (!lt y.name x.name&&!s.1)=true then (true,s.2++[x]) else s
 if y.name.data=x.name.data then s1 else (s1.1,s1.2++[y])
def bI (l:List Con) (x:Con) (k:Nat):Bool×List Con:=(l.take k).foldl (pV x) (false,[])
def mg (l:List Con) (x:Con):List Con:=if (bI l x l.length).1 then (bI l x l.length).2 else (bI l x l.length).2++[x]
def Xr (b:Bool) (l:List Con) (x:Con) (k:Nat):List AV:=mkT 52 [(0,dR b l),(3,.ptr 0 0 0 0),(5,.own 1 2 0 (bI l x k).2.length),(6,.y (.bool (bI l x k).1)),(7,.y (.int .i64 k))]
def zB (l:List Con) (x:Con) (k:Nat):List aH:=[.box 83 (aJ x),.row 83 2 (bI l x k).2.length none (ah aJ (bI l x k).2)]
def mI (l:List Con) (x:Con) (_:Unit):Exit×List AV×List aH:=(.exit 0,mkT 52 [(3,.ptr 0 0 0 0),(5,.own 1 2 0 (bI l x l.length).2.length),(6,.y (.bool (bI l x l.length).1))],zB l x l.length)
def gK (b:Bool) (l:List Con):Prop:=(b=b/\l.length=l.length/\ak l.length 2 (ah aJ l) (ah aJ l))
def F4 (b:Bool) (l:List Con) (x:Con) (k:Nat):Prop :=
 (decide ((k:Int)<(l.length:Int))=true->(true&&decide ((k:Int)<(l.length:Int)))=true/\((!Op.bytesLess (l.getD (Int.toNat (k:Int)) default).name.data.toList x.name.data.toList)=true->((!(bI l x k).fst)=true->(decide ((bI l x k).snd.length=(bI l x k).snd.length)&&decide ((bI l x k).snd.length+1<=9223372036854775807)&&decide (((bI l x k).snd.length+1)*24<=140737488355328))=true/\(true&&decide ((k:Int)<(l.length:Int)))=true/\((!(l.getD (Int.toNat (k:Int)) default).name.data.toList==x.name.data.toList)=true->(true&&decide ((k:Int)<(l.length:Int)))=true/\(decide ((bI l x k).snd.length+1=(bI l x k).snd.length+1)&&decide ((bI l x k).snd.length+1+1<=9223372036854775807)&&decide (((bI l x k).snd.length+1+1)*24<=140737488355328))=true/\∃ j:Nat,l.length - j<l.length - k/\(((gK b l)/\(0=0/\0=0)/\(0=0/\(bI l x k).snd.length+1+1=(bI l x j).snd.length)/\true=(bI l x j).fst/\IntKind.i64.wrap ((k:Int)+1)=(j:Int)/\True)/\((x.name=x.name/\x.off=x.off/\True)/\((bI l x k).snd.length+1+1=(bI l x j).snd.length/\ak ((bI l x k).snd.length+1+1) 2 (aL ((bI l x k).snd.length+1) (aL (bI l x k).snd.length (ah aJ (bI l x k).snd) fun (k j:Nat)=>Ax.get [AV.y (.string x.name),AV.y (.int .u64 x.off)] (k*2+j)) fun (k_1 j:Nat)=>Ax.get [AV.y (.string (l.getD (Int.toNat (k:Int)) default).name),AV.y (.int .u64 (l.getD (Int.toNat (k:Int)) default).off)] (k_1*2+j)) (ah aJ (bI l x j).snd))/\True)/\true=true)/\true=true/\()=())/\((!(l.getD (Int.toNat (k:Int)) default).name.data.toList==x.name.data.toList)=false->∃ j:Nat,l.length - j<l.length - k/\(((gK b l)/\(0=0/\0=0)/\(0=0/\(bI l x k).snd.length+1=(bI l x j).snd.length)/\true=(bI l x j).fst/\IntKind.i64.wrap ((k:Int)+1)=(j:Int)/\True)/\((x.name=x.name/\x.off=x.off/\True)/\((bI l x k).snd.length+1=(bI l x j).snd.length/\ak ((bI l x k).snd.length+1) 2 (aL (bI l x k).snd.length (ah aJ (bI l x k).snd) fun (k j:Nat)=>Ax.get [AV.y (.string x.name),AV.y (.int .u64 x.off)] (k*2+j)) (ah aJ (bI l x j).snd))/\True)/\true=true)/\true=true/\()=()))/\((!(bI l x k).fst)=false->(true&&decide ((k:Int)<(l.length:Int)))=true/\((!(l.getD (Int.toNat (k:Int)) default).name.data.toList==x.name.data.toList)=true->(true&&decide ((k:Int)<(l.length:Int)))=true/\(decide ((bI l x k).snd.length=(bI l x k).snd.length)&&decide ((bI l x k).snd.length+1<=9223372036854775807)&&decide (((bI l x k).snd.length+1)*24<=140737488355328))=true/\∃ j:Nat,l.length - j<l.length - k/\(((gK b l)/\(0=0/\0=0)/\(0=0/\(bI l x k).snd.length+1=(bI l x j).snd.length)/\(bI l x k).fst=(bI l x j).fst/\IntKind.i64.wrap ((k:Int)+1)=(j:Int)/\True)/\((x.name=x.name/\x.off=x.off/\True)/\((bI l x k).snd.length+1=(bI l x j).snd.length/\ak ((bI l x k).snd.length+1) 2 (aL (bI l x k).snd.length (ah aJ (bI l x k).snd) fun (k_1 j:Nat)=>Ax.get [AV.y (.string (l.getD (Int.toNat (k:Int)) default).name),AV.y (.int .u64 (l.getD (Int.toNat (k:Int)) default).off)] (k_1*2+j)) (ah aJ (bI l x j).snd))/\True)/\true=true)/\true=true/\()=())/\((!(l.getD (Int.toNat (k:Int)) default).name.data.toList==x.name.data.toList)=false->∃ j:Nat,l.length - j<l.length - k/\(((gK b l)/\(0=0/\0=0)/\(0=0/\(bI l x k).snd.length=(bI l x j).snd.length)/\(bI l x k).fst=(bI l x j).fst/\IntKind.i64.wrap ((k:Int)+1)=(j:Int)/\True)/\((x.name=x.name/\x.off=x.off/\True)/\((bI l x k).snd.length=(bI l x j).snd.length/\ak (bI l x k).snd.length 2 (ah aJ (bI l x k).snd) (ah aJ (bI l x j).snd))/\True)/\true=true)/\true=true/\()=())))/\((!Op.bytesLess (l.getD (Int.toNat (k:Int)) default).name.data.toList x.name.data.toList)=false->(true&&decide ((k:Int)<(l.length:Int)))=true/\((!(l.getD (Int.toNat (k:Int)) default).name.data.toList==x.name.data.toList)=true->(true&&decide ((k:Int)<(l.length:Int)))=true/\(decide ((bI l x k).snd.length=(bI l x k).snd.length)&&decide ((bI l x k).snd.length+1<=9223372036854775807)&&decide (((bI l x k).snd.length+1)*24<=140737488355328))=true/\∃ j:Nat,l.length - j<l.length - k/\(((gK b l)/\(0=0/\0=0)/\(0=0/\(bI l x k).snd.length+1=(bI l x j).snd.length)/\(bI l x k).fst=(bI l x j).fst/\IntKind.i64.wrap ((k:Int)+1)=(j:Int)/\True)/\((x.name=x.name/\x.off=x.off/\True)/\((bI l x k).snd.length+1=(bI l x j).snd.length/\ak ((bI l x k).snd.length+1) 2 (aL (bI l x k).snd.length (ah aJ (bI l x k).snd) fun (k_1 j:Nat)=>Ax.get [AV.y (.string (l.getD (Int.toNat (k:Int)) default).name),AV.y (.int .u64 (l.getD (Int.toNat (k:Int)) default).off)] (k_1*2+j)) (ah aJ (bI l x j).snd))/\True)/\true=true)/\true=true/\()=())/\((!(l.getD (Int.toNat (k:Int)) default).name.data.toList==x.name.data.toList)=false->∃ j:Nat,l.length - j<l.length - k/\(((gK b l)/\(0=0/\0=0)/\(0=0/\(bI l x k).snd.length=(bI l x j).snd.length)/\(bI l x k).fst=(bI l x j).fst/\IntKind.i64.wrap ((k:Int)+1)=(j:Int)/\True)/\((x.name=x.name/\x.off=x.off/\True)/\((bI l x k).snd.length=(bI l x j).snd.length/\ak (bI l x k).snd.length 2 (ah aJ (bI l x k).snd) (ah aJ (bI l x j).snd))/\True)/\true=true)/\true=true/\()=())))/\(decide ((k:Int)<(l.length:Int))=false->((0=0/\0=0)/\(0=0/\(bI l x k).snd.length=(bI l x l.length).snd.length)/\(bI l x k).fst=(bI l x l.length).fst/\True)/\((x.name=x.name/\x.off=x.off/\True)/\((bI l x k).snd.length=(bI l x l.length).snd.length/\ak (bI l x k).snd.length 2 (ah aJ (bI l x k).snd) (ah aJ (bI l x l.length).snd))/\True)/\true=true)
theorem BF (b:Bool) (l:List Con) (x:Con) (k:Nat):(cu Tryz.prog (hT _) 146 4 (fun k=>l.length - k) (Xr b l x) (zB l x) [1,2,3,4,5] (fun _=>.ret ()) (mI l x) k)=F4 b l x k:=by kernel_rfl
noncomputable def Y4 (b:Bool) (l:List Con) (x:Con):aC Tryz.prog :=
 hh _ (nu 146 4 (eP (Xr b l x) (zB l x) [1,2,3,4,5] (fun _=>.ret ()) (mI l x) 0) bB) bA (op1 146 1 0 (.row 83 2) bq)
def Gv (b:Bool) (l:List Con) (x:Con):Prop :=
 (((b=b/\l.length=l.length/\ak l.length 2 (ah aJ l) (ah aJ l))/\(0=0/\0=0)/\(0=0/\0=0)/\false=false/\(0:Int)=0/\True)/\((x.name=x.name/\x.off=x.off/\True)/\(0=0/\ak 0 2 (fun (x x_1:Nat)=>AV.junk) (ah aJ []))/\True)/\true=true)/\aQ Tryz.prog 146 4 (aS Tryz.prog 146 4) { t:=Xr b l x 0,m:=zB l x 0,mv:=[]:St } (T.map (bU [1,2,3,4,5] (mI l x)) ((fun (x:Nat)=>T.ret ()) 0))/\((!(bI l x l.length).fst)=true->(decide ((bI l x l.length).snd.length=(bI l x l.length).snd.length)&&decide ((bI l x l.length).snd.length+1<=9223372036854775807)&&decide (((bI l x l.length).snd.length+1)*24<=140737488355328))=true/\(0=0/\(bI l x l.length).snd.length+1=(mg l x).length)/\((bI l x l.length).snd.length+1=(mg l x).length/\ak ((bI l x l.length).snd.length+1) 2 (aL (bI l x l.length).snd.length (ah aJ (bI l x l.length).snd) fun (k j:Nat)=>Ax.get [AV.y (.string x.name),AV.y (.int .u64 x.off)] (k*2+j)) (ah aJ (mg l x)))/\True)/\((!(bI l x l.length).fst)=false->(0=0/\(bI l x l.length).snd.length=(mg l x).length)/\((bI l x l.length).snd.length=(mg l x).length/\ak (bI l x l.length).snd.length 2 (ah aJ (bI l x l.length).snd) (ah aJ (mg l x)))/\True)
theorem wB (b:Bool) (l:List Con) (x:Con):(aZ Tryz.prog (Y4 b l x) 146 [dR b l,.agg (aJ x)] [] (NU (mg l x)))=Gv b l x:=by kernel_rfl
theorem xw (x:Con):∀ j,j<2->qg (Ax.get [.y (.string x.name),.y (.int .u64 x.off)] j) (Ax.get (aJ x) j):=fun j hj=>by
 match j,hj with
 | 0,_=>simp [aJ]
 | 1,_=>simp [aJ]
theorem SS (b:Bool) (l:List Con) (x:Con) (hl:l.length*24<=140737488355200) (hr:pQ l):(NU (aN l x)).Sat (au Tryz.prog 159 [dR b l,.agg (aJ x),OH] []):=by
 refine aR (ht:=RH b l x hl hr) Tryz.mixed rfl ?_
 rw [AO b l x hl hr]
 unfold Gl
 have h2:=Ld l x.name
 cases hf:yj l x
 · have e:aN l x=l.take (iD l x.name)++x::l.drop (iD l x.name):=by unfold aN;rw [hf];rfl
   have hn:(aN l x).length=l.length+1:=by rw [e];simp;omega
   simp [hn]
   refine ⟨⟨h2,by omega,by omega⟩,?_⟩
   rw [e]
   exact P9 rfl h2 fun j hj=>by rw [Nat.zero_mul,Nat.zero_add];exact xw x j hj
 · have e:aN l x=l.set (iD l x.name) x:=by unfold aN;rw [hf];rfl
   have hn:(aN l x).length=l.length:=by rw [e];simp
   have h3:iD l x.name<l.length:=by
    unfold yj at hf
    rw [Bool.and_eq_true] at hf
    exact of_decide_eq_true hf.1
   simp [hn,h3]
   rw [e]
   exact RX rfl h3 rfl (xw x)
noncomputable def ahV (b:Bool) (l:List Con) (x:Con):dO Tryz.prog:=⟨159,[dR b l,.agg (aJ x),OH],[],.need (l.length*24<=140737488355200/\pQ l) (NU (aN l x)),T.Sat.need fun h=>SS b l x h.1 h.2⟩
theorem qx {l:List Con} {x:Con} {k:Nat} (h:k<l.length):bI l x (k+1)=pV x (bI l x k) (l[k]?.getD default):=by
 unfold bI
 have:l.take (k+1)=l.take k++[l[k]?.getD default]:=by
  rw [List.take_add_one,List.getElem?_eq_getElem h];rfl
 rw [this,List.foldl_append];rfl
theorem o7 {l:List Con} {x:Con} {k:Nat} (h:l.length<=k):bI l x k=bI l x l.length:=by
 unfold bI
 rw [List.take_of_length_le h,List.take_length]
theorem wN (l:List Con) (x:Con):∀ k,(bI l x k).2.length<=k+(if (bI l x k).1 then 1 else 0):=by
 intro k
 induction k with
 | zero=>simp [bI]
 | succ k ih =>
   rcases Nat.lt_or_ge k l.length with h | h
   · rw [qx h]
     rcases hs:bI l x k with ⟨d,o⟩
     rw [hs] at ih
     generalize l[k]?.getD default=y
     cases h1:lt y.name x.name<;>cases d<;>by_cases h2:y.name.data=x.name.data<;>simp [pV,h1,h2] at ih ⊢<;>omega
   · rw [o7 (k:=k+1) (by omega),<- o7 h]
     omega
theorem Ed (b:Bool) (l:List Con) (x:Con) (hl:l.length*24<=140737488355200) (k:Nat) (hk:k<=l.length):aQ Tryz.prog 146 4 (aS Tryz.prog 146 4) ⟨Xr b l x k,zB l x k,[]⟩ (T.map (bU [1,2,3,4,5] (mI l x)) (.ret ())):=by
 refine fO (o:=fun _=>.ret ()) Tryz.mixed (fun _=>rfl) (fun k=>(BF b l x k).mpr ?_) k
 unfold F4 gK
 have hlen:=wN l x k
 simp
 refine ⟨fun h=>?_,fun h=>?_⟩
 · have hst:=qx (x:=x) h
   have hw:=wrap_i64 (n:=(k:Int)+1) (by omega) (by omega)
   rw [hw]
   rcases hs:bI l x k with ⟨d,o⟩
   rw [hs] at hlen hst
   generalize l[k]?.getD default=y at *
   have hne:Op.bytesLess y.name.data.toList x.name.data.toList=true->¬ y.name.data=x.name.data:=fun e e2=>by rw [e2,mX] at e;exact absurd e (by simp)
   cases h1:Op.bytesLess y.name.data.toList x.name.data.toList<;>cases d<;>by_cases h2:y.name.data=x.name.data<;>simp [pV,lt,h1,h2,mX] at hst<;>simp [h,h2]<;>simp at hlen
   all_goals repeat' first | apply And.intro | refine Exists.intro (k+1) ?_ | with_reducible intro _
   all_goals try rw [hst]
   all_goals first
    | omega
    | (simp;done)
    | exact absurd h2 (hne h1)
    | exact aO _ _ _
    | exact rQ (aO _ _ _) rfl (xw _)
    | (show ak _ _ _ (ah aJ (o++[x,y]));rw [show o++[x,y]=o++[x]++[y] by simp];exact rQ (rQ (aO _ _ _) rfl (xw _)) (by simp) (xw _))
 · rw [o7 h];simp
theorem JG (b:Bool) (l:List Con) (x:Con) (hl:l.length*24<=140737488355200):(NU (mg l x)).Sat (au Tryz.prog 146 [dR b l,.agg (aJ x)] []):=by
 refine aR (ht:=Y4 b l x) Tryz.mixed rfl ?_
 rw [wB b l x]
 unfold Gv
 have hL:=Ed b l x hl 0 (Nat.zero_le _)
 have hlen:=wN l x l.length
 rcases hs:bI l x l.length with ⟨d,o⟩
 rw [hs] at hlen
 cases d<;>simp [mg,hs,hL] at hlen ⊢
 all_goals exact ⟨⟨by omega,by omega⟩,rQ (aO _ _ _) rfl (xw x)⟩
theorem Nw (y:Con) (t:List Con) (x:Con):aN (y::t) x=if lt y.name x.name then y::aN t x else if y.name.data=x.name.data then x::t else x::y::t:=by
 cases h:lt y.name x.name
 · have hb:iD (y::t) x.name=0:=by unfold iD;rw [List.takeWhile_cons_of_neg (by simp [h])];rfl
   by_cases h2:y.name.data=x.name.data
   · have hc:ny y.name x.name=0:=by
      unfold ny lt
      rw [h2,mX];rfl
     simp [aN,yj,hb,h2,hc]
   · have hc:¬ ny y.name x.name=0:=by
      unfold ny
      rw [h]
      cases h3:lt x.name y.name
      · exact absurd (Array.toList_inj.1 (oN _ _ h h3)) h2
      · simp
     simp [aN,yj,hb,h2,hc]
 · have hb:iD (y::t) x.name=iD t x.name+1:=by unfold iD;rw [List.takeWhile_cons_of_pos (by simp [h])];rfl
   have hf:yj (y::t) x=yj t x:=by
    unfold yj
    rw [hb];simp
   unfold aN
   rw [hf,hb]
   cases yj t x<;>simp
def iB (l:List Con) (x:Con):List Con:=l.filter fun y=>decide (¬ y.name.data=x.name.data)
theorem kZ (y:Con) (t:List Con) (x:Con):iB (y::t) x=if y.name.data=x.name.data then iB t x else y::iB t x:=by
 unfold iB
 by_cases h:y.name.data=x.name.data<;>simp [h]
theorem nY (x:Con):∀ (l o:List Con),l.foldl (pV x) (true,o)=(true,o++iB l x):=by
 intro l
 induction l with
 | nil=>intro o;simp [iB]
 | cons y t ih =>
   intro o
   by_cases h:y.name.data=x.name.data
   · simp [pV,h,ih,kZ]
   · simp [pV,h,ih,kZ]
theorem SX {x y:Con} {t:List Con} (h:lt y.name x.name=false) (ht:∀ z∈t,lt y.name z.name=true):iB t x=t:=by
 unfold iB
 rw [List.filter_eq_self]
 intro z hz
 have:=ht z hz
 simp only [decide_not,Bool.not_eq_true',decide_eq_false_iff_not]
 intro e
 have e2:lt y.name x.name=true:=by unfold lt at this ⊢;rw [<- e];exact this
 rw [h] at e2;exact absurd e2 (by simp)
theorem zT (x:Con):∀ (l o:List Con),l.Pairwise (fun a b=>lt a.name b.name=true)->(if (l.foldl (pV x) (false,o)).1 then (l.foldl (pV x) (false,o)).2 else (l.foldl (pV x) (false,o)).2++[x])=o++aN l x:=by
 intro l
 induction l with
 | nil=>intro o _;simp [aN,yj,iD]
 | cons y t ih =>
   intro o hp
   rw [List.pairwise_cons] at hp
   rw [Nw]
   cases h:lt y.name x.name
   · have h3:=SX h hp.1
     by_cases h2:y.name.data=x.name.data
     · simp [pV,h,h2,nY,h3]
     · simp [pV,h,h2,nY,h3]
   · have h2:¬ y.name.data=x.name.data:=fun e=>by unfold lt at h;rw [e,mX] at h;exact absurd h (by simp)
     have:=ih (o++[y]) hp.2
     simp only [List.foldl_cons,pV,h,h2,Bool.not_true,Bool.false_and,Bool.false_eq_true,if_false,if_true]
     rw [this];simp
theorem YI (r:List Con):pQ r↔r.Pairwise (fun a b=>lt a.name b.name=true):=by
 rw [List.pairwise_iff_getElem]
 constructor
 · intro h i j hi hj hij
   have:=h i j hij hj
   simpa [hi,hj] using this
 · intro h i j hij hj
   have:=h i j (by omega) hj hij
   simpa [show i<r.length by omega,hj] using this
theorem wQ {l:List Con} {x:Con} (h:pQ l):mg l x=aN l x:=by
 have:=zT x l [] ((YI l).1 h)
 simpa [mg,bI] using this
theorem YB (l:List Con) (x:Con):(aN l x).length<=l.length+1:=by
 have:=Ld l x.name
 unfold aN
 split<;>simp<;>omega
noncomputable def aeS (b:Bool) (l:List Con) (x:Con):dO Tryz.prog:=⟨146,[dR b l,.agg (aJ x)],[],.need (l.length*24<=140737488355200/\pQ l) (NU (aN l x)),T.Sat.need fun h=>by
 have:=JG b l x h.1
 rw [wQ h.2] at this
 exact this⟩
def aeF (to:List Int) (x:Con):Con:=⟨x.name,adT to x.off⟩
def Rx (l:List Con) (to:List Int) (k:Nat):List Con:=if to.length=0 then [] else (l.take k).map (aeF to)
def wfC (l:List Con):Prop:=∀ x∈l,Ls x.off
def Na (r:List Con) (e:Int):T An:=.ite (e==0) (.ret (.tup [.own 0 2 0 r.length,.s (.int .i64 0)],[SQ r],[])) (.ret (.tup [.s (.slice none 0 0),.y (.int .i64 e)],[],[]))
def eG (l:List Con) (x:Con) (e:Int):Int:=if !dJ l then 1 else if !dD x.name then 142 else if decide (e<x.off) then 141 else if !lT l x.name&&decide (l.length=64) then 143 else 0
noncomputable def cmH (b:Bool) (l:List Con) (x:Con):aC Tryz.prog:=hh _ bB (cs1 138 1 3 (rdC b l x.name) (cs1 138 2 1 (coC b l) (cs1 138 4 2 (Mh x.name) (cs1 138 10 2 (ahV b l x) bA)))) bq
def adr (b:Bool) (l:List Con) (x:Con) (e:Int):Prop :=
 ((b=b/\l.length=l.length/\ak l.length 2 (ah aJ l) (ah aJ l))/\x.name=x.name/\True)/\True/\l.length<=9223372036854775806/\((b=b/\l.length=l.length/\ak l.length 2 (ah aJ l) (ah aJ l))/\True)/\True/\l.length<=9223372036854775806/\((!dJ l)=true->((eG l x e==0)=true->(False/\(1:Int)=0/\True)/\False)/\((eG l x e==0)=false->(True/\1=eG l x e/\True)/\True))/\((!dJ l)=false->(x.name=x.name/\True)/\True/\((!dD x.name)=true->((eG l x e==0)=true->(False/\(142:Int)=0/\True)/\False)/\((eG l x e==0)=false->(True/\142=eG l x e/\True)/\True))/\((!dD x.name)=false->(decide (e<x.off)=true->((eG l x e==0)=true->(False/\(141:Int)=0/\True)/\False)/\((eG l x e==0)=false->(True/\141=eG l x e/\True)/\True))/\(decide (e<x.off)=false->((!lT l x.name)=true->(((l.length:Int)==64)=true->((eG l x e==0)=true->(False/\(143:Int)=0/\True)/\False)/\((eG l x e==0)=false->(True/\143=eG l x e/\True)/\True))/\(((l.length:Int)==64)=false->((b=b/\l.length=l.length/\ak l.length 2 (ah aJ l) (ah aJ l))/\(x.name=x.name/\x.off=x.off/\True)/\(True/\True)/\True)/\True/\(l.length*24<=140737488355200/\∀ (i j:Nat),i<j->j<l.length->lt (l.getD i default).name (l.getD j default).name=true)/\((eG l x e==0)=true->((0=0/\(aN l x).length=(aN l x).length)/\(0:Int)=0/\True)/\((aN l x).length=(aN l x).length/\ak (aN l x).length 2 (ah aJ (aN l x)) (ah aJ (aN l x)))/\True)/\((eG l x e==0)=false->False)))/\((!lT l x.name)=false->((b=b/\l.length=l.length/\ak l.length 2 (ah aJ l) (ah aJ l))/\(x.name=x.name/\x.off=x.off/\True)/\(True/\True)/\True)/\True/\(l.length*24<=140737488355200/\∀ (i j:Nat),i<j->j<l.length->lt (l.getD i default).name (l.getD j default).name=true)/\((eG l x e==0)=true->((0=0/\(aN l x).length=(aN l x).length)/\(0:Int)=0/\True)/\((aN l x).length=(aN l x).length/\ak (aN l x).length 2 (ah aJ (aN l x)) (ah aJ (aN l x)))/\True)/\((eG l x e==0)=false->False)))))
theorem VP (b:Bool) (l:List Con) (x:Con) (e:Int):(aZ Tryz.prog (cmH b l x) 138 [dR b l,.agg (aJ x),.y (.int .u64 e)] [] (Na (aN l x) (eG l x e)))=adr b l x e:=by kernel_rfl
noncomputable def ckH (b:Bool) (l:List Con) (x:Con):aC Tryz.prog:=hh _ bB (cs1 123 1 1 (crC b l) (cs1 123 2 2 (nmC x.name) (cs1 123 3 3 (rrC b l x.name) (cs1 123 12 2 (aeS b l x) bA)))) bq
def Qf (b:Bool) (l:List Con) (x:Con) (e:Int):Prop :=
 ((b=b/\l.length=l.length/\ak l.length 2 (ah aJ l) (ah aJ l))/\True)/\True/\l.length<=9223372036854775806/\(x.name=x.name/\True)/\True/\((b=b/\l.length=l.length/\ak l.length 2 (ah aJ l) (ah aJ l))/\x.name=x.name/\True)/\True/\l.length<=9223372036854775806/\((!dJ l)=true->((eG l x e==0)=true->(False/\(1:Int)=0/\True)/\False)/\((eG l x e==0)=false->(True/\1=eG l x e/\True)/\True))/\((!dJ l)=false->((!dD x.name)=true->((eG l x e==0)=true->(False/\(142:Int)=0/\True)/\False)/\((eG l x e==0)=false->(True/\142=eG l x e/\True)/\True))/\((!dD x.name)=false->(decide (e<x.off)=true->((eG l x e==0)=true->(False/\(141:Int)=0/\True)/\False)/\((eG l x e==0)=false->(True/\141=eG l x e/\True)/\True))/\(decide (e<x.off)=false->((!lT l x.name)=true->(decide (64<=(l.length:Int))=true->((eG l x e==0)=true->(False/\(143:Int)=0/\True)/\False)/\((eG l x e==0)=false->(True/\143=eG l x e/\True)/\True))/\(decide (64<=(l.length:Int))=false->((b=b/\l.length=l.length/\ak l.length 2 (ah aJ l) (ah aJ l))/\(x.name=x.name/\x.off=x.off/\True)/\True)/\True/\(l.length*24<=140737488355200/\∀ (i j:Nat),i<j->j<l.length->lt (l.getD i default).name (l.getD j default).name=true)/\((eG l x e==0)=true->((0=0/\(aN l x).length=(aN l x).length)/\(0:Int)=0/\True)/\((aN l x).length=(aN l x).length/\ak (aN l x).length 2 (ah aJ (aN l x)) (ah aJ (aN l x)))/\True)/\((eG l x e==0)=false->False)))/\((!lT l x.name)=false->((b=b/\l.length=l.length/\ak l.length 2 (ah aJ l) (ah aJ l))/\(x.name=x.name/\x.off=x.off/\True)/\True)/\True/\(l.length*24<=140737488355200/\∀ (i j:Nat),i<j->j<l.length->lt (l.getD i default).name (l.getD j default).name=true)/\((eG l x e==0)=true->((0=0/\(aN l x).length=(aN l x).length)/\(0:Int)=0/\True)/\((aN l x).length=(aN l x).length/\ak (aN l x).length 2 (ah aJ (aN l x)) (ah aJ (aN l x)))/\True)/\((eG l x e==0)=false->False)))))
theorem Ec (b:Bool) (l:List Con) (x:Con) (e:Int):(aZ Tryz.prog (ckH b l x) 123 [dR b l,.agg (aJ x),.y (.int .u64 e)] [] (Na (aN l x) (eG l x e)))=Qf b l x e:=by kernel_rfl
theorem OT {l:List Con}:∀ (n k:Nat),l.length - k=n->bW l k=true->∀ j,k<=j->j<l.length->Bb l j=true:=by
 intro n
 induction n with
 | zero=>intro k hk _ j h1 h2;omega
 | succ n ih =>
   intro k hk h j h1 h2
   rw [rO (by omega),Bool.and_eq_true] at h
   rcases Nat.lt_or_ge k j with h3 | h3
   · exact ih (k+1) (by omega) h.2 j (by omega) h2
   · obtain rfl:j=k:=by omega
     exact h.1
theorem Ip {l:List Con} (h:dJ l=true):l.length<=64:=by
 unfold dJ at h
 rw [Bool.and_eq_true] at h
 exact of_decide_eq_true h.2
theorem Ib {l:List Con} (h:dJ l=true):pQ l:=by
 unfold dJ at h
 rw [Bool.and_eq_true] at h
 have key:∀ j,0<j->j<l.length->lt (l.getD (j - 1) default).name (l.getD j default).name=true:=by
  intro j h1 h2
  have:=OT _ 0 rfl h.1 j (Nat.zero_le _) h2
  unfold Bb at this
  rw [Bool.and_eq_true,decide_eq_true h1] at this
  simpa using this.2
 have:∀ d i,i+d+1<l.length->lt (l.getD i default).name (l.getD (i+d+1) default).name=true:=by
  intro d
  induction d with
  | zero=>intro i hi;exact key (i+1) (by omega) hi
  | succ d ih=>intro i hi;exact Dk (ih i (by omega)) (key (i+(d+1)+1) (by omega) hi)
 intro i j hij hj
 obtain ⟨d,rfl⟩:∃ d,j=i+d+1:=⟨j - i - 1,by omega⟩
 exact this d i hj
theorem ahU (b:Bool) (l:List Con) (x:Con) (e:Int) (hl:l.length<=9223372036854775806):(Na (aN l x) (eG l x e)).Sat (au Tryz.prog 138 [dR b l,.agg (aJ x),.y (.int .u64 e)] []):=by
 refine aR (ht:=cmH b l x) Tryz.mixed rfl ?_
 rw [VP b l x e]
 unfold adr
 have ca:=@Ip l
 have cr:=@Ib l
 cases h1:dJ l
 · simp [eG,h1,hl]
 · have ca:=ca h1
   have cr:=cr h1
   unfold pQ at cr
   simp at cr
   cases h2:dD x.name
   · simp [eG,h1,h2,hl]
   · by_cases h3:e<x.off
     · simp [eG,h1,h2,h3,hl]
     · cases h4:lT l x.name
       · by_cases h5:l.length=64
         · simp [eG,h1,h2,h3,h4,h5,hl]
         · have h5':¬ ((l.length:Int)=64):=by omega
           simp [eG,h1,h2,h3,h4,h5,h5',hl]
           exact ⟨by omega,cr⟩
       · simp [eG,h1,h2,h3,h4,hl]
         exact ⟨by omega,cr⟩
theorem abH (b:Bool) (l:List Con) (x:Con) (e:Int) (hl:l.length<=9223372036854775806):(Na (aN l x) (eG l x e)).Sat (au Tryz.prog 123 [dR b l,.agg (aJ x),.y (.int .u64 e)] []):=by
 refine aR (ht:=ckH b l x) Tryz.mixed rfl ?_
 rw [Ec b l x e]
 unfold Qf
 have ca:=@Ip l
 have cr:=@Ib l
 cases h1:dJ l
 · simp [eG,h1,hl]
 · have ca:=ca h1
   have cr:=cr h1
   unfold pQ at cr
   simp at cr
   cases h2:dD x.name
   · simp [eG,h1,h2,hl]
   · by_cases h3:e<x.off
     · simp [eG,h1,h2,h3,hl]
     · cases h4:lT l x.name
       · by_cases h5:l.length=64
         · simp [eG,h1,h2,h3,h4,h5,hl]
         · have h5':¬ ((64:Int)<=l.length):=by omega
           simp [eG,h1,h2,h3,h4,h5,h5',hl]
           exact ⟨by omega,cr⟩
       · simp [eG,h1,h2,h3,h4,hl]
         exact ⟨by omega,cr⟩
noncomputable def cmC (b:Bool) (l:List Con) (x:Con) (e:Int):dO Tryz.prog:=⟨138,[dR b l,.agg (aJ x),.y (.int .u64 e)],[],.need (l.length<=9223372036854775806) (Na (aN l x) (eG l x e)),T.Sat.need fun h=>ahU b l x e h⟩
noncomputable def ckC (b:Bool) (l:List Con) (x:Con) (e:Int):dO Tryz.prog:=⟨123,[dR b l,.agg (aJ x),.y (.int .u64 e)],[],.need (l.length<=9223372036854775806) (Na (aN l x) (eG l x e)),T.Sat.need fun h=>abH b l x e h⟩
end
namespace P
structure Producer where
 id:Int
 seq:Int
 here:Bool
 offset:Int
instance:Inhabited Producer:=⟨⟨0,0,false,0⟩⟩
def ay (x:Producer):List AV:=[.y (.int .u64 x.id),.y (.int .u64 x.seq),.y (.bool x.here),.y (.int .u64 x.offset)]
def bG (b:Bool) (l:List Producer):AV:=.ys b 4 l.length (ah ay l)
theorem Tryz.mixed:Tryz.prog.follows .mixedOrders=true:=by kernel_rfl
def most:Int:=9223372036854775807
def Vl (l:List Producer) (k:Nat):Bool :=
 let x:=l.getD k default
 !(x.id==0||!(decide (1<=x.seq)&&decide (x.seq<=9223372036854775807))||!x.here&&x.offset != 0||decide (0<k)&&decide (x.id<=(l.getD (k - 1) default).id))
def aY (l:List Producer) (k:Nat):Bool:=(List.range' k (l.length - k)).all (Vl l)
def cK (l:List Producer):Bool:=aY l 0&&decide (l.length<=256)
theorem BI {l:List Producer} {k:Nat} (h:l.length<=k):aY l k=true:=by
 unfold aY
 rw [show l.length - k=0 by omega];rfl
theorem rG {l:List Producer} {k:Nat} (h:k<l.length):aY l k=(Vl l k&&aY l (k+1)):=by
 unfold aY
 rw [show l.length - k=(l.length - (k+1))+1 by omega,List.range'_succ];rfl
def XM (b:Bool) (l:List Producer) (k:Nat):List AV:=mkT 50 [(0,bG b l),(2,.s (.bool false)),(5,bG b l),(6,.y (.int .i64 l.length)),(7,.y (.int .i64 k))]
def Xt (b:Bool) (l:List Producer) (r:Bool):Exit×List AV×List aH:=match r with
 | true=>(.exit 0,mkT 50 [(0,bG b l),(2,.s (.bool false))],[])
 | false=>(.ret,mkT 50 [(2,.s (.bool false))],[])
def Gh (l:List Producer) (k:Nat):T Bool:=.ite (aY l k) (.ret true) (.ret false)
def jV (b:Bool) (l:List Producer):Prop:=(b=b/\l.length=l.length/\ak l.length 4 (ah ay l) (ah ay l))
def rA (b:Bool) (l:List Producer) (k:Nat):Prop:=(decide (0<(k:Int))=true->(decide (0<=IntKind.i64.wrap ((k:Int) - 1))&&decide (IntKind.i64.wrap ((k:Int) - 1)<(l.length:Int)))=true/\(decide ((l.getD (Int.toNat (k:Int)) default).id<=(l.getD (Int.toNat (IntKind.i64.wrap ((k:Int) - 1))) default).id)=true->(aY l k=true->False)/\(aY l k=false->(false=false/\True)/\True/\true=true))/\(decide ((l.getD (Int.toNat (k:Int)) default).id<=(l.getD (Int.toNat (IntKind.i64.wrap ((k:Int) - 1))) default).id)=false->∃ j:Nat,l.length - j<l.length - k/\(((jV b l)/\false=false/\(jV b l)/\(l.length:Int)=(l.length:Int)/\IntKind.i64.wrap ((k:Int)+1)=(j:Int)/\True)/\True/\true=true)/\true=true/\(aY l j=true->(aY l k=true->true=true)/\(aY l k=false->true=false))/\(aY l j=false->(aY l k=true->false=true)/\(aY l k=false->false=false))))
def qw (b:Bool) (l:List Producer) (k:Nat):Prop:=(decide (0<(k:Int))=false->∃ j:Nat,l.length - j<l.length - k/\(((jV b l)/\false=false/\(jV b l)/\(l.length:Int)=(l.length:Int)/\IntKind.i64.wrap ((k:Int)+1)=(j:Int)/\True)/\True/\true=true)/\true=true/\(aY l j=true->(aY l k=true->true=true)/\(aY l k=false->true=false))/\(aY l j=false->(aY l k=true->false=true)/\(aY l k=false->false=false)))
def IZ (b:Bool) (l:List Producer) (k:Nat):Prop :=
 (decide ((k:Int)<(l.length:Int))=true->(true&&decide ((k:Int)<(l.length:Int)))=true/\(((l.getD (Int.toNat (k:Int)) default).id==0)=true->(aY l k=true->False)/\(aY l k=false->(false=false/\True)/\True/\true=true))/\(((l.getD (Int.toNat (k:Int)) default).id==0)=false->(decide (1<=(l.getD (Int.toNat (k:Int)) default).seq)=true->((!decide ((l.getD (Int.toNat (k:Int)) default).seq<=9223372036854775807))=true->(aY l k=true->False)/\(aY l k=false->(false=false/\True)/\True/\true=true))/\((!decide ((l.getD (Int.toNat (k:Int)) default).seq<=9223372036854775807))=false->((!(l.getD (Int.toNat (k:Int)) default).here)=true->(((l.getD (Int.toNat (k:Int)) default).offset != 0)=true->(aY l k=true->False)/\(aY l k=false->(false=false/\True)/\True/\true=true))/\(((l.getD (Int.toNat (k:Int)) default).offset != 0)=false->(rA b l k)/\(qw b l k)))/\((!(l.getD (Int.toNat (k:Int)) default).here)=false->(rA b l k)/\(qw b l k))))/\(decide (1<=(l.getD (Int.toNat (k:Int)) default).seq)=false->(aY l k=true->False)/\(aY l k=false->(false=false/\True)/\True/\true=true))))/\(decide ((k:Int)<(l.length:Int))=false->(aY l k=true->((jV b l)/\false=false/\True)/\True/\true=true)/\(aY l k=false->False))
theorem GQ (b:Bool) (l:List Producer) (k:Nat):(cu Tryz.prog (hT _) 45 2 (fun k=>l.length - k) (XM b l) (fun _=>[]) [0] (Gh l) (Xt b l) k)=IZ b l k:=by kernel_rfl
theorem KV (b:Bool) (l:List Producer) (hl:l.length<=9223372036854775806) (k:Nat):aQ Tryz.prog 45 2 (aS Tryz.prog 45 2) ⟨XM b l k,[],[]⟩ ((Gh l k).map (bU [0] (Xt b l))):=by
 refine fO Tryz.mixed (fun _=>rfl) (fun k=>(GQ b l k).mpr ?_) k
 unfold IZ qw rA jV
 simp
 refine ⟨fun h=>?_,fun h=>by simp [BI h]⟩
 rw [rG h]
 simp (disch:=omega) only [wrap_i64]
 simp [Vl,cast_succ_eq]
 grind
noncomputable def agf (b:Bool) (l:List Producer):aC Tryz.prog:=hh _ (nu 45 2 (eP (XM b l) (fun _=>[]) [0] (Gh l) (Xt b l) 0) bB) bA bq
def Gu (l:List Producer):T An:=.ret (.y (.bool (cK l)),[],[])
def LG (b:Bool) (l:List Producer):Prop :=
 (((b=b/\l.length=l.length/\ak l.length 4 (ah ay l) (ah ay l))/\false=false/\(b=b/\l.length=l.length/\ak l.length 4 (ah ay l) (ah ay l))/\(l.length:Int)=(l.length:Int)/\(0:Int)=0/\True)/\True/\true=true)/\aQ Tryz.prog 45 2 (aS Tryz.prog 45 2) { t:=XM b l 0,m:=[],mv:=[]:St } (T.map (bU [0] (Xt b l)) (Gh l 0))/\(aY l 0=true->decide ((l.length:Int)<=256)=cK l/\True)/\(aY l 0=false->false=cK l/\True)
theorem Jw (b:Bool) (l:List Producer):(aZ Tryz.prog (agf b l) 45 [bG b l] [] (Gu l))=LG b l:=by kernel_rfl
theorem Lf (b:Bool) (l:List Producer) (hl:l.length<=9223372036854775806):(Gu l).Sat (au Tryz.prog 45 [bG b l] []):=by
 refine aR (ht:=(agf b l)) Tryz.mixed rfl ?_
 rw [Jw b l]
 unfold LG
 have:=KV b l hl 0
 simp [cK,this]
 grind
def Mi (b:Bool) (l:List Producer) (k:Nat):List AV:=mkT 69 [(0,bG b l),(2,.s (.bool false)),(3,.y (.int .i64 k))]
def LV (b:Bool) (l:List Producer) (r:Bool):Exit×List AV×List aH:=match r with
 | true=>(.exit 0,mkT 69 [(0,bG b l)],[])
 | false=>(.ret,mkT 69 [(2,.s (.bool false))],[])
def DF (b:Bool) (l:List Producer) (k:Nat):Prop :=
 (decide ((k:Int)<(l.length:Int))=true->(true&&decide ((k:Int)<(l.length:Int)))=true/\(((l.getD (Int.toNat (k:Int)) default).id==0)=true->(aY l k=true->False)/\(aY l k=false->(false=false/\True)/\True/\true=true))/\(((l.getD (Int.toNat (k:Int)) default).id==0)=false->(true&&decide ((k:Int)<(l.length:Int)))=true/\(decide ((l.getD (Int.toNat (k:Int)) default).seq<1)=true->(aY l k=true->False)/\(aY l k=false->(false=false/\True)/\True/\true=true))/\(decide ((l.getD (Int.toNat (k:Int)) default).seq<1)=false->(true&&decide ((k:Int)<(l.length:Int)))=true/\(decide (9223372036854775807<(l.getD (Int.toNat (k:Int)) default).seq)=true->(aY l k=true->False)/\(aY l k=false->(false=false/\True)/\True/\true=true))/\(decide (9223372036854775807<(l.getD (Int.toNat (k:Int)) default).seq)=false->(true&&decide ((k:Int)<(l.length:Int)))=true/\((!(l.getD (Int.toNat (k:Int)) default).here)=true->(true&&decide ((k:Int)<(l.length:Int)))=true/\(((l.getD (Int.toNat (k:Int)) default).offset != 0)=true->(aY l k=true->False)/\(aY l k=false->(false=false/\True)/\True/\true=true))/\(((l.getD (Int.toNat (k:Int)) default).offset != 0)=false->(decide (0<(k:Int))=true->(decide (0<=IntKind.i64.wrap ((k:Int) - 1))&&decide (IntKind.i64.wrap ((k:Int) - 1)<(l.length:Int)))=true/\(true&&decide ((k:Int)<(l.length:Int)))=true/\(decide ((l.getD (Int.toNat (k:Int)) default).id<=(l.getD (Int.toNat (IntKind.i64.wrap ((k:Int) - 1))) default).id)=true->(aY l k=true->False)/\(aY l k=false->(false=false/\True)/\True/\true=true))/\(decide ((l.getD (Int.toNat (k:Int)) default).id<=(l.getD (Int.toNat (IntKind.i64.wrap ((k:Int) - 1))) default).id)=false->∃ j:Nat,l.length - j<l.length - k/\(((b=b/\l.length=l.length/\ak l.length 4 (ah ay l) (ah ay l))/\false=false/\IntKind.i64.wrap ((k:Int)+1)=(j:Int)/\True)/\True/\true=true)/\true=true/\(aY l j=true->(aY l k=true->true=true)/\(aY l k=false->true=false))/\(aY l j=false->(aY l k=true->false=true)/\(aY l k=false->false=false))))/\(decide (0<(k:Int))=false->∃ j:Nat,l.length - j<l.length - k/\(((b=b/\l.length=l.length/\ak l.length 4 (ah ay l) (ah ay l))/\false=false/\IntKind.i64.wrap ((k:Int)+1)=(j:Int)/\True)/\True/\true=true)/\true=true/\(aY l j=true->(aY l k=true->true=true)/\(aY l k=false->true=false))/\(aY l j=false->(aY l k=true->false=true)/\(aY l k=false->false=false)))))/\((!(l.getD (Int.toNat (k:Int)) default).here)=false->(decide (0<(k:Int))=true->(decide (0<=IntKind.i64.wrap ((k:Int) - 1))&&decide (IntKind.i64.wrap ((k:Int) - 1)<(l.length:Int)))=true/\(true&&decide ((k:Int)<(l.length:Int)))=true/\(decide ((l.getD (Int.toNat (k:Int)) default).id<=(l.getD (Int.toNat (IntKind.i64.wrap ((k:Int) - 1))) default).id)=true->(aY l k=true->False)/\(aY l k=false->(false=false/\True)/\True/\true=true))/\(decide ((l.getD (Int.toNat (k:Int)) default).id<=(l.getD (Int.toNat (IntKind.i64.wrap ((k:Int) - 1))) default).id)=false->∃ j:Nat,l.length - j<l.length - k/\(((b=b/\l.length=l.length/\ak l.length 4 (ah ay l) (ah ay l))/\false=false/\IntKind.i64.wrap ((k:Int)+1)=(j:Int)/\True)/\True/\true=true)/\true=true/\(aY l j=true->(aY l k=true->true=true)/\(aY l k=false->true=false))/\(aY l j=false->(aY l k=true->false=true)/\(aY l k=false->false=false))))/\(decide (0<(k:Int))=false->∃ j:Nat,l.length - j<l.length - k/\(((b=b/\l.length=l.length/\ak l.length 4 (ah ay l) (ah ay l))/\false=false/\IntKind.i64.wrap ((k:Int)+1)=(j:Int)/\True)/\True/\true=true)/\true=true/\(aY l j=true->(aY l k=true->true=true)/\(aY l k=false->true=false))/\(aY l j=false->(aY l k=true->false=true)/\(aY l k=false->false=false))))))))/\(decide ((k:Int)<(l.length:Int))=false->(aY l k=true->((b=b/\l.length=l.length/\ak l.length 4 (ah ay l) (ah ay l))/\True)/\True/\true=true)/\(aY l k=false->False))
theorem D6 (b:Bool) (l:List Producer) (k:Nat):(cu Tryz.prog (hT _) 51 4 (fun k=>l.length - k) (Mi b l) (fun _=>[]) [0] (Gh l) (LV b l) k)=DF b l k:=by kernel_rfl
theorem Gx (b:Bool) (l:List Producer) (hl:l.length<=9223372036854775806) (k:Nat):aQ Tryz.prog 51 4 (aS Tryz.prog 51 4) ⟨Mi b l k,[],[]⟩ ((Gh l k).map (bU [0] (LV b l))):=by
 refine fO Tryz.mixed (fun _=>rfl) (fun k=>(D6 b l k).mpr ?_) k
 unfold DF
 simp
 refine ⟨fun h=>?_,fun h=>by simp [BI h]⟩
 rw [rG h]
 simp (disch:=omega) only [wrap_i64]
 simp [Vl,cast_succ_eq]
 grind
noncomputable def YJ (b:Bool) (l:List Producer):aC Tryz.prog:=hh _ (nu 51 4 (eP (Mi b l) (fun _=>[]) [0] (Gh l) (LV b l) 0) bB) bA bq
def I7 (b:Bool) (l:List Producer):Prop :=
 (decide (256<(l.length:Int))=true->false=cK l/\True)/\(decide (256<(l.length:Int))=false->(((b=b/\l.length=l.length/\ak l.length 4 (ah ay l) (ah ay l))/\false=false/\(0:Int)=0/\True)/\True/\true=true)/\aQ Tryz.prog 51 4 (aS Tryz.prog 51 4) { t:=Mi b l 0,m:=[],mv:=[]:St } (T.map (bU [0] (LV b l)) (Gh l 0))/\(aY l 0=true->true=cK l/\True)/\(aY l 0=false->false=cK l/\True))
theorem H8 (b:Bool) (l:List Producer):(aZ Tryz.prog (YJ b l) 51 [bG b l] [] (Gu l))=I7 b l:=by kernel_rfl
theorem Hz (b:Bool) (l:List Producer) (hl:l.length<=9223372036854775806):(Gu l).Sat (au Tryz.prog 51 [bG b l] []):=by
 refine aR (ht:=(YJ b l)) Tryz.mixed rfl ?_
 rw [H8 b l]
 unfold I7
 have:=Gx b l hl 0
 simp [cK,this]
 refine ⟨fun h _=>by omega,fun h=>⟨fun h2=>⟨h2,by omega⟩,fun h2 h3=>by simp [h2] at h3⟩⟩
noncomputable def agI (b:Bool) (l:List Producer) (hl:l.length<=9223372036854775806):dO Tryz.prog:=⟨45,[bG b l],[],Gu l,Lf b l hl⟩
noncomputable def ae7 (b:Bool) (l:List Producer) (hl:l.length<=9223372036854775806):dO Tryz.prog:=⟨51,[bG b l],[],Gu l,Hz b l hl⟩
end P
end Go.Proofs.YtnbhdjadlbhknaaGreatDoor
