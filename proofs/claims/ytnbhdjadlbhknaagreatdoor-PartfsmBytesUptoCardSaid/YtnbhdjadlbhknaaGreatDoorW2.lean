import Derived.Test.YtnbhdjadlbhknaaGreatDoorProg
import Derived.KernelRfl
import Derived.Test.YtnbhdjadlbhknaaGreatDoorE10
import Derived.Test.YtnbhdjadlbhknaaGreatDoorE11
import Derived.Test.YtnbhdjadlbhknaaGreatDoorW1
set_option linter.unusedVariables false
set_option linter.unusedSimpArgs false
namespace Go.Proofs.YtnbhdjadlbhknaaGreatDoor
open Go.Ax
set_option maxRecDepth 1000000
def Ab (l:List Con) (k:Nat):Bool:=dD (l.getD k default).name&&!(decide (0<k)&&!lt (l.getD (k - 1) default).name (l.getD k default).name)
def bW (l:List Con) (k:Nat):Bool:=(List.range' k (l.length - k)).all fun j=>Ab l j
theorem Ac {l:List Con} {k:Nat} (h:l.length<=k):bW l k=true:=by
 unfold bW
 rw [show l.length - k=0 by omega];rfl
theorem q8 {l:List Con} {k:Nat} (h:k<l.length):bW l k=(Ab l k&&bW l (k+1)):=by
 unfold bW
 rw [show l.length - k=(l.length - (k+1))+1 by omega,List.range'_succ];rfl
def dJ (l:List Con):Bool:=bW l 0&&decide (l.length<=64)
def coT (b:Bool) (l:List Con) (k:Nat):List AV:=mkT 35 [(0,dP b l),(2,.s (.bool false)),(5,dP b l),(6,.y (.int .i64 l.length)),(7,.y (.int .i64 k))]
def coS (b:Bool) (l:List Con) (r:Bool):Exit×List AV×List aH:=match r with
 | true=>(.exit 0,mkT 35 [(0,dP b l)],[])
 | false=>(.ret,mkT 35 [(2,.s (.bool false))],[])
def Zy (l:List Con) (k:Nat):T Bool:=.ite (bW l k) (.ret true) (.ret false)
noncomputable def adS (l:List Con) (k:Nat):aC Tryz.prog:=hh _ bB (cs1 46 4 2 (Ls (l.getD k default).name) bq) bA
def YO (b:Bool) (l:List Con) (k:Nat):Prop :=
 (decide ((k:Int)<(l.length:Int))=true->(true&&decide ((k:Int)<(l.length:Int)))=true/\((l.getD (Int.toNat (k:Int)) default).name=(l.getD k default).name/\True)/\True/\((!dD (l.getD k default).name)=true->(bW l k=true->False)/\(bW l k=false->(false=false/\True)/\True/\true=true))/\((!dD (l.getD k default).name)=false->(decide (0<(k:Int))=true->(decide (0<=IntKind.i64.wrap ((k:Int) - 1))&&decide (IntKind.i64.wrap ((k:Int) - 1)<(l.length:Int)))=true/\((!Op.bytesLess (l.getD (Int.toNat (IntKind.i64.wrap ((k:Int) - 1))) default).name.data.toList (l.getD (Int.toNat (k:Int)) default).name.data.toList)=true->(bW l k=true->False)/\(bW l k=false->(false=false/\True)/\True/\true=true))/\((!Op.bytesLess (l.getD (Int.toNat (IntKind.i64.wrap ((k:Int) - 1))) default).name.data.toList (l.getD (Int.toNat (k:Int)) default).name.data.toList)=false->∃ j:Nat,l.length - j<l.length - k/\(((b=b/\l.length=l.length/\ak l.length 2 (ah aJ l) (ah aJ l))/\false=false/\(b=b/\l.length=l.length/\ak l.length 2 (ah aJ l) (ah aJ l))/\(l.length:Int)=(l.length:Int)/\IntKind.i64.wrap ((k:Int)+1)=(j:Int)/\True)/\True/\true=true)/\true=true/\(bW l j=true->(bW l k=true->true=true)/\(bW l k=false->true=false))/\(bW l j=false->(bW l k=true->false=true)/\(bW l k=false->false=false))))/\(decide (0<(k:Int))=false->∃ j:Nat,l.length - j<l.length - k/\(((b=b/\l.length=l.length/\ak l.length 2 (ah aJ l) (ah aJ l))/\false=false/\(b=b/\l.length=l.length/\ak l.length 2 (ah aJ l) (ah aJ l))/\(l.length:Int)=(l.length:Int)/\IntKind.i64.wrap ((k:Int)+1)=(j:Int)/\True)/\True/\true=true)/\true=true/\(bW l j=true->(bW l k=true->true=true)/\(bW l k=false->true=false))/\(bW l j=false->(bW l k=true->false=true)/\(bW l k=false->false=false)))))/\(decide ((k:Int)<(l.length:Int))=false->(bW l k=true->((b=b/\l.length=l.length/\ak l.length 2 (ah aJ l) (ah aJ l))/\True)/\True/\true=true)/\(bW l k=false->False))
theorem QZ (b:Bool) (l:List Con) (k:Nat):(cu Tryz.prog (adS l k) 46 2 (fun k=>l.length - k) (coT b l) (fun _=>[]) [0] (Zy l) (coS b l) k)=YO b l k:=by kernel_rfl
noncomputable def coH (b:Bool) (l:List Con):aC Tryz.prog:=hh _ (ni 46 2 (eP (coT b l) (fun _=>[]) [0] (Zy l) (coS b l) 0) bB) bq bA
def Sg (b:Bool) (l:List Con):Prop :=
 (((b=b/\l.length=l.length/\ak l.length 2 (ah aJ l) (ah aJ l))/\false=false/\(b=b/\l.length=l.length/\ak l.length 2 (ah aJ l) (ah aJ l))/\(l.length:Int)=(l.length:Int)/\(0:Int)=0/\True)/\True/\true=true)/\aQ Tryz.prog 46 2 (aS Tryz.prog 46 2) { t:=coT b l 0,m:=[],mv:=[]:St } (T.map (bV [0] (coS b l)) (Zy l 0))/\(bW l 0=true->decide ((l.length:Int)<=64)=dJ l/\True)/\(bW l 0=false->false=dJ l/\True)
theorem EO (b:Bool) (l:List Con):(aZ Tryz.prog (coH b l) 46 [dP b l] [] (bM (dJ l)))=Sg b l:=by kernel_rfl
def crT (b:Bool) (l:List Con) (k:Nat):List AV:=mkT 40 [(0,dP b l),(2,.s (.bool false)),(3,.y (.int .i64 k))]
def crS (r:Bool):Exit×List AV×List aH:=match r with
 | true=>(.exit 0,mkT 40 [],[])
 | false=>(.ret,mkT 40 [(2,.s (.bool false))],[])
noncomputable def afA (l:List Con) (k:Nat):aC Tryz.prog:=hh _ bB (cs1 52 6 5 (nmC (l.getD k default).name) bq) bA
def aam (b:Bool) (l:List Con) (k:Nat):Prop :=
 (decide ((k:Int)<(l.length:Int))=true->(true&&decide ((k:Int)<(l.length:Int)))=true/\((l.getD (Int.toNat (k:Int)) default).name=(l.getD k default).name/\True)/\True/\((!dD (l.getD k default).name)=true->(bW l k=true->False)/\(bW l k=false->(false=false/\True)/\True/\true=true))/\((!dD (l.getD k default).name)=false->(decide (0<(k:Int))=true->(decide (0<=IntKind.i64.wrap ((k:Int) - 1))&&decide (IntKind.i64.wrap ((k:Int) - 1)<(l.length:Int)))=true/\(true&&decide ((k:Int)<(l.length:Int)))=true/\((!Op.bytesLess (l.getD (Int.toNat (IntKind.i64.wrap ((k:Int) - 1))) default).name.data.toList (l.getD (Int.toNat (k:Int)) default).name.data.toList)=true->(bW l k=true->False)/\(bW l k=false->(false=false/\True)/\True/\true=true))/\((!Op.bytesLess (l.getD (Int.toNat (IntKind.i64.wrap ((k:Int) - 1))) default).name.data.toList (l.getD (Int.toNat (k:Int)) default).name.data.toList)=false->∃ j:Nat,l.length - j<l.length - k/\(((b=b/\l.length=l.length/\ak l.length 2 (ah aJ l) (ah aJ l))/\false=false/\IntKind.i64.wrap ((k:Int)+1)=(j:Int)/\True)/\True/\true=true)/\true=true/\(bW l j=true->(bW l k=true->true=true)/\(bW l k=false->true=false))/\(bW l j=false->(bW l k=true->false=true)/\(bW l k=false->false=false))))/\(decide (0<(k:Int))=false->∃ j:Nat,l.length - j<l.length - k/\(((b=b/\l.length=l.length/\ak l.length 2 (ah aJ l) (ah aJ l))/\false=false/\IntKind.i64.wrap ((k:Int)+1)=(j:Int)/\True)/\True/\true=true)/\true=true/\(bW l j=true->(bW l k=true->true=true)/\(bW l k=false->true=false))/\(bW l j=false->(bW l k=true->false=true)/\(bW l k=false->false=false)))))/\(decide ((k:Int)<(l.length:Int))=false->(bW l k=true->True/\True/\true=true)/\(bW l k=false->False))
theorem Td (b:Bool) (l:List Con) (k:Nat):(cu Tryz.prog (afA l k) 52 4 (fun k=>l.length - k) (crT b l) (fun _=>[]) [0] (Zy l) crS k)=aam b l k:=by kernel_rfl
noncomputable def crH (b:Bool) (l:List Con):aC Tryz.prog:=hh _ (ni 52 4 (eP (crT b l) (fun _=>[]) [0] (Zy l) crS 0) bB) bq bA
def ae2 (b:Bool) (l:List Con):Prop :=
 (decide (64<(l.length:Int))=true->false=dJ l/\True)/\(decide (64<(l.length:Int))=false->(((b=b/\l.length=l.length/\ak l.length 2 (ah aJ l) (ah aJ l))/\false=false/\(0:Int)=0/\True)/\True/\true=true)/\aQ Tryz.prog 52 4 (aS Tryz.prog 52 4) { t:=crT b l 0,m:=[],mv:=[]:St } (T.map (bV [0] crS) (Zy l 0))/\(bW l 0=true->true=dJ l/\True)/\(bW l 0=false->false=dJ l/\True))
theorem VU (b:Bool) (l:List Con):(aZ Tryz.prog (crH b l) 52 [dP b l] [] (bM (dJ l)))=ae2 b l:=by kernel_rfl
def Cx (a b:ByteArray):Bool:=a.data.toList==b.data.toList
def Di (l:List Con) (s:ByteArray):Option Con:=l.find? fun x=>Cx x.name s
def fnR (s:ByteArray):AV:=.fn (.func 140) [] [.ip false 1 (get [.y (.string s)])]
def rxT (b:Bool) (s:ByteArray) (l:List Con) (k:Nat):List AV:=mkT 19 [(0,dP b l),(1,fnR s),(4,.s (.int .i64 0)),(7,.y (.int .i64 l.length)),(8,.y (.int .i64 k))]
def tL (r:Bool×Nat):Exit×List AV×List aH:=match r.1 with
 | true=>(.ret,mkT 19 [(4,.y (.int .i64 r.2))],[])
 | false=>(.exit 0,mkT 19 [],[])
def lQ (l:List Con) (s:ByteArray):Bool:=l.any fun x=>Cx x.name s
def rxO (l:List Con) (s:ByteArray) (k:Nat):T (Bool×Nat):=.ite (lQ (l.drop k) s) (.ret (true,k+(l.drop k).findIdx fun x=>Cx x.name s)) (.ret (false,0))
def Z6 (b:Bool) (s:ByteArray) (l:List Con) (k:Nat):Prop :=
 (decide ((↑k:Int)<(↑(List.length l):Int))=true->(true&&decide ((↑k:Int)<(↑(List.length l):Int)))=true/\(((List.getD l (Int.toNat (↑k:Int)) (@default Con instInhabitedCon)).name.data.toList==s.data.toList)=true->(lQ (List.drop k l) s=true->((↑k:Int)=(↑(k+List.findIdx (fun (x:Con)=>Cx x.name s) (List.drop k l)):Int)/\True)/\True/\true=true)/\(lQ (List.drop k l) s=false->False))/\(((List.getD l (Int.toNat (↑k:Int)) (@default Con instInhabitedCon)).name.data.toList==s.data.toList)=false->∃ (j:Nat),List.length l - j<List.length l - k/\(((b=b/\List.length l=List.length l/\ak (List.length l) (2:Nat) (ah aJ l) (ah aJ l))/\(True/\(false=false/\(1:Nat)<=(1:Nat)/\eT (1:Nat) (Ax.get [AV.y (Value.string s)]) (Ax.get [AV.y (Value.string s)]))/\True)/\(0:Int)=(0:Int)/\(↑(List.length l):Int)=(↑(List.length l):Int)/\IntKind.wrap IntKind.i64 ((↑k:Int)+(1:Int))=(↑j:Int)/\True)/\True/\true=true)/\true=true/\(lQ (List.drop j l) s=true->(lQ (List.drop k l) s=true->(true,j+List.findIdx (fun (x:Con)=>Cx x.name s) (List.drop j l))=(true,k+List.findIdx (fun (x:Con)=>Cx x.name s) (List.drop k l)))/\(lQ (List.drop k l) s=false->(true,j+List.findIdx (fun (x:Con)=>Cx x.name s) (List.drop j l))=(false,(0:Nat))))/\(lQ (List.drop j l) s=false->(lQ (List.drop k l) s=true->(false,(0:Nat))=(true,k+List.findIdx (fun (x:Con)=>Cx x.name s) (List.drop k l)))/\(lQ (List.drop k l) s=false->(false,(0:Nat))=(false,(0:Nat))))))/\(decide ((↑k:Int)<(↑(List.length l):Int))=false->(lQ (List.drop k l) s=true->False)/\(lQ (List.drop k l) s=false->True/\True/\true=true))
theorem Sd (b:Bool) (s:ByteArray) (l:List Con) (k:Nat):(cu Tryz.prog (hT _) 117 2 (fun k=>l.length - k) (rxT b s l) (fun _=>[]) [0] (rxO l s) tL k)=Z6 b s l k:=by kernel_rfl
noncomputable def rxH (b:Bool) (s:ByteArray) (l:List Con):aC Tryz.prog:=hh _ (ni 117 2 (eP (rxT b s l) (fun _=>[]) [0] (rxO l s) tL 0) bB) bq bA
def iJ (l:List Con) (s:ByteArray):Int:=((Di l s).getD default).off
def rdR (l:List Con) (s:ByteArray):T An:=.ret (.tup [.y (.int .u64 (iJ l s)),.y (.bool (lQ l s))],[],[])
def Pj (b:Bool) (s:ByteArray) (l:List Con):Prop :=
 (((b=b/\List.length l=List.length l/\ak (List.length l) (2:Nat) (ah aJ l) (ah aJ l))/\(True/\(false=false/\(1:Nat)<=(1:Nat)/\eT (1:Nat) (fun (j:Nat)=>Ax.get [AV.y (Value.string s)] ((0:Nat)+j)) (Ax.get [AV.y (Value.string s)]))/\True)/\(0:Int)=(0:Int)/\(↑(List.length l):Int)=(↑(List.length l):Int)/\(0:Int)=(0:Int)/\True)/\True/\true=true)/\aQ Tryz.prog (117:Nat) (2:Nat) (aS Tryz.prog (117:Nat) (2:Nat)) { t:=rxT b s l (0:Nat),m:=[],mv:=[]:St } (T.map (bV [(0:Nat)] tL) (rxO l s (0:Nat)))/\(lQ (List.drop (0:Nat) l) s=true->true=true/\True/\(false=true->((0:Int)=iJ l s/\false=lQ l s/\True)/\True)/\(false=false->(true&&decide ((↑((0:Nat)+List.findIdx (fun (x:Con)=>Cx x.name s) (List.drop (0:Nat) l)):Int)<(↑(List.length l):Int)))=true/\((List.getD l (Int.toNat (↑((0:Nat)+List.findIdx (fun (x:Con)=>Cx x.name s) (List.drop (0:Nat) l)):Int)) (@default Con instInhabitedCon)).off=iJ l s/\true=lQ l s/\True)/\True))/\(lQ (List.drop (0:Nat) l) s=false->true=true/\True/\((0:Int)=iJ l s/\false=lQ l s/\True)/\True)
theorem Ox (b:Bool) (s:ByteArray) (l:List Con):(aZ Tryz.prog (rxH b s l) 108 [dP b l,.y (.string s)] [] (rdR l s))=Pj b s l:=by kernel_rfl
def rrT (b:Bool) (s:ByteArray) (l:List Con) (k:Nat):List AV:=mkT 25 [(0,dP b l),(1,.y (.string s)),(6,.y (.int .i64 k))]
def rrS (r:Bool×Int):Exit×List AV×List aH:=match r.1 with
 | true=>(.ret,mkT 25 [(4,.y (.int .u64 r.2)),(5,.s (.bool true))],[])
 | false=>(.exit 0,mkT 25 [],[])
def rrO (l:List Con) (s:ByteArray) (k:Nat):T (Bool×Int):=.ite (lQ (l.drop k) s) (.ret (true,iJ (l.drop k) s)) (.ret (false,0))
def Z0 (b:Bool) (s:ByteArray) (l:List Con) (k:Nat):Prop :=
 (decide ((↑k:Int)<(↑(List.length l):Int))=true->(true&&decide ((↑k:Int)<(↑(List.length l):Int)))=true/\(((List.getD l (Int.toNat (↑k:Int)) (@default Con instInhabitedCon)).name.data.toList==s.data.toList)=true->(true&&decide ((↑k:Int)<(↑(List.length l):Int)))=true/\(lQ (List.drop k l) s=true->((List.getD l (Int.toNat (↑k:Int)) (@default Con instInhabitedCon)).off=iJ (List.drop k l) s/\true=true/\True)/\True/\true=true)/\(lQ (List.drop k l) s=false->False))/\(((List.getD l (Int.toNat (↑k:Int)) (@default Con instInhabitedCon)).name.data.toList==s.data.toList)=false->∃ (j:Nat),List.length l - j<List.length l - k/\(((b=b/\List.length l=List.length l/\ak (List.length l) (2:Nat) (ah aJ l) (ah aJ l))/\s=s/\IntKind.wrap IntKind.i64 ((↑k:Int)+(1:Int))=(↑j:Int)/\True)/\True/\true=true)/\true=true/\(lQ (List.drop j l) s=true->(lQ (List.drop k l) s=true->(true,iJ (List.drop j l) s)=(true,iJ (List.drop k l) s))/\(lQ (List.drop k l) s=false->(true,iJ (List.drop j l) s)=(false,(0:Int))))/\(lQ (List.drop j l) s=false->(lQ (List.drop k l) s=true->(false,(0:Int))=(true,iJ (List.drop k l) s))/\(lQ (List.drop k l) s=false->(false,(0:Int))=(false,(0:Int))))))/\(decide ((↑k:Int)<(↑(List.length l):Int))=false->(lQ (List.drop k l) s=true->False)/\(lQ (List.drop k l) s=false->True/\True/\true=true))
theorem OP (b:Bool) (s:ByteArray) (l:List Con) (k:Nat):(cu Tryz.prog (hT _) 72 2 (fun k=>l.length - k) (rrT b s l) (fun _=>[]) [0] (rrO l s) rrS k)=Z0 b s l k:=by kernel_rfl
noncomputable def rrH (b:Bool) (s:ByteArray) (l:List Con):aC Tryz.prog:=hh _ (ni 72 2 (eP (rrT b s l) (fun _=>[]) [0] (rrO l s) rrS 0) bB) bq bA
def ac7 (b:Bool) (s:ByteArray) (l:List Con):Prop :=
 (((b=b/\l.length=l.length/\ak l.length 2 (ah aJ l) (ah aJ l))/\s=s/\(0:Int)=0/\True)/\True/\true=true)/\aQ Tryz.prog 72 2 (aS Tryz.prog 72 2) { t:=rrT b s l 0,m:=[],mv:=[]:St } (T.map (bV [0] rrS) (rrO l s 0))/\(lQ (List.drop 0 l) s=true->(iJ (List.drop 0 l) s=iJ l s/\true=lQ l s/\True)/\True)/\(lQ (List.drop 0 l) s=false->(0=iJ l s/\false=lQ l s/\True)/\True)
theorem Wy (b:Bool) (s:ByteArray) (l:List Con):(aZ Tryz.prog (rrH b s l) 72 [dP b l,.y (.string s)] [] (rdR l s))=ac7 b s l:=by kernel_rfl
def afb (to:List Int) (o:Int):Int:=to.getD (min o (to.length - 1)).toNat 0
theorem Xm (b:Bool) (l:List Con) (hl:l.length<=9223372036854775806) (k:Nat):aQ Tryz.prog 46 2 (aS Tryz.prog 46 2) ⟨coT b l k,[],[]⟩ ((Zy l k).map (bV [0] (coS b l))):=by
 refine dV (ht:=adS l) Tryz.mixed (fun _=>rfl) (fun k=>(QZ b l k).mpr ?_) k
 unfold YO
 simp
 refine ⟨fun h=>?_,fun h=>by simp [Ac h]⟩
 rw [q8 h]
 have e1:IntKind.i64.wrap ((k:Int)+1)=((k+1:Nat):Int):=by rw [wrap_i64 (by omega) (by omega)];omega
 rw [e1]
 rcases Nat.eq_zero_or_pos k with rfl | hk
 · simp [Ab]
   generalize l[0]?.getD default=x
   cases dD x.name<;>simp
   all_goals repeat' with_reducible apply And.intro
   all_goals first | omega | exact ⟨1,by omega,by simp,by grind⟩
 · have e2:IntKind.i64.wrap ((k:Int) - 1)=((k - 1:Nat):Int):=by rw [wrap_i64 (by omega) (by omega)];omega
   rw [e2]
   simp [Ab,lt,hk]
   generalize l[k]?.getD default=x
   generalize l[k - 1]?.getD default=y
   generalize Op.bytesLess y.name.data.toList x.name.data.toList=q
   cases dD x.name<;>cases q<;>simp<;>(try omega)
   all_goals repeat' with_reducible apply And.intro
   all_goals first | omega | (intro h0;exact absurd h0 (by omega)) | exact ⟨k+1,by omega,by simp,by grind⟩
theorem acM (b:Bool) (l:List Con) (hl:l.length<=9223372036854775806):(bM (dJ l)).Sat (au Tryz.prog 46 [dP b l] []):=by
 refine aR (ht:=coH b l) Tryz.mixed rfl ?_
 rw [EO b l]
 unfold Sg
 have:=Xm b l hl 0
 simp [this,dJ]
 grind
theorem Yk (b:Bool) (l:List Con) (hl:l.length<=9223372036854775806) (k:Nat):aQ Tryz.prog 52 4 (aS Tryz.prog 52 4) ⟨crT b l k,[],[]⟩ ((Zy l k).map (bV [0] crS)):=by
 refine dV (ht:=afA l) Tryz.mixed (fun _=>rfl) (fun k=>(Td b l k).mpr ?_) k
 unfold aam
 simp
 refine ⟨fun h=>?_,fun h=>by simp [Ac h]⟩
 rw [q8 h]
 have e1:IntKind.i64.wrap ((k:Int)+1)=((k+1:Nat):Int):=by rw [wrap_i64 (by omega) (by omega)];omega
 rw [e1]
 rcases Nat.eq_zero_or_pos k with rfl | hk
 · simp [Ab]
   generalize l[0]?.getD default=x
   cases dD x.name<;>simp
   all_goals repeat' with_reducible apply And.intro
   all_goals first | omega | exact ⟨1,by omega,by simp,by grind⟩
 · have e2:IntKind.i64.wrap ((k:Int) - 1)=((k - 1:Nat):Int):=by rw [wrap_i64 (by omega) (by omega)];omega
   rw [e2]
   simp [Ab,lt,hk]
   generalize l[k]?.getD default=x
   generalize l[k - 1]?.getD default=y
   generalize Op.bytesLess y.name.data.toList x.name.data.toList=q
   cases dD x.name<;>cases q<;>simp<;>(try omega)
   all_goals repeat' with_reducible apply And.intro
   all_goals first | omega | (intro h0;exact absurd h0 (by omega)) | exact ⟨k+1,by omega,by simp,by grind⟩
theorem ahM (b:Bool) (l:List Con) (hl:l.length<=9223372036854775806):(bM (dJ l)).Sat (au Tryz.prog 52 [dP b l] []):=by
 refine aR (ht:=crH b l) Tryz.mixed rfl ?_
 rw [VU b l]
 unfold ae2
 have:=Yk b l hl 0
 simp [this,dJ]
 grind
theorem Ef (s:ByteArray):lQ [] s=false:=rfl
theorem vW (y:Con) (l:List Con) (s:ByteArray):lQ (y::l) s=(Cx y.name s||lQ l s):=rfl
theorem uG (y:Con) (l:List Con) (s:ByteArray):iJ (y::l) s=if Cx y.name s then y.off else iJ l s:=by
 unfold iJ Di
 rw [List.find?_cons]
 split<;>simp_all
theorem UY (b:Bool) (s:ByteArray) (l:List Con) (hl:l.length<=9223372036854775806) (k:Nat):aQ Tryz.prog 117 2 (aS Tryz.prog 117 2) ⟨rxT b s l k,[],[]⟩ ((rxO l s k).map (bV [0] tL)):=by
 refine fP Tryz.mixed (fun _=>rfl) (fun k=>(Sd b s l k).mpr ?_) k
 unfold Z6
 simp
 refine ⟨fun h=>?_,fun h=>by simp [jC h,Ef]⟩
 simp (disch:=omega) only [wrap_i64]
 rw [drop_cons h]
 simp only [vW,List.findIdx_cons]
 generalize l[k]?.getD default=y
 by_cases h1:y.name.data=s.data
 · simp [Cx,h1,h]
 · simp [Cx,h1,h,cast_succ_eq]
   exact ⟨k+1,by omega,rfl,by grind⟩
theorem Mt:∀ (l:List Con) (s:ByteArray),lQ l s=true->(l.findIdx fun x=>Cx x.name s)<l.length/\(l.getD (l.findIdx fun x=>Cx x.name s) default).off=iJ l s
 | [],s,h=>by simp [Ef] at h
 | y::l,s,h=>by
   rw [vW] at h
   rw [uG,List.findIdx_cons]
   cases hy:Cx y.name s
   · rw [hy,Bool.false_or] at h
     have:=Mt l s h
     simpa using this
   · simp
theorem xP:∀ (l:List Con) (s:ByteArray),lQ l s=false->iJ l s=0
 | [],s,_=>rfl
 | y::l,s,h=>by
   rw [vW,Bool.or_eq_false_iff] at h
   rw [uG,h.1]
   simpa using xP l s h.2
theorem abq (b:Bool) (s:ByteArray) (l:List Con) (hl:l.length<=9223372036854775806):(rdR l s).Sat (au Tryz.prog 108 [dP b l,.y (.string s)] []):=by
 refine aR (ht:=rxH b s l) Tryz.mixed rfl ?_
 rw [Ox b s l]
 unfold Pj
 have lp:=UY b s l hl 0
 cases hi:lQ l s
 · have:=xP l s hi
   simp [lp,hi,this]
 · have:=Mt l s hi
   simp [lp,hi,this.1] at this ⊢
   exact this
theorem Xk (b:Bool) (s:ByteArray) (l:List Con) (hl:l.length<=9223372036854775806) (k:Nat):aQ Tryz.prog 72 2 (aS Tryz.prog 72 2) ⟨rrT b s l k,[],[]⟩ ((rrO l s k).map (bV [0] rrS)):=by
 refine fP Tryz.mixed (fun _=>rfl) (fun k=>(OP b s l k).mpr ?_) k
 unfold Z0
 simp
 refine ⟨fun h=>?_,fun h=>by simp [jC h,Ef]⟩
 simp (disch:=omega) only [wrap_i64]
 rw [drop_cons h]
 simp only [vW,uG]
 generalize l[k]?.getD default=y
 by_cases h1:y.name.data=s.data
 · simp [Cx,h1,h]
 · simp [Cx,h1,h,cast_succ_eq]
   exact ⟨k+1,by omega,rfl,by grind⟩
theorem ahN (b:Bool) (s:ByteArray) (l:List Con) (hl:l.length<=9223372036854775806):(rdR l s).Sat (au Tryz.prog 72 [dP b l,.y (.string s)] []):=by
 refine aR (ht:=rrH b s l) Tryz.mixed rfl ?_
 rw [Wy b s l]
 unfold ac7
 have lp:=Xk b s l hl 0
 cases hi:lQ l s
 · have:=xP l s hi
   simp [lp,hi,this]
 · simp [lp,hi]
def K8 (o:Int):Prop:=0<=o/\o<18446744073709551616
noncomputable def coC (b:Bool) (l:List Con):dO Tryz.prog:=⟨46,[dP b l],[],.need (l.length<=9223372036854775806) (bM (dJ l)),T.Sat.need fun h=>acM b l h⟩
noncomputable def crC (b:Bool) (l:List Con):dO Tryz.prog:=⟨52,[dP b l],[],.need (l.length<=9223372036854775806) (bM (dJ l)),T.Sat.need fun h=>ahM b l h⟩
noncomputable def rdC (b:Bool) (l:List Con) (s:ByteArray):dO Tryz.prog:=⟨108,[dP b l,.y (.string s)],[],.need (l.length<=9223372036854775806) (rdR l s),T.Sat.need fun h=>abq b s l h⟩
noncomputable def rrC (b:Bool) (l:List Con) (s:ByteArray):dO Tryz.prog:=⟨72,[dP b l,.y (.string s)],[],.need (l.length<=9223372036854775806) (rdR l s),T.Sat.need fun h=>ahN b s l h⟩
theorem BG:∀ (a b c:List UInt8),Op.bytesLess a b=true->Op.bytesLess b c=true->Op.bytesLess a c=true
 | [],[],c,h,_=>by simp [Op.bytesLess] at h
 | [],_::_,[],_,h=>by simp [Op.bytesLess] at h
 | [],_::_,_::_,_,_=>rfl
 | _::_,[],_,h,_=>by simp [Op.bytesLess] at h
 | _::_,_::_,[],_,h=>by simp [Op.bytesLess] at h
 | a::l,b::m,c::n,h1,h2=>by
   simp only [Op.bytesLess,Bool.or_eq_true,Bool.and_eq_true,decide_eq_true_eq,beq_iff_eq] at h1 h2 ⊢
   rcases h1 with h1 | ⟨rfl,h1⟩
   · rcases h2 with h2 | ⟨rfl,h2⟩
     · exact Or.inl (UInt8.lt_trans h1 h2)
     · exact Or.inl h1
   · rcases h2 with h2 | ⟨rfl,h2⟩
     · exact Or.inl h2
     · exact Or.inr ⟨rfl,BG l m n h1 h2⟩
theorem CK {a b c:ByteArray} (h1:lt a b=true) (h2:lt b c=true):lt a c=true:=BG _ _ _ h1 h2
def pR (l:List Con):Prop:=∀ i j,i<j->j<l.length->lt (l.getD i default).name (l.getD j default).name=true
def iB (l:List Con) (s:ByteArray):Nat:=(l.takeWhile (fun y=>lt y.name s)).length
theorem UE {l:List Con} {s:ByteArray} {i:Nat} (h:i<=l.length) (lo:∀ k,k<i->lt (l.getD k default).name s=true) (hi:∀ k,i<=k->k<l.length->lt (l.getD k default).name s=false):iB l s=i:=by
 unfold iB
 have e:l=l.take i++l.drop i:=(List.take_append_drop i l).symm
 have h1:∀ a∈l.take i,lt a.name s=true:=by
  intro a ha
  obtain ⟨k,hk,rfl⟩:=List.mem_iff_getElem.1 ha
  simp only [List.length_take] at hk
  have:=lo k (by omega)
  have hkl:k<l.length:=by omega
  simp [hkl] at this
  simpa using this
 have h2:(l.drop i).takeWhile (fun y=>lt y.name s)=[]:=by
  cases hd:l.drop i with
  | nil=>rfl
  | cons y r =>
    have hil:i<l.length:=by
     have:=congrArg List.length hd
     simp at this;omega
    have:=hi i (Nat.le_refl _) hil
    rw [List.drop_eq_getElem_cons hil] at hd
    cases hd
    simp [hil] at this
    rw [List.takeWhile_cons_of_neg]
    simpa using this
 rw [e,List.takeWhile_append_of_pos h1,h2,List.append_nil,List.length_take]
 omega
theorem K6 (l:List Con) (s:ByteArray):iB l s<=l.length:=(List.takeWhile_sublist _).length_le
theorem O5 {l:List Con} {s:ByteArray} (hr:pR l) {m k:Nat} (hm:m<l.length) (hk:k<=m) (h:lt (l.getD m default).name s=true):lt (l.getD k default).name s=true:=by
 rcases Nat.lt_or_ge k m with h1 | h1
 · exact CK (hr k m h1 hm) h
 · obtain rfl:k=m:=by omega
   exact h
theorem aby {l:List Con} {s:ByteArray} (hr:pR l) {m k:Nat} (hk:m<=k) (hl:k<l.length) (h:lt (l.getD m default).name s=false):lt (l.getD k default).name s=false:=by
 cases hc:lt (l.getD k default).name s
 · rfl
 · rw [O5 hr hl hk hc] at h;exact h
structure BS (l:List Con) (x:Con) where
 i:Nat
 j:Nat
 ij:i<=j
 jl:j<=l.length
 lo:∀ k,k<i->lt (l.getD k default).name x.name=true
 hi:∀ k,j<=k->k<l.length->lt (l.getD k default).name x.name=false
def BS.up {l:List Con} {x:Con} (hr:pR l) (q:BS l x) (m:Nat) (h2:m<q.j) (hx:lt (l.getD m default).name x.name=true):BS l x where
 i:=m+1
 j:=q.j
 ij:=by omega
 jl:=q.jl
 lo:=fun k hk=>O5 hr (m:=m) (by have:=q.jl;omega) (by omega) hx
 hi:=q.hi
def BS.down {l:List Con} {x:Con} (hr:pR l) (q:BS l x) (m:Nat) (h1:q.i<=m) (h2:m<q.j) (hx:lt (l.getD m default).name x.name=false):BS l x where
 i:=q.i
 j:=m
 ij:=h1
 jl:=by have:=q.jl;omega
 lo:=q.lo
 hi:=fun k hk hl=>aby hr hk hl hx
def BS.start (l:List Con) (x:Con):BS l x:=⟨0,l.length,Nat.zero_le _,Nat.le_refl _,fun _ h=>absurd h (Nat.not_lt_zero _),fun k h1 h2=>absurd h2 (by omega)⟩
def OI:AV:=.fn (.func 160) [] []
def nu (a b:ByteArray):Int:=if lt a b then -1 else if lt b a then 1 else 0
def FV (x:Con) (y:Con):Prop :=
 ((!x.name.data.toList==x.name.data.toList)=true->((!y.name.data.toList==y.name.data.toList)=true->0=nu x.name y.name/\True)/\((!y.name.data.toList==y.name.data.toList)=false->(-1:Int)=nu x.name y.name/\True))/\((!x.name.data.toList==x.name.data.toList)=false->((!y.name.data.toList==y.name.data.toList)=true->1=nu x.name y.name/\True)/\((!y.name.data.toList==y.name.data.toList)=false->(Op.bytesLess x.name.data.toList y.name.data.toList=true->(-1:Int)=nu x.name y.name/\True)/\(Op.bytesLess x.name.data.toList y.name.data.toList=false->((!(Op.bytesLess x.name.data.toList y.name.data.toList||x.name.data.toList==y.name.data.toList))=true->1=nu x.name y.name/\True)/\((!(Op.bytesLess x.name.data.toList y.name.data.toList||x.name.data.toList==y.name.data.toList))=false->0=nu x.name y.name/\True))))
theorem vX (x:Con) (y:Con):(aZ Tryz.prog (hT _) 160 [.agg (aJ x),.agg (aJ y)] [] (yS (nu x.name y.name)))=FV x y:=by kernel_rfl
theorem O_ (x y:Con):(yS (nu x.name y.name)).Sat (au Tryz.prog 160 [.agg (aJ x),.agg (aJ y)] []):=by
 refine aR (ht:=hT _) Tryz.mixed rfl ?_
 rw [vX x y]
 unfold FV nu lt
 have h1:=tN x.name.data.toList y.name.data.toList
 have h2:=o7 x.name.data.toList y.name.data.toList
 have h3:Op.bytesLess y.name.data.toList x.name.data.toList=true->¬ x.name.data=y.name.data:=fun h e=>by rw [e,mY] at h;simp at h
 generalize Op.bytesLess x.name.data.toList y.name.data.toList=p at *
 generalize Op.bytesLess y.name.data.toList x.name.data.toList=q at *
 cases p<;>cases q<;>simp at *<;>assumption
noncomputable def byC (x y:Con):dO Tryz.prog:=⟨160,[.agg (aJ x),.agg (aJ y)],[],yS (nu x.name y.name),O_ x y⟩
def UM (b:Bool) (l:List Con) (x:Con) (q:BS l x):List AV:=mkT 49 [(0,dP b l),(2,OI),(4,.ptr 0 0 0 0),(6,.s (.int .i64 0)),(7,.s (.bool false)),(8,.y (.int .i64 l.length)),(9,.y (.int .i64 q.i)),(10,.y (.int .i64 q.j))]
def P7 (x:Con):List aH:=[.box 83 (aJ x)]
def Vx (b:Bool) (l:List Con) (x:Con) (_:Unit):Exit×List AV×List aH:=(.exit 0,mkT 49 [(0,dP b l),(2,OI),(4,.ptr 0 0 0 0),(8,.y (.int .i64 l.length)),(9,.y (.int .i64 (iB l x.name)))],P7 x)
noncomputable def agb (l:List Con) (x:Con) (q:BS l x):aC Tryz.prog:=hh _ bB (cs1 166 5 6 (byC (l.getD ((q.i+q.j) / 2) default) x) bq) bA
def IL (b:Bool) (l:List Con) (x:Con) (q:BS l x):Prop :=
 (decide ((q.i:Int)<(q.j:Int))=true->(decide (0<=IntKind.i64.wrap (IntKind.u64.wrap (IntKind.i64.wrap ((q.i:Int)+(q.j:Int))) / 2))&&decide (IntKind.i64.wrap (IntKind.u64.wrap (IntKind.i64.wrap ((q.i:Int)+(q.j:Int))) / 2)<(l.length:Int)))=true/\(((l.getD (Int.toNat (IntKind.i64.wrap (IntKind.u64.wrap (IntKind.i64.wrap ((q.i:Int)+(q.j:Int))) / 2))) default).name=(l.getD ((q.i+q.j) / 2) default).name/\(l.getD (Int.toNat (IntKind.i64.wrap (IntKind.u64.wrap (IntKind.i64.wrap ((q.i:Int)+(q.j:Int))) / 2))) default).off=(l.getD ((q.i+q.j) / 2) default).off/\True)/\(x.name=x.name/\x.off=x.off/\True)/\True)/\True/\(decide (nu (l.getD ((q.i+q.j) / 2) default).name x.name<0)=true->∃ (j:BS l x),j.j - j.i<q.j - q.i/\(((b=b/\l.length=l.length/\ak l.length 2 (ah aJ l) (ah aJ l))/\(True/\True)/\(0=0/\0=0)/\(0:Int)=0/\false=false/\(l.length:Int)=(l.length:Int)/\IntKind.i64.wrap (IntKind.i64.wrap (IntKind.u64.wrap (IntKind.i64.wrap ((q.i:Int)+(q.j:Int))) / 2)+1)=(j.i:Int)/\(q.j:Int)=(j.j:Int)/\True)/\((x.name=x.name/\x.off=x.off/\True)/\True)/\true=true)/\true=true/\()=())/\(decide (nu (l.getD ((q.i+q.j) / 2) default).name x.name<0)=false->∃ (j:BS l x),j.j - j.i<q.j - q.i/\(((b=b/\l.length=l.length/\ak l.length 2 (ah aJ l) (ah aJ l))/\(True/\True)/\(0=0/\0=0)/\(0:Int)=0/\false=false/\(l.length:Int)=(l.length:Int)/\(q.i:Int)=(j.i:Int)/\IntKind.i64.wrap (IntKind.u64.wrap (IntKind.i64.wrap ((q.i:Int)+(q.j:Int))) / 2)=(j.j:Int)/\True)/\((x.name=x.name/\x.off=x.off/\True)/\True)/\true=true)/\true=true/\()=()))/\(decide ((q.i:Int)<(q.j:Int))=false->((b=b/\l.length=l.length/\ak l.length 2 (ah aJ l) (ah aJ l))/\(True/\True)/\(0=0/\0=0)/\(l.length:Int)=(l.length:Int)/\(q.i:Int)=((iB l x.name):Int)/\True)/\((x.name=x.name/\x.off=x.off/\True)/\True)/\true=true)
theorem BD (b:Bool) (l:List Con) (x:Con) (q:BS l x):(cu Tryz.prog (agb l x q) 166 3 (fun q:BS l x=>q.j - q.i) (UM b l x) (fun _=>P7 x) [1,2,3,4] (fun _=>.ret ()) (Vx b l x) q)=IL b l x q:=by kernel_rfl
noncomputable def bsH (b:Bool) (l:List Con) (x:Con):aC Tryz.prog:=hh _ (ni 166 3 (eP (UM b l x) (fun _=>P7 x) [1,2,3,4] (fun _=>.ret ()) (Vx b l x) (BS.start l x)) bB) (cs1 166 8 11 (byC (l.getD (iB l x.name) default) x) bq) bA
def yg (l:List Con) (x:Con):Bool:=decide (iB l x.name<l.length)&&(nu (l.getD (iB l x.name) default).name x.name==0)
def bsR (l:List Con) (x:Con):T An:=.ret (.tup [.y (.int .i64 (iB l x.name)),.y (.bool (yg l x))],[],[])
def Sb (b:Bool) (l:List Con) (x:Con):Prop :=
 (((b=b/\l.length=l.length/\ak l.length 2 (ah aJ l) (ah aJ l))/\(True/\True)/\(0=0/\0=0)/\(0:Int)=0/\false=false/\(l.length:Int)=(l.length:Int)/\(0:Int)=0/\(l.length:Int)=(l.length:Int)/\True)/\((x.name=x.name/\x.off=x.off/\True)/\True)/\true=true)/\aQ Tryz.prog 166 3 (aS Tryz.prog 166 3) { t:=UM b l x (BS.start l x),m:=P7 x,mv:=[]:St } (T.map (bV [1,2,3,4] (Vx b l x)) ((fun (x:BS l x)=>T.ret ()) (BS.start l x)))/\(decide (((iB l x.name):Int)<(l.length:Int))=true->(true&&decide (((iB l x.name):Int)<(l.length:Int)))=true/\(((l.getD (Int.toNat ((iB l x.name):Int)) default).name=(l.getD (iB l x.name) default).name/\(l.getD (Int.toNat ((iB l x.name):Int)) default).off=(l.getD (iB l x.name) default).off/\True)/\(x.name=x.name/\x.off=x.off/\True)/\True)/\True/\(((iB l x.name):Int)=((iB l x.name):Int)/\(nu (l.getD (iB l x.name) default).name x.name==0)=yg l x/\True)/\True)/\(decide (((iB l x.name):Int)<(l.length:Int))=false->(((iB l x.name):Int)=((iB l x.name):Int)/\false=yg l x/\True)/\True)
theorem Fa (b:Bool) (l:List Con) (x:Con):(aZ Tryz.prog (bsH b l x) 166 [dP b l,.agg (aJ x),OI] [] (bsR l x))=Sb b l x:=by kernel_rfl
def ccR (l:List Con):T An:=.ret (.own 0 2 0 l.length,[PG l],[])
noncomputable def ccH:aC Tryz.prog:=hh _ bB bq (op1 102 2 0 (.row 83 2) bA)
def Ze (l:List Con):Prop :=
 (0=0/\0=l.length)/\(0=l.length/\ak 0 2 (fun (x x_1:Nat)=>AV.junk) (ah aJ l))/\True
theorem RJ (l:List Con):(aZ Tryz.prog ccH 102 [.s (.slice none 0 0)] [] (ccR l))=Ze l:=by kernel_rfl
def Zq (b:Bool) (l:List Con):Prop :=
 (decide (0+l.length<=9223372036854775807)&&decide ((0+l.length)*24<=140737488355328))=true/\(0=0/\0+l.length=l.length)/\(0+l.length=l.length/\ak (0+l.length) 2 (aL 0 (fun (k j:Nat)=>AV.junk) (ah aJ l)) (ah aJ l))/\True
theorem Qb (b:Bool) (l:List Con):(aZ Tryz.prog ccH 102 [.yn b 2 l.length (ah aJ l)] [] (ccR l))=Zq b l:=by kernel_rfl
theorem afd (b:Bool) (l:List Con) (hl:l.length*24<=140737488355328):(ccR l).Sat (au Tryz.prog 102 [dP b l] []):=by
 refine xL (pre:=[]) (post:=[]) (fun h0=>?_) ?_ ⟨_,rfl⟩
 · refine aR (ht:=ccH) Tryz.mixed rfl ?_
   rw [List.nil_append,RJ l]
   unfold Ze
   simp [h0]
 · refine aR (ht:=ccH) Tryz.mixed rfl ?_
   rw [List.nil_append,Qb b l]
   unfold Zq
   simp
   omega
noncomputable def ccC (b:Bool) (l:List Con) (hl:l.length*24<=140737488355328):dO Tryz.prog:=⟨102,[dP b l],[],ccR l,afd b l hl⟩
theorem abb {a b:ByteArray} (h:lt a b=false):(decide (nu a b<0))=false:=by
 unfold nu;rw [h];simp;split<;>omega
theorem acr {a b:ByteArray} (h:lt a b=true):(decide (nu a b<0))=true:=by
 unfold nu;rw [h];rfl
theorem DR (b:Bool) (l:List Con) (x:Con) (hl:l.length<=4611686018427387900) (hr:pR l) (q:BS l x):aQ Tryz.prog 166 3 (aS Tryz.prog 166 3) ⟨UM b l x q,P7 x,[]⟩ (T.map (bV [1,2,3,4] (Vx b l x)) (.ret ())):=by
 refine dV (ht:=agb l x) (o:=fun _=>.ret ()) Tryz.mixed (fun _=>rfl) (fun q=>(BD b l x q).mpr ?_) q
 unfold IL
 have h1:=q.ij
 have h2:=q.jl
 obtain ⟨m,hm⟩:∃ m,m=(q.i+q.j) / 2:=⟨_,rfl⟩
 have hw:IntKind.i64.wrap (IntKind.u64.wrap (IntKind.i64.wrap (↑q.i+↑q.j)) / 2)=(m:Int):=by
  rw [wrap_i64 (n:=↑q.i+↑q.j) (by omega) (by omega),wrap_u64 (by omega) (by omega),wrap_i64 (by omega) (by omega)];omega
 rw [<- hm]
 simp [hw]
 refine ⟨fun h=>⟨by omega,fun hx=>?_,fun hx=>?_⟩,fun h=>?_⟩
 · have hc:lt (l.getD m default).name x.name=true:=by
    cases hc:lt (l.getD m default).name x.name
    · have:=of_decide_eq_false (abb hc);simp at this;omega
    · rfl
   refine ⟨q.up hr m (by omega) hc,?_,?_,rfl⟩
   · show q.j - (m+1)<q.j - q.i;omega
   · show IntKind.i64.wrap (m+1)=((m+1:Nat):Int)
     rw [wrap_i64 (by omega) (by omega)];omega
 · have hc:lt (l.getD m default).name x.name=false:=by
    cases hc:lt (l.getD m default).name x.name
    · rfl
    · have:=of_decide_eq_true (acr hc);simp at this;omega
   refine ⟨q.down hr m (by omega) (by omega) hc,?_,rfl,rfl⟩
   show m - q.i<q.j - q.i;omega
 · have:=UE (i:=q.i) (by omega) q.lo fun k hk hl=>q.hi k (by omega) hl
   omega
theorem aaC (b:Bool) (l:List Con) (x:Con) (hl:l.length<=4611686018427387900) (hr:pR l):(bsR l x).Sat (au Tryz.prog 166 [dP b l,.agg (aJ x),OI] []):=by
 refine aR (ht:=bsH b l x) Tryz.mixed rfl ?_
 rw [Fa b l x]
 unfold Sb
 have:=DR b l x hl hr (BS.start l x)
 simp [yg,this]
 grind
noncomputable def bsC (b:Bool) (l:List Con) (x:Con) (hl:l.length<=4611686018427387900) (hr:pR l):dO Tryz.prog:=⟨166,[dP b l,.agg (aJ x),OI],[],bsR l x,aaC b l x hl hr⟩
def aN (l:List Con) (x:Con):List Con:=if yg l x then l.set (iB l x.name) x else l.take (iB l x.name)++x::l.drop (iB l x.name)
def rho:Go.Shelf.Ren:=⟨fun f=>match f with | 22=>167 | 29=>178 | 30=>179 | x=>x,fun t=>match t with | 24=>28 | 9=>83 | x=>x,fun x=>x⟩
theorem lay:qx Tryz.prog rho 2 24 ((Tryz.prog.info? 83).bind (·.zero) |>.getD undef) "slices.Insert[[]gazette/api.Consumer,gazette/api.Consumer]" where
 mixed:=by kernel_rfl
 f22:=by kernel_rfl
 ov:=fun w args=>by
  rw [show rho.f 29=178 from rfl,run_callFunc_extern (P:=Tryz.prog) (f:=178) (fn:=Tryz.f178) Tryz.func178 (by kernel_rfl) (by kernel_rfl) (by kernel_rfl) (e:=Extern.SlicesOverlaps.overlaps #[28,28] #[4]) (by kernel_rfl)]
  rfl
 t0:=by kernel_rfl
 a0:=fun w=>by kernel_rfl
 z0:=fun w=>by kernel_rfl
 v0:=fun w=>by kernel_rfl
 t3:=by kernel_rfl
 a3:=fun w=>by kernel_rfl
 z3:=fun w=>by kernel_rfl
 v3:=fun w=>by kernel_rfl
 t4:=by kernel_rfl
 a4:=fun w=>by kernel_rfl
 z4:=fun w=>by kernel_rfl
 v4:=fun w=>by kernel_rfl
 t24:=by kernel_rfl
 a24:=fun w=>by kernel_rfl
 z24:=fun w=>by kernel_rfl
 v24:=fun w=>by kernel_rfl
 z9:=fun w=>by kernel_rfl
 i9s:=by kernel_rfl
 i9:=by kernel_rfl
 pos:=by decide
 zc:=by kernel_rfl
noncomputable def SN (b:Bool) (l:List Con) (x:Con) (hl:l.length*24<=140737488355200) (hr:pR l):aC Tryz.prog :=
 Ml (su (hh _ bB (cs1 159 1 3 (bsC b l x (by omega) hr) (cs1 159 2 1 (ccC b l (by omega)) bq)) bA) [167]) lay
def Oy (l:List Con):T An:=.ret (.own 0 2 0 l.length,[PG l],[])
def HY (b:Bool) (l:List Con) (x:Con) (hl:l.length*24<=140737488355200) (hr:pR l):Prop :=
 ((b=b/\l.length=l.length/\ak l.length 2 (ah aJ l) (ah aJ l))/\(x.name=x.name/\x.off=x.off/\True)/\(True/\True)/\True)/\True/\((b=b/\l.length=l.length/\ak l.length 2 (ah aJ l) (ah aJ l))/\True)/\True/\(yg l x=true->(true&&decide (((iB l x.name):Int)<(l.length:Int)))=true/\decide (0+Int.toNat ((iB l x.name):Int)<l.length)=true/\(0=0/\l.length=(aN l x).length)/\(l.length=(aN l x).length/\ak l.length 2 (zH (ah aJ l) (0+Int.toNat ((iB l x.name):Int)) 0 [AV.y (.string x.name),AV.y (.int .u64 x.off)]) (ah aJ (aN l x)))/\True)/\(yg l x=false->(l.length=l.length/\0<=((iB l x.name):Int)/\((iB l x.name):Int)<=(l.length:Int)/\l.length+1<=9223372036854775807/\(l.length+1)*24<=140737488355328)/\(0=0/\l.length+1=(aN l x).length)/\(l.length+1=(aN l x).length/\ak (l.length+1) 2 (qQ (Int.toNat ((iB l x.name):Int)) 1 (ah aJ l) fun (k j:Nat)=>Ax.get [AV.y (.string x.name),AV.y (.int .u64 x.off)] (k*2+j)) (ah aJ (aN l x)))/\True)
theorem zN (b:Bool) (l:List Con) (x:Con) (hl:l.length*24<=140737488355200) (hr:pR l):(aZ Tryz.prog (SN b l x hl hr) 159 [dP b l,.agg (aJ x),OI] [] (Oy (aN l x)))=HY b l x hl hr:=by kernel_rfl
def pU (x:Con) (s:Bool×List Con) (y:Con):Bool×List Con :=
 let s1:=if (!lt y.name x.name&&!s.1)=true then (true,s.2++[x]) else s
 if y.name.data=x.name.data then s1 else (s1.1,s1.2++[y])
def bI (l:List Con) (x:Con) (k:Nat):Bool×List Con:=(l.take k).foldl (pU x) (false,[])
def l7 (l:List Con) (x:Con):List Con:=if (bI l x l.length).1 then (bI l x l.length).2 else (bI l x l.length).2++[x]
def VY (b:Bool) (l:List Con) (x:Con) (k:Nat):List AV:=mkT 52 [(0,dP b l),(3,.ptr 0 0 0 0),(5,.own 1 2 0 (bI l x k).2.length),(6,.y (.bool (bI l x k).1)),(7,.y (.int .i64 k))]
def y9 (l:List Con) (x:Con) (k:Nat):List aH:=[.box 83 (aJ x),.row 83 2 (bI l x k).2.length none (ah aJ (bI l x k).2)]
def mo (l:List Con) (x:Con) (_:Unit):Exit×List AV×List aH:=(.exit 0,mkT 52 [(3,.ptr 0 0 0 0),(5,.own 1 2 0 (bI l x l.length).2.length),(6,.y (.bool (bI l x l.length).1))],y9 l x l.length)
def gK (b:Bool) (l:List Con):Prop:=(b=b/\l.length=l.length/\ak l.length 2 (ah aJ l) (ah aJ l))
def I5 (b:Bool) (l:List Con) (x:Con) (k:Nat):Prop :=
 (decide ((k:Int)<(l.length:Int))=true->(true&&decide ((k:Int)<(l.length:Int)))=true/\((!Op.bytesLess (l.getD (Int.toNat (k:Int)) default).name.data.toList x.name.data.toList)=true->((!(bI l x k).fst)=true->(decide ((bI l x k).snd.length=(bI l x k).snd.length)&&decide ((bI l x k).snd.length+1<=9223372036854775807)&&decide (((bI l x k).snd.length+1)*24<=140737488355328))=true/\(true&&decide ((k:Int)<(l.length:Int)))=true/\((!(l.getD (Int.toNat (k:Int)) default).name.data.toList==x.name.data.toList)=true->(true&&decide ((k:Int)<(l.length:Int)))=true/\(decide ((bI l x k).snd.length+1=(bI l x k).snd.length+1)&&decide ((bI l x k).snd.length+1+1<=9223372036854775807)&&decide (((bI l x k).snd.length+1+1)*24<=140737488355328))=true/\∃ j:Nat,l.length - j<l.length - k/\(((gK b l)/\(0=0/\0=0)/\(0=0/\(bI l x k).snd.length+1+1=(bI l x j).snd.length)/\true=(bI l x j).fst/\IntKind.i64.wrap ((k:Int)+1)=(j:Int)/\True)/\((x.name=x.name/\x.off=x.off/\True)/\((bI l x k).snd.length+1+1=(bI l x j).snd.length/\ak ((bI l x k).snd.length+1+1) 2 (aL ((bI l x k).snd.length+1) (aL (bI l x k).snd.length (ah aJ (bI l x k).snd) fun (k j:Nat)=>Ax.get [AV.y (.string x.name),AV.y (.int .u64 x.off)] (k*2+j)) fun (k_1 j:Nat)=>Ax.get [AV.y (.string (l.getD (Int.toNat (k:Int)) default).name),AV.y (.int .u64 (l.getD (Int.toNat (k:Int)) default).off)] (k_1*2+j)) (ah aJ (bI l x j).snd))/\True)/\true=true)/\true=true/\()=())/\((!(l.getD (Int.toNat (k:Int)) default).name.data.toList==x.name.data.toList)=false->∃ j:Nat,l.length - j<l.length - k/\(((gK b l)/\(0=0/\0=0)/\(0=0/\(bI l x k).snd.length+1=(bI l x j).snd.length)/\true=(bI l x j).fst/\IntKind.i64.wrap ((k:Int)+1)=(j:Int)/\True)/\((x.name=x.name/\x.off=x.off/\True)/\((bI l x k).snd.length+1=(bI l x j).snd.length/\ak ((bI l x k).snd.length+1) 2 (aL (bI l x k).snd.length (ah aJ (bI l x k).snd) fun (k j:Nat)=>Ax.get [AV.y (.string x.name),AV.y (.int .u64 x.off)] (k*2+j)) (ah aJ (bI l x j).snd))/\True)/\true=true)/\true=true/\()=()))/\((!(bI l x k).fst)=false->(true&&decide ((k:Int)<(l.length:Int)))=true/\((!(l.getD (Int.toNat (k:Int)) default).name.data.toList==x.name.data.toList)=true->(true&&decide ((k:Int)<(l.length:Int)))=true/\(decide ((bI l x k).snd.length=(bI l x k).snd.length)&&decide ((bI l x k).snd.length+1<=9223372036854775807)&&decide (((bI l x k).snd.length+1)*24<=140737488355328))=true/\∃ j:Nat,l.length - j<l.length - k/\(((gK b l)/\(0=0/\0=0)/\(0=0/\(bI l x k).snd.length+1=(bI l x j).snd.length)/\(bI l x k).fst=(bI l x j).fst/\IntKind.i64.wrap ((k:Int)+1)=(j:Int)/\True)/\((x.name=x.name/\x.off=x.off/\True)/\((bI l x k).snd.length+1=(bI l x j).snd.length/\ak ((bI l x k).snd.length+1) 2 (aL (bI l x k).snd.length (ah aJ (bI l x k).snd) fun (k_1 j:Nat)=>Ax.get [AV.y (.string (l.getD (Int.toNat (k:Int)) default).name),AV.y (.int .u64 (l.getD (Int.toNat (k:Int)) default).off)] (k_1*2+j)) (ah aJ (bI l x j).snd))/\True)/\true=true)/\true=true/\()=())/\((!(l.getD (Int.toNat (k:Int)) default).name.data.toList==x.name.data.toList)=false->∃ j:Nat,l.length - j<l.length - k/\(((gK b l)/\(0=0/\0=0)/\(0=0/\(bI l x k).snd.length=(bI l x j).snd.length)/\(bI l x k).fst=(bI l x j).fst/\IntKind.i64.wrap ((k:Int)+1)=(j:Int)/\True)/\((x.name=x.name/\x.off=x.off/\True)/\((bI l x k).snd.length=(bI l x j).snd.length/\ak (bI l x k).snd.length 2 (ah aJ (bI l x k).snd) (ah aJ (bI l x j).snd))/\True)/\true=true)/\true=true/\()=())))/\((!Op.bytesLess (l.getD (Int.toNat (k:Int)) default).name.data.toList x.name.data.toList)=false->(true&&decide ((k:Int)<(l.length:Int)))=true/\((!(l.getD (Int.toNat (k:Int)) default).name.data.toList==x.name.data.toList)=true->(true&&decide ((k:Int)<(l.length:Int)))=true/\(decide ((bI l x k).snd.length=(bI l x k).snd.length)&&decide ((bI l x k).snd.length+1<=9223372036854775807)&&decide (((bI l x k).snd.length+1)*24<=140737488355328))=true/\∃ j:Nat,l.length - j<l.length - k/\(((gK b l)/\(0=0/\0=0)/\(0=0/\(bI l x k).snd.length+1=(bI l x j).snd.length)/\(bI l x k).fst=(bI l x j).fst/\IntKind.i64.wrap ((k:Int)+1)=(j:Int)/\True)/\((x.name=x.name/\x.off=x.off/\True)/\((bI l x k).snd.length+1=(bI l x j).snd.length/\ak ((bI l x k).snd.length+1) 2 (aL (bI l x k).snd.length (ah aJ (bI l x k).snd) fun (k_1 j:Nat)=>Ax.get [AV.y (.string (l.getD (Int.toNat (k:Int)) default).name),AV.y (.int .u64 (l.getD (Int.toNat (k:Int)) default).off)] (k_1*2+j)) (ah aJ (bI l x j).snd))/\True)/\true=true)/\true=true/\()=())/\((!(l.getD (Int.toNat (k:Int)) default).name.data.toList==x.name.data.toList)=false->∃ j:Nat,l.length - j<l.length - k/\(((gK b l)/\(0=0/\0=0)/\(0=0/\(bI l x k).snd.length=(bI l x j).snd.length)/\(bI l x k).fst=(bI l x j).fst/\IntKind.i64.wrap ((k:Int)+1)=(j:Int)/\True)/\((x.name=x.name/\x.off=x.off/\True)/\((bI l x k).snd.length=(bI l x j).snd.length/\ak (bI l x k).snd.length 2 (ah aJ (bI l x k).snd) (ah aJ (bI l x j).snd))/\True)/\true=true)/\true=true/\()=())))/\(decide ((k:Int)<(l.length:Int))=false->((0=0/\0=0)/\(0=0/\(bI l x k).snd.length=(bI l x l.length).snd.length)/\(bI l x k).fst=(bI l x l.length).fst/\True)/\((x.name=x.name/\x.off=x.off/\True)/\((bI l x k).snd.length=(bI l x l.length).snd.length/\ak (bI l x k).snd.length 2 (ah aJ (bI l x k).snd) (ah aJ (bI l x l.length).snd))/\True)/\true=true)
theorem Bj (b:Bool) (l:List Con) (x:Con) (k:Nat):(cu Tryz.prog (hT _) 146 4 (fun k=>l.length - k) (VY b l x) (y9 l x) [1,2,3,4,5] (fun _=>.ret ()) (mo l x) k)=I5 b l x k:=by kernel_rfl
noncomputable def YZ (b:Bool) (l:List Con) (x:Con):aC Tryz.prog :=
 hh _ (ni 146 4 (eP (VY b l x) (y9 l x) [1,2,3,4,5] (fun _=>.ret ()) (mo l x) 0) bB) bq (op1 146 1 0 (.row 83 2) bA)
def Ip (b:Bool) (l:List Con) (x:Con):Prop :=
 (((b=b/\l.length=l.length/\ak l.length 2 (ah aJ l) (ah aJ l))/\(0=0/\0=0)/\(0=0/\0=0)/\false=false/\(0:Int)=0/\True)/\((x.name=x.name/\x.off=x.off/\True)/\(0=0/\ak 0 2 (fun (x x_1:Nat)=>AV.junk) (ah aJ []))/\True)/\true=true)/\aQ Tryz.prog 146 4 (aS Tryz.prog 146 4) { t:=VY b l x 0,m:=y9 l x 0,mv:=[]:St } (T.map (bV [1,2,3,4,5] (mo l x)) ((fun (x:Nat)=>T.ret ()) 0))/\((!(bI l x l.length).fst)=true->(decide ((bI l x l.length).snd.length=(bI l x l.length).snd.length)&&decide ((bI l x l.length).snd.length+1<=9223372036854775807)&&decide (((bI l x l.length).snd.length+1)*24<=140737488355328))=true/\(0=0/\(bI l x l.length).snd.length+1=(l7 l x).length)/\((bI l x l.length).snd.length+1=(l7 l x).length/\ak ((bI l x l.length).snd.length+1) 2 (aL (bI l x l.length).snd.length (ah aJ (bI l x l.length).snd) fun (k j:Nat)=>Ax.get [AV.y (.string x.name),AV.y (.int .u64 x.off)] (k*2+j)) (ah aJ (l7 l x)))/\True)/\((!(bI l x l.length).fst)=false->(0=0/\(bI l x l.length).snd.length=(l7 l x).length)/\((bI l x l.length).snd.length=(l7 l x).length/\ak (bI l x l.length).snd.length 2 (ah aJ (bI l x l.length).snd) (ah aJ (l7 l x)))/\True)
theorem wm (b:Bool) (l:List Con) (x:Con):(aZ Tryz.prog (YZ b l x) 146 [dP b l,.agg (aJ x)] [] (Oy (l7 l x)))=Ip b l x:=by kernel_rfl
theorem wZ (x:Con):∀ j,j<2->rG (Ax.get [.y (.string x.name),.y (.int .u64 x.off)] j) (Ax.get (aJ x) j):=fun j hj=>by
 match j,hj with
 | 0,_=>simp [aJ]
 | 1,_=>simp [aJ]
theorem Qh (b:Bool) (l:List Con) (x:Con) (hl:l.length*24<=140737488355200) (hr:pR l):(Oy (aN l x)).Sat (au Tryz.prog 159 [dP b l,.agg (aJ x),OI] []):=by
 refine aR (ht:=SN b l x hl hr) Tryz.mixed rfl ?_
 rw [zN b l x hl hr]
 unfold HY
 have h2:=K6 l x.name
 cases hf:yg l x
 · have e:aN l x=l.take (iB l x.name)++x::l.drop (iB l x.name):=by unfold aN;rw [hf];rfl
   have hn:(aN l x).length=l.length+1:=by rw [e];simp;omega
   simp [hn]
   refine ⟨⟨h2,by omega,by omega⟩,?_⟩
   rw [e]
   exact Rx rfl h2 fun j hj=>by rw [Nat.zero_mul,Nat.zero_add];exact wZ x j hj
 · have e:aN l x=l.set (iB l x.name) x:=by unfold aN;rw [hf];rfl
   have hn:(aN l x).length=l.length:=by rw [e];simp
   have h3:iB l x.name<l.length:=by
    unfold yg at hf
    rw [Bool.and_eq_true] at hf
    exact of_decide_eq_true hf.1
   simp [hn,h3]
   rw [e]
   exact RI rfl h3 rfl (wZ x)
noncomputable def agZ (b:Bool) (l:List Con) (x:Con):dO Tryz.prog:=⟨159,[dP b l,.agg (aJ x),OI],[],.need (l.length*24<=140737488355200/\pR l) (Oy (aN l x)),T.Sat.need fun h=>Qh b l x h.1 h.2⟩
theorem qJ {l:List Con} {x:Con} {k:Nat} (h:k<l.length):bI l x (k+1)=pU x (bI l x k) (l[k]?.getD default):=by
 unfold bI
 have:l.take (k+1)=l.take k++[l[k]?.getD default]:=by
  rw [List.take_add_one,List.getElem?_eq_getElem h];rfl
 rw [this,List.foldl_append];rfl
theorem oZ {l:List Con} {x:Con} {k:Nat} (h:l.length<=k):bI l x k=bI l x l.length:=by
 unfold bI
 rw [List.take_of_length_le h,List.take_length]
theorem wI (l:List Con) (x:Con):∀ k,(bI l x k).2.length<=k+(if (bI l x k).1 then 1 else 0):=by
 intro k
 induction k with
 | zero=>simp [bI]
 | succ k ih =>
   rcases Nat.lt_or_ge k l.length with h | h
   · rw [qJ h]
     rcases hs:bI l x k with ⟨d,o⟩
     rw [hs] at ih
     generalize l[k]?.getD default=y
     cases h1:lt y.name x.name<;>cases d<;>by_cases h2:y.name.data=x.name.data<;>simp [pU,h1,h2] at ih ⊢<;>omega
   · rw [oZ (k:=k+1) (by omega),<- oZ h]
     omega
theorem DU (b:Bool) (l:List Con) (x:Con) (hl:l.length*24<=140737488355200) (k:Nat) (hk:k<=l.length):aQ Tryz.prog 146 4 (aS Tryz.prog 146 4) ⟨VY b l x k,y9 l x k,[]⟩ (T.map (bV [1,2,3,4,5] (mo l x)) (.ret ())):=by
 refine fP (o:=fun _=>.ret ()) Tryz.mixed (fun _=>rfl) (fun k=>(Bj b l x k).mpr ?_) k
 unfold I5 gK
 have hlen:=wI l x k
 simp
 refine ⟨fun h=>?_,fun h=>?_⟩
 · have hst:=qJ (x:=x) h
   have hw:=wrap_i64 (n:=(k:Int)+1) (by omega) (by omega)
   rw [hw]
   rcases hs:bI l x k with ⟨d,o⟩
   rw [hs] at hlen hst
   generalize l[k]?.getD default=y at *
   have hne:Op.bytesLess y.name.data.toList x.name.data.toList=true->¬ y.name.data=x.name.data:=fun e e2=>by rw [e2,mY] at e;exact absurd e (by simp)
   cases h1:Op.bytesLess y.name.data.toList x.name.data.toList<;>cases d<;>by_cases h2:y.name.data=x.name.data<;>simp [pU,lt,h1,h2,mY] at hst<;>simp [h,h2]<;>simp at hlen
   all_goals repeat' first | apply And.intro | refine Exists.intro (k+1) ?_ | with_reducible intro _
   all_goals try rw [hst]
   all_goals first
    | omega
    | (simp;done)
    | exact absurd h2 (hne h1)
    | exact aO _ _ _
    | exact pV (aO _ _ _) rfl (wZ _)
    | (show ak _ _ _ (ah aJ (o++[x,y]));rw [show o++[x,y]=o++[x]++[y] by simp];exact pV (pV (aO _ _ _) rfl (wZ _)) (by simp) (wZ _))
 · rw [oZ h];simp
theorem Js (b:Bool) (l:List Con) (x:Con) (hl:l.length*24<=140737488355200):(Oy (l7 l x)).Sat (au Tryz.prog 146 [dP b l,.agg (aJ x)] []):=by
 refine aR (ht:=YZ b l x) Tryz.mixed rfl ?_
 rw [wm b l x]
 unfold Ip
 have hL:=DU b l x hl 0 (Nat.zero_le _)
 have hlen:=wI l x l.length
 rcases hs:bI l x l.length with ⟨d,o⟩
 rw [hs] at hlen
 cases d<;>simp [l7,hs,hL] at hlen ⊢
 all_goals exact ⟨⟨by omega,by omega⟩,pV (aO _ _ _) rfl (wZ x)⟩
theorem Nt (y:Con) (t:List Con) (x:Con):aN (y::t) x=if lt y.name x.name then y::aN t x else if y.name.data=x.name.data then x::t else x::y::t:=by
 cases h:lt y.name x.name
 · have hb:iB (y::t) x.name=0:=by unfold iB;rw [List.takeWhile_cons_of_neg (by simp [h])];rfl
   by_cases h2:y.name.data=x.name.data
   · have hc:nu y.name x.name=0:=by
      unfold nu lt
      rw [h2,mY];rfl
     simp [aN,yg,hb,h2,hc]
   · have hc:¬ nu y.name x.name=0:=by
      unfold nu
      rw [h]
      cases h3:lt x.name y.name
      · exact absurd (Array.toList_inj.1 (o7 _ _ h h3)) h2
      · simp
     simp [aN,yg,hb,h2,hc]
 · have hb:iB (y::t) x.name=iB t x.name+1:=by unfold iB;rw [List.takeWhile_cons_of_pos (by simp [h])];rfl
   have hf:yg (y::t) x=yg t x:=by
    unfold yg
    rw [hb];simp
   unfold aN
   rw [hf,hb]
   cases yg t x<;>simp
def iA (l:List Con) (x:Con):List Con:=l.filter fun y=>decide (¬ y.name.data=x.name.data)
theorem lJ (y:Con) (t:List Con) (x:Con):iA (y::t) x=if y.name.data=x.name.data then iA t x else y::iA t x:=by
 unfold iA
 by_cases h:y.name.data=x.name.data<;>simp [h]
theorem nV (x:Con):∀ (l o:List Con),l.foldl (pU x) (true,o)=(true,o++iA l x):=by
 intro l
 induction l with
 | nil=>intro o;simp [iA]
 | cons y t ih =>
   intro o
   by_cases h:y.name.data=x.name.data
   · simp [pU,h,ih,lJ]
   · simp [pU,h,ih,lJ]
theorem TJ {x y:Con} {t:List Con} (h:lt y.name x.name=false) (ht:∀ z∈t,lt y.name z.name=true):iA t x=t:=by
 unfold iA
 rw [List.filter_eq_self]
 intro z hz
 have:=ht z hz
 simp only [decide_not,Bool.not_eq_true',decide_eq_false_iff_not]
 intro e
 have e2:lt y.name x.name=true:=by unfold lt at this ⊢;rw [<- e];exact this
 rw [h] at e2;exact absurd e2 (by simp)
theorem Aq (x:Con):∀ (l o:List Con),l.Pairwise (fun a b=>lt a.name b.name=true)->(if (l.foldl (pU x) (false,o)).1 then (l.foldl (pU x) (false,o)).2 else (l.foldl (pU x) (false,o)).2++[x])=o++aN l x:=by
 intro l
 induction l with
 | nil=>intro o _;simp [aN,yg,iB]
 | cons y t ih =>
   intro o hp
   rw [List.pairwise_cons] at hp
   rw [Nt]
   cases h:lt y.name x.name
   · have h3:=TJ h hp.1
     by_cases h2:y.name.data=x.name.data
     · simp [pU,h,h2,nV,h3]
     · simp [pU,h,h2,nV,h3]
   · have h2:¬ y.name.data=x.name.data:=fun e=>by unfold lt at h;rw [e,mY] at h;exact absurd h (by simp)
     have:=ih (o++[y]) hp.2
     simp only [List.foldl_cons,pU,h,h2,Bool.not_true,Bool.false_and,Bool.false_eq_true,if_false,if_true]
     rw [this];simp
theorem WV (r:List Con):pR r↔r.Pairwise (fun a b=>lt a.name b.name=true):=by
 rw [List.pairwise_iff_getElem]
 constructor
 · intro h i j hi hj hij
   have:=h i j hij hj
   simpa [hi,hj] using this
 · intro h i j hij hj
   have:=h i j (by omega) hj hij
   simpa [show i<r.length by omega,hj] using this
theorem wK {l:List Con} {x:Con} (h:pR l):l7 l x=aN l x:=by
 have:=Aq x l [] ((WV l).1 h)
 simpa [l7,bI] using this
theorem XZ (l:List Con) (x:Con):(aN l x).length<=l.length+1:=by
 have:=K6 l x.name
 unfold aN
 split<;>simp<;>omega
noncomputable def aeW (b:Bool) (l:List Con) (x:Con):dO Tryz.prog:=⟨146,[dP b l,.agg (aJ x)],[],.need (l.length*24<=140737488355200/\pR l) (Oy (aN l x)),T.Sat.need fun h=>by
 have:=Js b l x h.1
 rw [wK h.2] at this
 exact this⟩
def aen (to:List Int) (x:Con):Con:=⟨x.name,afb to x.off⟩
def TR (l:List Con) (to:List Int) (k:Nat):List Con:=if to.length=0 then [] else (l.take k).map (aen to)
def wfC (l:List Con):Prop:=∀ x∈l,K8 x.off
def Oz (r:List Con) (e:Int):T An:=.ite (e==0) (.ret (.tup [.own 0 2 0 r.length,.s (.int .i64 0)],[PG r],[])) (.ret (.tup [.s (.slice none 0 0),.y (.int .i64 e)],[],[]))
def eF (l:List Con) (x:Con) (e:Int):Int:=if !dJ l then 1 else if !dD x.name then 142 else if decide (e<x.off) then 141 else if !lQ l x.name&&decide (l.length=64) then 143 else 0
noncomputable def cmH (b:Bool) (l:List Con) (x:Con):aC Tryz.prog:=hh _ bB (cs1 138 1 3 (rdC b l x.name) (cs1 138 2 1 (coC b l) (cs1 138 4 2 (Ls x.name) (cs1 138 10 2 (agZ b l x) bq)))) bA
def acY (b:Bool) (l:List Con) (x:Con) (e:Int):Prop :=
 ((b=b/\l.length=l.length/\ak l.length 2 (ah aJ l) (ah aJ l))/\x.name=x.name/\True)/\True/\l.length<=9223372036854775806/\((b=b/\l.length=l.length/\ak l.length 2 (ah aJ l) (ah aJ l))/\True)/\True/\l.length<=9223372036854775806/\((!dJ l)=true->((eF l x e==0)=true->(False/\(1:Int)=0/\True)/\False)/\((eF l x e==0)=false->(True/\1=eF l x e/\True)/\True))/\((!dJ l)=false->(x.name=x.name/\True)/\True/\((!dD x.name)=true->((eF l x e==0)=true->(False/\(142:Int)=0/\True)/\False)/\((eF l x e==0)=false->(True/\142=eF l x e/\True)/\True))/\((!dD x.name)=false->(decide (e<x.off)=true->((eF l x e==0)=true->(False/\(141:Int)=0/\True)/\False)/\((eF l x e==0)=false->(True/\141=eF l x e/\True)/\True))/\(decide (e<x.off)=false->((!lQ l x.name)=true->(((l.length:Int)==64)=true->((eF l x e==0)=true->(False/\(143:Int)=0/\True)/\False)/\((eF l x e==0)=false->(True/\143=eF l x e/\True)/\True))/\(((l.length:Int)==64)=false->((b=b/\l.length=l.length/\ak l.length 2 (ah aJ l) (ah aJ l))/\(x.name=x.name/\x.off=x.off/\True)/\(True/\True)/\True)/\True/\(l.length*24<=140737488355200/\∀ (i j:Nat),i<j->j<l.length->lt (l.getD i default).name (l.getD j default).name=true)/\((eF l x e==0)=true->((0=0/\(aN l x).length=(aN l x).length)/\(0:Int)=0/\True)/\((aN l x).length=(aN l x).length/\ak (aN l x).length 2 (ah aJ (aN l x)) (ah aJ (aN l x)))/\True)/\((eF l x e==0)=false->False)))/\((!lQ l x.name)=false->((b=b/\l.length=l.length/\ak l.length 2 (ah aJ l) (ah aJ l))/\(x.name=x.name/\x.off=x.off/\True)/\(True/\True)/\True)/\True/\(l.length*24<=140737488355200/\∀ (i j:Nat),i<j->j<l.length->lt (l.getD i default).name (l.getD j default).name=true)/\((eF l x e==0)=true->((0=0/\(aN l x).length=(aN l x).length)/\(0:Int)=0/\True)/\((aN l x).length=(aN l x).length/\ak (aN l x).length 2 (ah aJ (aN l x)) (ah aJ (aN l x)))/\True)/\((eF l x e==0)=false->False)))))
theorem Xh (b:Bool) (l:List Con) (x:Con) (e:Int):(aZ Tryz.prog (cmH b l x) 138 [dP b l,.agg (aJ x),.y (.int .u64 e)] [] (Oz (aN l x) (eF l x e)))=acY b l x e:=by kernel_rfl
noncomputable def ckH (b:Bool) (l:List Con) (x:Con):aC Tryz.prog:=hh _ bB (cs1 123 1 1 (crC b l) (cs1 123 2 2 (nmC x.name) (cs1 123 3 3 (rrC b l x.name) (cs1 123 12 2 (aeW b l x) bq)))) bA
def Tz (b:Bool) (l:List Con) (x:Con) (e:Int):Prop :=
 ((b=b/\l.length=l.length/\ak l.length 2 (ah aJ l) (ah aJ l))/\True)/\True/\l.length<=9223372036854775806/\(x.name=x.name/\True)/\True/\((b=b/\l.length=l.length/\ak l.length 2 (ah aJ l) (ah aJ l))/\x.name=x.name/\True)/\True/\l.length<=9223372036854775806/\((!dJ l)=true->((eF l x e==0)=true->(False/\(1:Int)=0/\True)/\False)/\((eF l x e==0)=false->(True/\1=eF l x e/\True)/\True))/\((!dJ l)=false->((!dD x.name)=true->((eF l x e==0)=true->(False/\(142:Int)=0/\True)/\False)/\((eF l x e==0)=false->(True/\142=eF l x e/\True)/\True))/\((!dD x.name)=false->(decide (e<x.off)=true->((eF l x e==0)=true->(False/\(141:Int)=0/\True)/\False)/\((eF l x e==0)=false->(True/\141=eF l x e/\True)/\True))/\(decide (e<x.off)=false->((!lQ l x.name)=true->(decide (64<=(l.length:Int))=true->((eF l x e==0)=true->(False/\(143:Int)=0/\True)/\False)/\((eF l x e==0)=false->(True/\143=eF l x e/\True)/\True))/\(decide (64<=(l.length:Int))=false->((b=b/\l.length=l.length/\ak l.length 2 (ah aJ l) (ah aJ l))/\(x.name=x.name/\x.off=x.off/\True)/\True)/\True/\(l.length*24<=140737488355200/\∀ (i j:Nat),i<j->j<l.length->lt (l.getD i default).name (l.getD j default).name=true)/\((eF l x e==0)=true->((0=0/\(aN l x).length=(aN l x).length)/\(0:Int)=0/\True)/\((aN l x).length=(aN l x).length/\ak (aN l x).length 2 (ah aJ (aN l x)) (ah aJ (aN l x)))/\True)/\((eF l x e==0)=false->False)))/\((!lQ l x.name)=false->((b=b/\l.length=l.length/\ak l.length 2 (ah aJ l) (ah aJ l))/\(x.name=x.name/\x.off=x.off/\True)/\True)/\True/\(l.length*24<=140737488355200/\∀ (i j:Nat),i<j->j<l.length->lt (l.getD i default).name (l.getD j default).name=true)/\((eF l x e==0)=true->((0=0/\(aN l x).length=(aN l x).length)/\(0:Int)=0/\True)/\((aN l x).length=(aN l x).length/\ak (aN l x).length 2 (ah aJ (aN l x)) (ah aJ (aN l x)))/\True)/\((eF l x e==0)=false->False)))))
theorem FC (b:Bool) (l:List Con) (x:Con) (e:Int):(aZ Tryz.prog (ckH b l x) 123 [dP b l,.agg (aJ x),.y (.int .u64 e)] [] (Oz (aN l x) (eF l x e)))=Tz b l x e:=by kernel_rfl
theorem TB {l:List Con}:∀ (n k:Nat),l.length - k=n->bW l k=true->∀ j,k<=j->j<l.length->Ab l j=true:=by
 intro n
 induction n with
 | zero=>intro k hk _ j h1 h2;omega
 | succ n ih =>
   intro k hk h j h1 h2
   rw [q8 (by omega),Bool.and_eq_true] at h
   rcases Nat.lt_or_ge k j with h3 | h3
   · exact ih (k+1) (by omega) h.2 j (by omega) h2
   · obtain rfl:j=k:=by omega
     exact h.1
theorem Ir {l:List Con} (h:dJ l=true):l.length<=64:=by
 unfold dJ at h
 rw [Bool.and_eq_true] at h
 exact of_decide_eq_true h.2
theorem GX {l:List Con} (h:dJ l=true):pR l:=by
 unfold dJ at h
 rw [Bool.and_eq_true] at h
 have key:∀ j,0<j->j<l.length->lt (l.getD (j - 1) default).name (l.getD j default).name=true:=by
  intro j h1 h2
  have:=TB _ 0 rfl h.1 j (Nat.zero_le _) h2
  unfold Ab at this
  rw [Bool.and_eq_true,decide_eq_true h1] at this
  simpa using this.2
 have:∀ d i,i+d+1<l.length->lt (l.getD i default).name (l.getD (i+d+1) default).name=true:=by
  intro d
  induction d with
  | zero=>intro i hi;exact key (i+1) (by omega) hi
  | succ d ih=>intro i hi;exact CK (ih i (by omega)) (key (i+(d+1)+1) (by omega) hi)
 intro i j hij hj
 obtain ⟨d,rfl⟩:∃ d,j=i+d+1:=⟨j - i - 1,by omega⟩
 exact this d i hj
theorem agJ (b:Bool) (l:List Con) (x:Con) (e:Int) (hl:l.length<=9223372036854775806):(Oz (aN l x) (eF l x e)).Sat (au Tryz.prog 138 [dP b l,.agg (aJ x),.y (.int .u64 e)] []):=by
 refine aR (ht:=cmH b l x) Tryz.mixed rfl ?_
 rw [Xh b l x e]
 unfold acY
 have ca:=@Ir l
 have cr:=@GX l
 cases h1:dJ l
 · simp [eF,h1,hl]
 · have ca:=ca h1
   have cr:=cr h1
   unfold pR at cr
   simp at cr
   cases h2:dD x.name
   · simp [eF,h1,h2,hl]
   · by_cases h3:e<x.off
     · simp [eF,h1,h2,h3,hl]
     · cases h4:lQ l x.name
       · by_cases h5:l.length=64
         · simp [eF,h1,h2,h3,h4,h5,hl]
         · have h5':¬ ((l.length:Int)=64):=by omega
           simp [eF,h1,h2,h3,h4,h5,h5',hl]
           exact ⟨by omega,cr⟩
       · simp [eF,h1,h2,h3,h4,hl]
         exact ⟨by omega,cr⟩
theorem aaI (b:Bool) (l:List Con) (x:Con) (e:Int) (hl:l.length<=9223372036854775806):(Oz (aN l x) (eF l x e)).Sat (au Tryz.prog 123 [dP b l,.agg (aJ x),.y (.int .u64 e)] []):=by
 refine aR (ht:=ckH b l x) Tryz.mixed rfl ?_
 rw [FC b l x e]
 unfold Tz
 have ca:=@Ir l
 have cr:=@GX l
 cases h1:dJ l
 · simp [eF,h1,hl]
 · have ca:=ca h1
   have cr:=cr h1
   unfold pR at cr
   simp at cr
   cases h2:dD x.name
   · simp [eF,h1,h2,hl]
   · by_cases h3:e<x.off
     · simp [eF,h1,h2,h3,hl]
     · cases h4:lQ l x.name
       · by_cases h5:l.length=64
         · simp [eF,h1,h2,h3,h4,h5,hl]
         · have h5':¬ ((64:Int)<=l.length):=by omega
           simp [eF,h1,h2,h3,h4,h5,h5',hl]
           exact ⟨by omega,cr⟩
       · simp [eF,h1,h2,h3,h4,hl]
         exact ⟨by omega,cr⟩
noncomputable def cmC (b:Bool) (l:List Con) (x:Con) (e:Int):dO Tryz.prog:=⟨138,[dP b l,.agg (aJ x),.y (.int .u64 e)],[],.need (l.length<=9223372036854775806) (Oz (aN l x) (eF l x e)),T.Sat.need fun h=>agJ b l x e h⟩
noncomputable def ckC (b:Bool) (l:List Con) (x:Con) (e:Int):dO Tryz.prog:=⟨123,[dP b l,.agg (aJ x),.y (.int .u64 e)],[],.need (l.length<=9223372036854775806) (Oz (aN l x) (eF l x e)),T.Sat.need fun h=>aaI b l x e h⟩
end Go.Proofs.YtnbhdjadlbhknaaGreatDoor

namespace Go.Proofs.YtnbhdjadlbhknaaGreatDoor.P
open Go.Ax
set_option maxRecDepth 1000000
structure Producer where
 id:Int
 seq:Int
 here:Bool
 offset:Int
instance:Inhabited Producer:=⟨⟨0,0,false,0⟩⟩
def ay (x:Producer):List AV:=[.y (.int .u64 x.id),.y (.int .u64 x.seq),.y (.bool x.here),.y (.int .u64 x.offset)]
def bG (b:Bool) (l:List Producer):AV:=.ys b 4 l.length (ah ay l)
theorem Tryz.mixed:Tryz.prog.follows .mixedOrders=true:=by kernel_rfl
def most:Int:=9223372036854775807
def YB (l:List Producer) (k:Nat):Bool :=
 let x:=l.getD k default
 !(x.id==0||!(decide (1<=x.seq)&&decide (x.seq<=9223372036854775807))||!x.here&&x.offset != 0||decide (0<k)&&decide (x.id<=(l.getD (k - 1) default).id))
def aY (l:List Producer) (k:Nat):Bool:=(List.range' k (l.length - k)).all (YB l)
def cK (l:List Producer):Bool:=aY l 0&&decide (l.length<=256)
theorem zD {l:List Producer} {k:Nat} (h:l.length<=k):aY l k=true:=by
 unfold aY
 rw [show l.length - k=0 by omega];rfl
theorem qG {l:List Producer} {k:Nat} (h:k<l.length):aY l k=(YB l k&&aY l (k+1)):=by
 unfold aY
 rw [show l.length - k=(l.length - (k+1))+1 by omega,List.range'_succ];rfl
def Xp (b:Bool) (l:List Producer) (k:Nat):List AV:=mkT 50 [(0,bG b l),(2,.s (.bool false)),(5,bG b l),(6,.y (.int .i64 l.length)),(7,.y (.int .i64 k))]
def Yt (b:Bool) (l:List Producer) (r:Bool):Exit×List AV×List aH:=match r with
 | true=>(.exit 0,mkT 50 [(0,bG b l),(2,.s (.bool false))],[])
 | false=>(.ret,mkT 50 [(2,.s (.bool false))],[])
def HZ (l:List Producer) (k:Nat):T Bool:=.ite (aY l k) (.ret true) (.ret false)
def jV (b:Bool) (l:List Producer):Prop:=(b=b/\l.length=l.length/\ak l.length 4 (ah ay l) (ah ay l))
def qN (b:Bool) (l:List Producer) (k:Nat):Prop:=(decide (0<(k:Int))=true->(decide (0<=IntKind.i64.wrap ((k:Int) - 1))&&decide (IntKind.i64.wrap ((k:Int) - 1)<(l.length:Int)))=true/\(decide ((l.getD (Int.toNat (k:Int)) default).id<=(l.getD (Int.toNat (IntKind.i64.wrap ((k:Int) - 1))) default).id)=true->(aY l k=true->False)/\(aY l k=false->(false=false/\True)/\True/\true=true))/\(decide ((l.getD (Int.toNat (k:Int)) default).id<=(l.getD (Int.toNat (IntKind.i64.wrap ((k:Int) - 1))) default).id)=false->∃ j:Nat,l.length - j<l.length - k/\(((jV b l)/\false=false/\(jV b l)/\(l.length:Int)=(l.length:Int)/\IntKind.i64.wrap ((k:Int)+1)=(j:Int)/\True)/\True/\true=true)/\true=true/\(aY l j=true->(aY l k=true->true=true)/\(aY l k=false->true=false))/\(aY l j=false->(aY l k=true->false=true)/\(aY l k=false->false=false))))
def qU (b:Bool) (l:List Producer) (k:Nat):Prop:=(decide (0<(k:Int))=false->∃ j:Nat,l.length - j<l.length - k/\(((jV b l)/\false=false/\(jV b l)/\(l.length:Int)=(l.length:Int)/\IntKind.i64.wrap ((k:Int)+1)=(j:Int)/\True)/\True/\true=true)/\true=true/\(aY l j=true->(aY l k=true->true=true)/\(aY l k=false->true=false))/\(aY l j=false->(aY l k=true->false=true)/\(aY l k=false->false=false)))
def FW (b:Bool) (l:List Producer) (k:Nat):Prop :=
 (decide ((k:Int)<(l.length:Int))=true->(true&&decide ((k:Int)<(l.length:Int)))=true/\(((l.getD (Int.toNat (k:Int)) default).id==0)=true->(aY l k=true->False)/\(aY l k=false->(false=false/\True)/\True/\true=true))/\(((l.getD (Int.toNat (k:Int)) default).id==0)=false->(decide (1<=(l.getD (Int.toNat (k:Int)) default).seq)=true->((!decide ((l.getD (Int.toNat (k:Int)) default).seq<=9223372036854775807))=true->(aY l k=true->False)/\(aY l k=false->(false=false/\True)/\True/\true=true))/\((!decide ((l.getD (Int.toNat (k:Int)) default).seq<=9223372036854775807))=false->((!(l.getD (Int.toNat (k:Int)) default).here)=true->(((l.getD (Int.toNat (k:Int)) default).offset != 0)=true->(aY l k=true->False)/\(aY l k=false->(false=false/\True)/\True/\true=true))/\(((l.getD (Int.toNat (k:Int)) default).offset != 0)=false->(qN b l k)/\(qU b l k)))/\((!(l.getD (Int.toNat (k:Int)) default).here)=false->(qN b l k)/\(qU b l k))))/\(decide (1<=(l.getD (Int.toNat (k:Int)) default).seq)=false->(aY l k=true->False)/\(aY l k=false->(false=false/\True)/\True/\true=true))))/\(decide ((k:Int)<(l.length:Int))=false->(aY l k=true->((jV b l)/\false=false/\True)/\True/\true=true)/\(aY l k=false->False))
theorem Hq (b:Bool) (l:List Producer) (k:Nat):(cu Tryz.prog (hT _) 45 2 (fun k=>l.length - k) (Xp b l) (fun _=>[]) [0] (HZ l) (Yt b l) k)=FW b l k:=by kernel_rfl
theorem Ka (b:Bool) (l:List Producer) (hl:l.length<=9223372036854775806) (k:Nat):aQ Tryz.prog 45 2 (aS Tryz.prog 45 2) ⟨Xp b l k,[],[]⟩ ((HZ l k).map (bV [0] (Yt b l))):=by
 refine fP Tryz.mixed (fun _=>rfl) (fun k=>(Hq b l k).mpr ?_) k
 unfold FW qU qN jV
 simp
 refine ⟨fun h=>?_,fun h=>by simp [zD h]⟩
 rw [qG h]
 simp (disch:=omega) only [wrap_i64]
 simp [YB,cast_succ_eq]
 grind
noncomputable def adf (b:Bool) (l:List Producer):aC Tryz.prog:=hh _ (ni 45 2 (eP (Xp b l) (fun _=>[]) [0] (HZ l) (Yt b l) 0) bB) bq bA
def FY (l:List Producer):T An:=.ret (.y (.bool (cK l)),[],[])
def Lf (b:Bool) (l:List Producer):Prop :=
 (((b=b/\l.length=l.length/\ak l.length 4 (ah ay l) (ah ay l))/\false=false/\(b=b/\l.length=l.length/\ak l.length 4 (ah ay l) (ah ay l))/\(l.length:Int)=(l.length:Int)/\(0:Int)=0/\True)/\True/\true=true)/\aQ Tryz.prog 45 2 (aS Tryz.prog 45 2) { t:=Xp b l 0,m:=[],mv:=[]:St } (T.map (bV [0] (Yt b l)) (HZ l 0))/\(aY l 0=true->decide ((l.length:Int)<=256)=cK l/\True)/\(aY l 0=false->false=cK l/\True)
theorem J_ (b:Bool) (l:List Producer):(aZ Tryz.prog (adf b l) 45 [bG b l] [] (FY l))=Lf b l:=by kernel_rfl
theorem LZ (b:Bool) (l:List Producer) (hl:l.length<=9223372036854775806):(FY l).Sat (au Tryz.prog 45 [bG b l] []):=by
 refine aR (ht:=(adf b l)) Tryz.mixed rfl ?_
 rw [J_ b l]
 unfold Lf
 have:=Ka b l hl 0
 simp [cK,this]
 grind
def Ma (b:Bool) (l:List Producer) (k:Nat):List AV:=mkT 69 [(0,bG b l),(2,.s (.bool false)),(3,.y (.int .i64 k))]
def LH (b:Bool) (l:List Producer) (r:Bool):Exit×List AV×List aH:=match r with
 | true=>(.exit 0,mkT 69 [(0,bG b l)],[])
 | false=>(.ret,mkT 69 [(2,.s (.bool false))],[])
def Dr (b:Bool) (l:List Producer) (k:Nat):Prop :=
 (decide ((k:Int)<(l.length:Int))=true->(true&&decide ((k:Int)<(l.length:Int)))=true/\(((l.getD (Int.toNat (k:Int)) default).id==0)=true->(aY l k=true->False)/\(aY l k=false->(false=false/\True)/\True/\true=true))/\(((l.getD (Int.toNat (k:Int)) default).id==0)=false->(true&&decide ((k:Int)<(l.length:Int)))=true/\(decide ((l.getD (Int.toNat (k:Int)) default).seq<1)=true->(aY l k=true->False)/\(aY l k=false->(false=false/\True)/\True/\true=true))/\(decide ((l.getD (Int.toNat (k:Int)) default).seq<1)=false->(true&&decide ((k:Int)<(l.length:Int)))=true/\(decide (9223372036854775807<(l.getD (Int.toNat (k:Int)) default).seq)=true->(aY l k=true->False)/\(aY l k=false->(false=false/\True)/\True/\true=true))/\(decide (9223372036854775807<(l.getD (Int.toNat (k:Int)) default).seq)=false->(true&&decide ((k:Int)<(l.length:Int)))=true/\((!(l.getD (Int.toNat (k:Int)) default).here)=true->(true&&decide ((k:Int)<(l.length:Int)))=true/\(((l.getD (Int.toNat (k:Int)) default).offset != 0)=true->(aY l k=true->False)/\(aY l k=false->(false=false/\True)/\True/\true=true))/\(((l.getD (Int.toNat (k:Int)) default).offset != 0)=false->(decide (0<(k:Int))=true->(decide (0<=IntKind.i64.wrap ((k:Int) - 1))&&decide (IntKind.i64.wrap ((k:Int) - 1)<(l.length:Int)))=true/\(true&&decide ((k:Int)<(l.length:Int)))=true/\(decide ((l.getD (Int.toNat (k:Int)) default).id<=(l.getD (Int.toNat (IntKind.i64.wrap ((k:Int) - 1))) default).id)=true->(aY l k=true->False)/\(aY l k=false->(false=false/\True)/\True/\true=true))/\(decide ((l.getD (Int.toNat (k:Int)) default).id<=(l.getD (Int.toNat (IntKind.i64.wrap ((k:Int) - 1))) default).id)=false->∃ j:Nat,l.length - j<l.length - k/\(((b=b/\l.length=l.length/\ak l.length 4 (ah ay l) (ah ay l))/\false=false/\IntKind.i64.wrap ((k:Int)+1)=(j:Int)/\True)/\True/\true=true)/\true=true/\(aY l j=true->(aY l k=true->true=true)/\(aY l k=false->true=false))/\(aY l j=false->(aY l k=true->false=true)/\(aY l k=false->false=false))))/\(decide (0<(k:Int))=false->∃ j:Nat,l.length - j<l.length - k/\(((b=b/\l.length=l.length/\ak l.length 4 (ah ay l) (ah ay l))/\false=false/\IntKind.i64.wrap ((k:Int)+1)=(j:Int)/\True)/\True/\true=true)/\true=true/\(aY l j=true->(aY l k=true->true=true)/\(aY l k=false->true=false))/\(aY l j=false->(aY l k=true->false=true)/\(aY l k=false->false=false)))))/\((!(l.getD (Int.toNat (k:Int)) default).here)=false->(decide (0<(k:Int))=true->(decide (0<=IntKind.i64.wrap ((k:Int) - 1))&&decide (IntKind.i64.wrap ((k:Int) - 1)<(l.length:Int)))=true/\(true&&decide ((k:Int)<(l.length:Int)))=true/\(decide ((l.getD (Int.toNat (k:Int)) default).id<=(l.getD (Int.toNat (IntKind.i64.wrap ((k:Int) - 1))) default).id)=true->(aY l k=true->False)/\(aY l k=false->(false=false/\True)/\True/\true=true))/\(decide ((l.getD (Int.toNat (k:Int)) default).id<=(l.getD (Int.toNat (IntKind.i64.wrap ((k:Int) - 1))) default).id)=false->∃ j:Nat,l.length - j<l.length - k/\(((b=b/\l.length=l.length/\ak l.length 4 (ah ay l) (ah ay l))/\false=false/\IntKind.i64.wrap ((k:Int)+1)=(j:Int)/\True)/\True/\true=true)/\true=true/\(aY l j=true->(aY l k=true->true=true)/\(aY l k=false->true=false))/\(aY l j=false->(aY l k=true->false=true)/\(aY l k=false->false=false))))/\(decide (0<(k:Int))=false->∃ j:Nat,l.length - j<l.length - k/\(((b=b/\l.length=l.length/\ak l.length 4 (ah ay l) (ah ay l))/\false=false/\IntKind.i64.wrap ((k:Int)+1)=(j:Int)/\True)/\True/\true=true)/\true=true/\(aY l j=true->(aY l k=true->true=true)/\(aY l k=false->true=false))/\(aY l j=false->(aY l k=true->false=true)/\(aY l k=false->false=false))))))))/\(decide ((k:Int)<(l.length:Int))=false->(aY l k=true->((b=b/\l.length=l.length/\ak l.length 4 (ah ay l) (ah ay l))/\True)/\True/\true=true)/\(aY l k=false->False))
theorem EF (b:Bool) (l:List Producer) (k:Nat):(cu Tryz.prog (hT _) 51 4 (fun k=>l.length - k) (Ma b l) (fun _=>[]) [0] (HZ l) (LH b l) k)=Dr b l k:=by kernel_rfl
theorem G6 (b:Bool) (l:List Producer) (hl:l.length<=9223372036854775806) (k:Nat):aQ Tryz.prog 51 4 (aS Tryz.prog 51 4) ⟨Ma b l k,[],[]⟩ ((HZ l k).map (bV [0] (LH b l))):=by
 refine fP Tryz.mixed (fun _=>rfl) (fun k=>(EF b l k).mpr ?_) k
 unfold Dr
 simp
 refine ⟨fun h=>?_,fun h=>by simp [zD h]⟩
 rw [qG h]
 simp (disch:=omega) only [wrap_i64]
 simp [YB,cast_succ_eq]
 grind
noncomputable def YR (b:Bool) (l:List Producer):aC Tryz.prog:=hh _ (ni 51 4 (eP (Ma b l) (fun _=>[]) [0] (HZ l) (LH b l) 0) bB) bq bA
def Gz (b:Bool) (l:List Producer):Prop :=
 (decide (256<(l.length:Int))=true->false=cK l/\True)/\(decide (256<(l.length:Int))=false->(((b=b/\l.length=l.length/\ak l.length 4 (ah ay l) (ah ay l))/\false=false/\(0:Int)=0/\True)/\True/\true=true)/\aQ Tryz.prog 51 4 (aS Tryz.prog 51 4) { t:=Ma b l 0,m:=[],mv:=[]:St } (T.map (bV [0] (LH b l)) (HZ l 0))/\(aY l 0=true->true=cK l/\True)/\(aY l 0=false->false=cK l/\True))
theorem Gt (b:Bool) (l:List Producer):(aZ Tryz.prog (YR b l) 51 [bG b l] [] (FY l))=Gz b l:=by kernel_rfl
theorem Ik (b:Bool) (l:List Producer) (hl:l.length<=9223372036854775806):(FY l).Sat (au Tryz.prog 51 [bG b l] []):=by
 refine aR (ht:=(YR b l)) Tryz.mixed rfl ?_
 rw [Gt b l]
 unfold Gz
 have:=G6 b l hl 0
 simp [cK,this]
 refine ⟨fun h _=>by omega,fun h=>⟨fun h2=>⟨h2,by omega⟩,fun h2 h3=>by simp [h2] at h3⟩⟩
noncomputable def agT (b:Bool) (l:List Producer) (hl:l.length<=9223372036854775806):dO Tryz.prog:=⟨45,[bG b l],[],FY l,LZ b l hl⟩
noncomputable def adY (b:Bool) (l:List Producer) (hl:l.length<=9223372036854775806):dO Tryz.prog:=⟨51,[bG b l],[],FY l,Ik b l hl⟩
end Go.Proofs.YtnbhdjadlbhknaaGreatDoor.P
