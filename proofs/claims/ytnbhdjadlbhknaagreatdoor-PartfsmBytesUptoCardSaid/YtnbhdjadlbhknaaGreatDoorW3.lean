import Derived.Test.YtnbhdjadlbhknaaGreatDoorW2
set_option linter.unusedVariables false
set_option linter.unusedSimpArgs false
set_option maxRecDepth 1000000
namespace Go.Proofs.YtnbhdjadlbhknaaGreatDoor
open Go.Ax
namespace P
def has (id:Int) (x:Producer):Bool:=x.id==id
def findD (l:List Producer) (id:Int):Producer:=(l.find? (has id)).getD default
def bT (l:List Producer) (id:Int):Bool:=(l.find? (has id)).isSome
theorem uE (x:Producer) (r:List Producer) (id:Int):bT (x::r) id=(x.id==id||bT r id):=by
 simp only [bT,List.find?_cons,has]
 cases h:x.id==id<;>simp
theorem JA (x:Producer) (r:List Producer) (id:Int):findD (x::r) id=if x.id=id then x else findD r id:=by
 simp only [findD,List.find?_cons,has]
 by_cases h:x.id=id
 · simp [h]
 · have h':(x.id==id)=false:=by simpa using h
   simp [h,h']
theorem GL (x:Producer) (r:List Producer) (id:Int):(x::r).findIdx (has id)=if x.id=id then 0 else r.findIdx (has id)+1:=by
 simp only [List.findIdx_cons,has]
 by_cases h:x.id=id
 · simp [h]
 · have h':(x.id==id)=false:=by simpa using h
   simp [h,h']
def adH:List AV:=[.s (.int .u64 0),.s (.int .u64 0),.s (.bool false),.s (.int .u64 0)]
def WB (b:Bool) (id:Int) (l:List Producer) (k:Nat):List AV:=mkT 21 [(1,.fn (.func 149) [] [.ip false 1 (fun _=>.y (.int .u64 id))]),(4,.ptr 0 0 0 0),(5,.s (.bool false)),(9,bG b l),(10,.y (.int .i64 l.length)),(11,.y (.int .i64 k))]
def Qe:List aH:=[.box 80 adH]
def Ww (r:Bool×Producer):Exit×List AV×List aH:=match r.1 with
 | true=>(.ret,mkT 21 [(4,.ptr 0 0 0 0),(5,.s (.bool true))],[.box 80 (ay r.2)])
 | false=>(.exit 0,mkT 21 [(4,.ptr 0 0 0 0),(5,.s (.bool false))],Qe)
def Yt (id:Int) (l:List Producer) (k:Nat):T (Bool×Producer):=.ite (bT (l.drop k) id) (.ret (true,findD (l.drop k) id)) (.ret (false,default))
def FV (b:Bool) (id:Int) (l:List Producer) (k:Nat):Prop :=
 (decide ((k:Int)<(l.length:Int))=true->(true&&decide ((k:Int)<(l.length:Int)))=true/\(((l.getD (Int.toNat (k:Int)) default).id==id)=true->(bT (List.drop k l) id=true->((0=0/\0=0)/\true=true/\True)/\(((l.getD (Int.toNat (k:Int)) default).id=(findD (List.drop k l) id).id/\(l.getD (Int.toNat (k:Int)) default).seq=(findD (List.drop k l) id).seq/\(l.getD (Int.toNat (k:Int)) default).here=(findD (List.drop k l) id).here/\(l.getD (Int.toNat (k:Int)) default).offset=(findD (List.drop k l) id).offset/\True)/\True)/\true=true)/\(bT (List.drop k l) id=false->False))/\(((l.getD (Int.toNat (k:Int)) default).id==id)=false->∃ j:Nat,l.length - j<l.length - k/\(((True/\(false=false/\1<=1/\eT 1 (fun (x:Nat)=>AV.y (.int .u64 id)) fun (x:Nat)=>AV.y (.int .u64 id))/\True)/\(0=0/\0=0)/\false=false/\(b=b/\l.length=l.length/\ak l.length 4 (ah ay l) (ah ay l))/\(l.length:Int)=(l.length:Int)/\IntKind.i64.wrap ((k:Int)+1)=(j:Int)/\True)/\(((0:Int)=0/\(0:Int)=0/\false=false/\(0:Int)=0/\True)/\True)/\true=true)/\true=true/\(bT (List.drop j l) id=true->(bT (List.drop k l) id=true->(true,findD (List.drop j l) id)=(true,findD (List.drop k l) id))/\(bT (List.drop k l) id=false->(true,findD (List.drop j l) id)=(false,@default Producer instInhabitedProducer)))/\(bT (List.drop j l) id=false->(bT (List.drop k l) id=true->(false,@default Producer instInhabitedProducer)=(true,findD (List.drop k l) id))/\(bT (List.drop k l) id=false->(false,@default Producer instInhabitedProducer)=(false,@default Producer instInhabitedProducer)))))/\(decide ((k:Int)<(l.length:Int))=false->(bT (List.drop k l) id=true->False)/\(bT (List.drop k l) id=false->((0=0/\0=0)/\false=false/\True)/\(((0:Int)=0/\(0:Int)=0/\false=false/\(0:Int)=0/\True)/\True)/\true=true))
theorem Gs (b:Bool) (id:Int) (l:List Producer) (k:Nat):(cu Tryz.prog (hT _) 148 2 (fun k=>l.length - k) (WB b id l) (fun _=>Qe) [0,1,2,3] (Yt id l) Ww k)=FV b id l k:=by kernel_rfl
theorem Kw (b:Bool) (id:Int) (l:List Producer) (hl:l.length<=9223372036854775806)  (k:Nat):aQ Tryz.prog 148 2 (aS Tryz.prog 148 2) ⟨WB b id l k,Qe,[]⟩ ((Yt id l k).map (bU [0,1,2,3] Ww)):=by
 refine fO Tryz.mixed (fun _=>rfl) (fun k=>(Gs b id l k).mpr ?_) k
 unfold FV
 simp
 refine ⟨fun h=>?_,fun h=>by simp [bT,jJ h]⟩
 simp (disch:=omega) only [wrap_i64]
 rw [drop_cons h]
 simp only [uE,JA]
 generalize l[k]?.getD default=x
 by_cases hx:x.id=id<;>simp [hx,h,cast_succ_eq]
 refine ⟨k+1,by omega,rfl,?_⟩
 grind
noncomputable def Z5 (b:Bool) (l:List Producer) (id:Int):aC Tryz.prog:=hh _ (nu 148 2 (eP (WB b id l) (fun _=>Qe) [0,1,2,3] (Yt id l) Ww 0) bB) bA bq
def RP (l:List Producer) (id:Int):T An:=.ret (.tup [.agg (ay (findD l id)),.y (.bool (bT l id))],[],[])
def P8 (b:Bool) (l:List Producer) (id:Int):Prop :=
 (((True/\(false=false/\1<=1/\eT 1 (fun (j:Nat)=>Ax.get [AV.y (.int .u64 id)] (0+j)) fun (x:Nat)=>AV.y (.int .u64 id))/\True)/\(0=0/\0=0)/\false=false/\(b=b/\l.length=l.length/\ak l.length 4 (ah ay l) (ah ay l))/\(l.length:Int)=(l.length:Int)/\(0:Int)=0/\True)/\(((0:Int)=0/\(0:Int)=0/\false=false/\(0:Int)=0/\True)/\True)/\true=true)/\aQ Tryz.prog 148 2 (aS Tryz.prog 148 2) { t:=WB b id l 0,m:=Qe,mv:=[]:St } (T.map (bU [0,1,2,3] Ww) (Yt id l 0))/\(bT (List.drop 0 l) id=true->true=true/\True/\(((findD (List.drop 0 l) id).id=(findD l id).id/\(findD (List.drop 0 l) id).seq=(findD l id).seq/\(findD (List.drop 0 l) id).here=(findD l id).here/\(findD (List.drop 0 l) id).offset=(findD l id).offset/\True)/\true=bT l id/\True)/\True)/\(bT (List.drop 0 l) id=false->true=true/\True/\((0=(findD l id).id/\0=(findD l id).seq/\false=(findD l id).here/\0=(findD l id).offset/\True)/\false=bT l id/\True)/\True)
theorem Om (b:Bool) (l:List Producer) (id:Int):(aZ Tryz.prog (Z5 b l id) 132 [bG b l,.y (.int .u64 id)] [] (RP l id))=P8 b l id:=by kernel_rfl
theorem abh (b:Bool) (l:List Producer) (id:Int) (hl:l.length<=9223372036854775806):(RP l id).Sat (au Tryz.prog 132 [bG b l,.y (.int .u64 id)] []):=by
 refine aR (ht:=(Z5 b l id)) Tryz.mixed rfl ?_
 rw [Om b l id]
 unfold P8
 have:=Kw b id l hl 0
 simp [this]
 by_cases hf:bT l id=true
 · simp [hf]
 · have e:l.find? (has id)=none:=by simpa [bT] using hf
   simp [hf,findD,e]
   exact ⟨rfl,rfl,rfl,rfl⟩
noncomputable def Cq (b:Bool) (l:List Producer) (id:Int) (hl:l.length<=9223372036854775806):dO Tryz.prog:=⟨132,[bG b l,.y (.int .u64 id)],[],RP l id,abh b l id hl⟩
def Qz (id seq:Int):Bool:=id==0||!(decide (1<=seq)&&decide (seq<=9223372036854775807))
def bg (l:List Producer) (id seq:Int):Int :=
 if Qz id seq then 4 else if !bT l id||decide ((findD l id).seq<seq) then 1 else if seq==(findD l id).seq&&(findD l id).here then 2 else 3
def dP (l:List Producer) (id seq:Int):Int :=
 if Qz id seq then 0 else if !bT l id||decide ((findD l id).seq<seq) then 0 else if seq==(findD l id).seq&&(findD l id).here then (findD l id).offset else 0
def qD (l:List Producer) (id seq:Int):T An:=.ret (.tup [.y (.int .i64 (bg l id seq)),.y (.int .u64 (dP l id seq))],[],[])
noncomputable def PY (b:Bool) (l:List Producer) (id:Int) (hl:l.length<=9223372036854775806):aC Tryz.prog:=hh _ bB (cs1 98 3 2 (Cq b l id hl) bA) bq
def Lu (b:Bool) (l:List Producer) (id:Int) (seq:Int) (hl:l.length<=9223372036854775806):Prop :=
 ((id==0)=true->(4=bg l id seq/\0=dP l id seq/\True)/\True)/\((id==0)=false->(decide (1<=seq)=true->((!decide (seq<=9223372036854775807))=true->(4=bg l id seq/\0=dP l id seq/\True)/\True)/\((!decide (seq<=9223372036854775807))=false->((b=b/\l.length=l.length/\ak l.length 4 (ah ay l) (ah ay l))/\id=id/\True)/\True/\((!bT l id)=true->(1=bg l id seq/\0=dP l id seq/\True)/\True)/\((!bT l id)=false->(decide ((findD l id).seq<seq)=true->(1=bg l id seq/\0=dP l id seq/\True)/\True)/\(decide ((findD l id).seq<seq)=false->((seq==(findD l id).seq)=true->((findD l id).here=true->(2=bg l id seq/\(findD l id).offset=dP l id seq/\True)/\True)/\((findD l id).here=false->(3=bg l id seq/\0=dP l id seq/\True)/\True))/\((seq==(findD l id).seq)=false->(3=bg l id seq/\0=dP l id seq/\True)/\True)))))/\(decide (1<=seq)=false->(4=bg l id seq/\0=dP l id seq/\True)/\True))
theorem Kt (b:Bool) (l:List Producer) (id:Int) (seq:Int) (hl:l.length<=9223372036854775806):(aZ Tryz.prog (PY b l id hl) 98 [bG b l,.y (.int .u64 id),.y (.int .u64 seq)] [] (qD l id seq))=Lu b l id seq hl:=by kernel_rfl
theorem MW (b:Bool) (l:List Producer) (id seq:Int) (hl:l.length<=9223372036854775806):(qD l id seq).Sat (au Tryz.prog 98 [bG b l,.y (.int .u64 id),.y (.int .u64 seq)] []):=by
 refine aR (ht:=(PY b l id hl)) Tryz.mixed rfl ?_
 rw [Kt b l id seq hl]
 unfold Lu
 simp [bg,dP,Qz]
 grind
def Vy (b:Bool) (id:Int) (l:List Producer) (k:Nat):List AV:=mkT 20 [(0,bG b l),(1,.y (.int .u64 id)),(4,.s (.int .i64 0)),(5,.y (.int .i64 k))]
def UO (r:Bool×Nat):Exit×List AV×List aH:=match r.1 with
 | true=>(.ret,mkT 20 [(4,.y (.int .i64 r.2))],[])
 | false=>(.exit 0,mkT 20 [],[])
def GJ (id:Int) (l:List Producer) (k:Nat):T (Bool×Nat):=.ite (bT (l.drop k) id) (.ret (true,k+(l.drop k).findIdx (has id))) (.ret (false,0))
def Ra (b:Bool) (id:Int) (l:List Producer) (k:Nat):Prop :=
 (decide ((↑k:Int)<(↑(List.length l):Int))=true->(true&&decide ((↑k:Int)<(↑(List.length l):Int)))=true/\(((List.getD l (Int.toNat (↑k:Int)) (@default Producer instInhabitedProducer)).id==id)=true->(bT (List.drop k l) id=true->((↑k:Int)=(↑(k+List.findIdx (has id) (List.drop k l)):Int)/\True)/\True/\true=true)/\(bT (List.drop k l) id=false->False))/\(((List.getD l (Int.toNat (↑k:Int)) (@default Producer instInhabitedProducer)).id==id)=false->∃ (j:Nat),List.length l - j<List.length l - k/\(((b=b/\List.length l=List.length l/\ak (List.length l) (4:Nat) (ah ay l) (ah ay l))/\id=id/\(0:Int)=(0:Int)/\IntKind.wrap IntKind.i64 ((↑k:Int)+(1:Int))=(↑j:Int)/\True)/\True/\true=true)/\true=true/\(bT (List.drop j l) id=true->(bT (List.drop k l) id=true->(true,j+List.findIdx (has id) (List.drop j l))=(true,k+List.findIdx (has id) (List.drop k l)))/\(bT (List.drop k l) id=false->(true,j+List.findIdx (has id) (List.drop j l))=(false,(0:Nat))))/\(bT (List.drop j l) id=false->(bT (List.drop k l) id=true->(false,(0:Nat))=(true,k+List.findIdx (has id) (List.drop k l)))/\(bT (List.drop k l) id=false->(false,(0:Nat))=(false,(0:Nat))))))/\(decide ((↑k:Int)<(↑(List.length l):Int))=false->(bT (List.drop k l) id=true->False)/\(bT (List.drop k l) id=false->True/\True/\true=true))
theorem Nn (b:Bool) (id:Int) (l:List Producer) (k:Nat):(cu Tryz.prog (hT _) 131 2 (fun k=>l.length - k) (Vy b id l) (fun _=>[]) [] (GJ id l) UO k)=Ra b id l k:=by kernel_rfl
theorem Sw (b:Bool) (id:Int) (l:List Producer) (hl:l.length<=9223372036854775806)  (k:Nat):aQ Tryz.prog 131 2 (aS Tryz.prog 131 2) ⟨Vy b id l k,[],[]⟩ ((GJ id l k).map (bU [] UO)):=by
 refine fO Tryz.mixed (fun _=>rfl) (fun k=>(Nn b id l k).mpr ?_) k
 unfold Ra
 simp
 refine ⟨fun h=>?_,fun h=>by simp [bT,jJ h]⟩
 simp (disch:=omega) only [wrap_i64]
 rw [drop_cons h]
 simp only [uE,GL]
 generalize l[k]?.getD default=x
 by_cases hx:x.id=id<;>simp [hx,h,cast_succ_eq]
 refine ⟨k+1,by omega,rfl,?_⟩
 grind
def ig (l:List Producer) (id:Int):Int:=if bT l id then (l.findIdx (has id):Nat) else -1
noncomputable def ac4 (b:Bool) (l:List Producer) (id:Int):aC Tryz.prog:=hh _ (nu 131 2 (eP (Vy b id l) (fun _=>[]) [] (GJ id l) UO 0) bB) bA bq
def OB (l:List Producer) (id:Int):T An:=.ret (.y (.int .i64 (ig l id)),[],[])
def ZO (b:Bool) (l:List Producer) (id:Int):Prop :=
 (((b=b/\List.length l=List.length l/\ak (List.length l) (4:Nat) (ah ay l) (ah ay l))/\id=id/\(0:Int)=(0:Int)/\(0:Int)=(0:Int)/\True)/\True/\true=true)/\aQ Tryz.prog (131:Nat) (2:Nat) (aS Tryz.prog (131:Nat) (2:Nat)) { t:=Vy b id l (0:Nat),m:=[],mv:=[]:St } (T.map (bU [] UO) (GJ id l (0:Nat)))/\(bT (List.drop (0:Nat) l) id=true->(↑((0:Nat)+List.findIdx (has id) (List.drop (0:Nat) l)):Int)=ig l id/\True)/\(bT (List.drop (0:Nat) l) id=false->(-1:Int)=ig l id/\True)
theorem Pg (b:Bool) (l:List Producer) (id:Int):(aZ Tryz.prog (ac4 b l id) 131 [bG b l,.y (.int .u64 id)] [] (OB l id))=ZO b l id:=by kernel_rfl
theorem ad1 (b:Bool) (l:List Producer) (id:Int) (hl:l.length<=9223372036854775806):(OB l id).Sat (au Tryz.prog 131 [bG b l,.y (.int .u64 id)] []):=by
 refine aR (ht:=(ac4 b l id)) Tryz.mixed rfl ?_
 rw [Pg b l id]
 unfold ZO
 have:=Sw b id l hl 0
 simp [this,ig]
noncomputable def aee (b:Bool) (l:List Producer) (id:Int) (hl:l.length<=9223372036854775806):dO Tryz.prog:=⟨131,[bG b l,.y (.int .u64 id)],[],OB l id,ad1 b l id hl⟩
noncomputable def LW (b:Bool) (l:List Producer) (id:Int) (hl:l.length<=9223372036854775806):aC Tryz.prog:=hh _ bB (cs1 94 3 2 (aee b l id hl) bA) bq
theorem Bl {l:List Producer} {id:Int} (h:bT l id=true):l.findIdx (has id)<l.length:=by
 rw [List.findIdx_lt_length]
 simpa [bT,List.find?_isSome] using h
theorem Kz {l:List Producer} {id:Int} (h:bT l id=true):l[l.findIdx (has id)]?.getD default=findD l id:=by
 have hlt:=Bl h
 unfold findD
 rw [List.getElem?_eq_getElem hlt]
 simp [List.find?_eq_getElem?_findIdx,hlt]
def IQ (b:Bool) (l:List Producer) (id:Int) (seq:Int) (hl:l.length<=9223372036854775806):Prop :=
 ((id==0)=true->(4=bg l id seq/\0=dP l id seq/\True)/\True)/\((id==0)=false->(decide (seq<1)=true->(4=bg l id seq/\0=dP l id seq/\True)/\True)/\(decide (seq<1)=false->(decide (9223372036854775807<seq)=true->(4=bg l id seq/\0=dP l id seq/\True)/\True)/\(decide (9223372036854775807<seq)=false->((b=b/\l.length=l.length/\ak l.length 4 (ah ay l) (ah ay l))/\id=id/\True)/\True/\(decide (ig l id<0)=true->(1=bg l id seq/\0=dP l id seq/\True)/\True)/\(decide (ig l id<0)=false->(decide (0<=ig l id)&&decide (ig l id<(l.length:Int)))=true/\(decide ((l.getD (Int.toNat (ig l id)) default).seq<seq)=true->(1=bg l id seq/\0=dP l id seq/\True)/\True)/\(decide ((l.getD (Int.toNat (ig l id)) default).seq<seq)=false->(decide (0<=ig l id)&&decide (ig l id<(l.length:Int)))=true/\((seq==(l.getD (Int.toNat (ig l id)) default).seq)=true->(decide (0<=ig l id)&&decide (ig l id<(l.length:Int)))=true/\((l.getD (Int.toNat (ig l id)) default).here=true->(decide (0<=ig l id)&&decide (ig l id<(l.length:Int)))=true/\(2=bg l id seq/\(l.getD (Int.toNat (ig l id)) default).offset=dP l id seq/\True)/\True)/\((l.getD (Int.toNat (ig l id)) default).here=false->(3=bg l id seq/\0=dP l id seq/\True)/\True))/\((seq==(l.getD (Int.toNat (ig l id)) default).seq)=false->(3=bg l id seq/\0=dP l id seq/\True)/\True))))))
theorem IE (b:Bool) (l:List Producer) (id:Int) (seq:Int) (hl:l.length<=9223372036854775806):(aZ Tryz.prog (LW b l id hl) 94 [bG b l,.y (.int .u64 id),.y (.int .u64 seq)] [] (qD l id seq))=IQ b l id seq hl:=by kernel_rfl
theorem Ho (b:Bool) (l:List Producer) (id seq:Int) (hl:l.length<=9223372036854775806):(qD l id seq).Sat (au Tryz.prog 94 [bG b l,.y (.int .u64 id),.y (.int .u64 seq)] []):=by
 refine aR (ht:=(LW b l id hl)) Tryz.mixed rfl ?_
 rw [IE b l id seq hl]
 unfold IQ
 by_cases hf:bT l id=true
 · have h1:=Kz hf
   have h2:=Bl hf
   simp [bg,dP,Qz,ig,hf,h1]
   grind
 · simp [bg,dP,Qz,ig,hf]
   grind
def BO (l:List Producer):T An:=.ret (.own 0 4 0 l.length,[.row 80 4 l.length none (ah ay l)],[])
noncomputable def Eu:aC Tryz.prog:=hh _ bB bA (op1 101 2 0 (.row 80 4) bq)
def qE (l:List Producer):Prop :=
 (0=0/\0=l.length)/\(0=l.length/\ak 0 4 (fun (x x_1:Nat)=>AV.junk) (ah ay l))/\True
theorem qY (l:List Producer):(aZ Tryz.prog Eu 101 [.s (.slice none 0 0)] [] (BO l))=qE l:=by kernel_rfl
def qj (b:Bool) (l:List Producer):Prop :=
 (decide (0+l.length<=9223372036854775807)&&decide ((0+l.length)*32<=140737488355328))=true/\(0=0/\0+l.length=l.length)/\(0+l.length=l.length/\ak (0+l.length) 4 (aL 0 (fun (k j:Nat)=>AV.junk) (ah ay l)) (ah ay l))/\True
theorem qb (b:Bool) (l:List Producer):(aZ Tryz.prog Eu 101 [.yn b 4 l.length (ah ay l)] [] (BO l))=qj b l:=by kernel_rfl
theorem zy (b:Bool) (l:List Producer) (hl:l.length*32<=140737488355328):(BO l).Sat (au Tryz.prog 101 [bG b l] []):=by
 refine xG (pre:=[]) (post:=[]) (fun h0=>?_) ?_ ⟨_,rfl⟩
 · refine aR (ht:=Eu) Tryz.mixed rfl ?_
   rw [List.nil_append,qY l]
   unfold qE
   simp [h0]
 · refine aR (ht:=Eu) Tryz.mixed rfl ?_
   rw [List.nil_append,qb b l]
   unfold qj
   simp
   omega
def ixT (b:Bool) (x:Producer) (l:List Producer) (k:Nat):List AV:=mkT 19 [(0,bG b l),(1,.fn (.func 173) [] [.ip false 4 (get (ay x))]),(4,.s (.int .i64 0)),(7,.y (.int .i64 l.length)),(8,.y (.int .i64 k))]
def ixS (r:Bool×Nat):Exit×List AV×List aH:=match r.1 with
 | true=>(.ret,mkT 19 [(4,.y (.int .i64 r.2))],[])
 | false=>(.exit 0,mkT 19 [],[])
def Zq (b:Bool) (x:Producer) (l:List Producer) (k:Nat):Prop :=
 (decide ((↑k:Int)<(↑(List.length l):Int))=true->(true&&decide ((↑k:Int)<(↑(List.length l):Int)))=true/\(((List.getD l (Int.toNat (↑k:Int)) (@default Producer instInhabitedProducer)).id==x.id)=true->(bT (List.drop k l) x.id=true->((↑k:Int)=(↑(k+List.findIdx (has x.id) (List.drop k l)):Int)/\True)/\True/\true=true)/\(bT (List.drop k l) x.id=false->False))/\(((List.getD l (Int.toNat (↑k:Int)) (@default Producer instInhabitedProducer)).id==x.id)=false->∃ (j:Nat),List.length l - j<List.length l - k/\(((b=b/\List.length l=List.length l/\ak (List.length l) (4:Nat) (ah ay l) (ah ay l))/\(True/\(false=false/\(4:Nat)<=(4:Nat)/\eT (4:Nat) (Ax.get [AV.y (Value.int IntKind.u64 x.id),AV.y (Value.int IntKind.u64 x.seq),AV.y (Value.bool x.here),AV.y (Value.int IntKind.u64 x.offset)]) (Ax.get [AV.y (Value.int IntKind.u64 x.id),AV.y (Value.int IntKind.u64 x.seq),AV.y (Value.bool x.here),AV.y (Value.int IntKind.u64 x.offset)]))/\True)/\(0:Int)=(0:Int)/\(↑(List.length l):Int)=(↑(List.length l):Int)/\IntKind.wrap IntKind.i64 ((↑k:Int)+(1:Int))=(↑j:Int)/\True)/\True/\true=true)/\true=true/\(bT (List.drop j l) x.id=true->(bT (List.drop k l) x.id=true->(true,j+List.findIdx (has x.id) (List.drop j l))=(true,k+List.findIdx (has x.id) (List.drop k l)))/\(bT (List.drop k l) x.id=false->(true,j+List.findIdx (has x.id) (List.drop j l))=(false,(0:Nat))))/\(bT (List.drop j l) x.id=false->(bT (List.drop k l) x.id=true->(false,(0:Nat))=(true,k+List.findIdx (has x.id) (List.drop k l)))/\(bT (List.drop k l) x.id=false->(false,(0:Nat))=(false,(0:Nat))))))/\(decide ((↑k:Int)<(↑(List.length l):Int))=false->(bT (List.drop k l) x.id=true->False)/\(bT (List.drop k l) x.id=false->True/\True/\true=true))
theorem O_ (b:Bool) (x:Producer) (l:List Producer) (k:Nat):(cu Tryz.prog (hT _) 116 2 (fun k=>l.length - k) (ixT b x l) (fun _=>[]) [] (GJ x.id l) ixS k)=Zq b x l k:=by kernel_rfl
theorem UZ (b:Bool) (x:Producer) (l:List Producer) (hl:l.length<=9223372036854775806) (k:Nat):aQ Tryz.prog 116 2 (aS Tryz.prog 116 2) ⟨ixT b x l k,[],[]⟩ ((GJ x.id l k).map (bU [] ixS)):=by
 refine fO Tryz.mixed (fun _=>rfl) (fun k=>(O_ b x l k).mpr ?_) k
 unfold Zq
 simp
 refine ⟨fun h=>?_,fun h=>by simp [bT,jJ h]⟩
 simp (disch:=omega) only [wrap_i64]
 rw [drop_cons h]
 simp only [uE,GL]
 generalize l[k]?.getD default=y
 by_cases hx:y.id=x.id<;>simp [hx,h,cast_succ_eq]
 refine ⟨k+1,by omega,rfl,?_⟩
 grind
noncomputable def ixH (b:Bool) (x:Producer) (l:List Producer):aC Tryz.prog:=hh _ (nu 116 2 (eP (ixT b x l) (fun _=>[]) [] (GJ x.id l) ixS 0) bB) bA bq
def afT (b:Bool) (x:Producer) (l:List Producer):Prop :=
 (((b=b/\List.length l=List.length l/\ak (List.length l) (4:Nat) (ah ay l) (ah ay l))/\(True/\(false=false/\(4:Nat)<=(4:Nat)/\eT (4:Nat) (Ax.get [AV.y (Value.int IntKind.u64 x.id),AV.y (Value.int IntKind.u64 x.seq),AV.y (Value.bool x.here),AV.y (Value.int IntKind.u64 x.offset)]) (Ax.get [AV.y (Value.int IntKind.u64 x.id),AV.y (Value.int IntKind.u64 x.seq),AV.y (Value.bool x.here),AV.y (Value.int IntKind.u64 x.offset)]))/\True)/\(0:Int)=(0:Int)/\(↑(List.length l):Int)=(↑(List.length l):Int)/\(0:Int)=(0:Int)/\True)/\True/\true=true)/\aQ Tryz.prog (116:Nat) (2:Nat) (aS Tryz.prog (116:Nat) (2:Nat)) { t:=ixT b x l (0:Nat),m:=[],mv:=[]:St } (T.map (bU [] ixS) (GJ x.id l (0:Nat)))/\(bT (List.drop (0:Nat) l) x.id=true->(↑((0:Nat)+List.findIdx (has x.id) (List.drop (0:Nat) l)):Int)=ig l x.id/\True)/\(bT (List.drop (0:Nat) l) x.id=false->(-1:Int)=ig l x.id/\True)
theorem X0 (b:Bool) (x:Producer) (l:List Producer):(aZ Tryz.prog (ixH b x l) 116 [bG b l,.fn (.func 173) [] [.ip false 4 (get (ay x))]] [] (OB l x.id))=afT b x l:=by kernel_rfl
theorem ah4 (b:Bool) (x:Producer) (l:List Producer) (hl:l.length<=9223372036854775806):(OB l x.id).Sat (au Tryz.prog 116 [bG b l,.fn (.func 173) [] [.ip false 4 (get (ay x))]] []):=by
 refine aR (ht:=ixH b x l) Tryz.mixed rfl ?_
 rw [X0 b x l]
 unfold afT
 have:=UZ b x l hl 0
 simp [this,ig]
noncomputable def ixC (b:Bool) (x:Producer) (l:List Producer) (hl:l.length<=9223372036854775806):dO Tryz.prog:=⟨116,[bG b l,.fn (.func 173) [] [.ip false 4 (get (ay x))]],[],OB l x.id,ah4 b x l hl⟩
def keep (x:Producer) (y:Producer):Bool:=!(y.id==x.id)
def iB (l:List Producer) (x:Producer):List Producer:=l.filter (keep x)
structure DS (l:List Producer) (x:Producer) where
 i:Nat
 j:Nat
 L:List Producer
 len:L.length=l.length
 ij:i<=j
 jl:j<=l.length
 pre:L.take i=(l.take j).filter (keep x)
 suf:L.drop j=l.drop j
theorem DS.at {l:List Producer} {x:Producer} (q:DS l x):q.L[q.j]? = l[q.j]?:=by
 have:=congrArg (fun r:List Producer=>r[0]?) q.suf
 simpa [List.getElem?_drop] using this
theorem sM (l:List Producer) (j:Nat) (h:j<l.length):l.take (j+1)=l.take j++[l[j]?.getD default]:=by
 rw [List.take_succ_eq_append_getElem h];simp [h]
def DS.put {l:List Producer} {x:Producer} (q:DS l x) (h:q.j<l.length) (hk:¬ (l[q.j]?.getD default).id=x.id):DS l x where
 i:=q.i+1
 j:=q.j+1
 L:=q.L.set q.i (l[q.j]?.getD default)
 len:=by simp [q.len]
 ij:=by have:=q.ij;omega
 jl:=by omega
 pre:=by
  have h1:=q.ij
  have h2:=q.len
  have h3:q.i<q.L.length:=by omega
  have hk':keep x (l[q.j]?.getD default)=true:=by unfold keep;simpa using hk
  rw [sM l q.j h,List.filter_append,<- q.pre,List.take_succ_eq_append_getElem (by simpa using h3),List.filter_cons_of_pos hk',List.filter_nil]
  simp [List.take_set_of_le]
 suf:=by
  have h1:=q.ij
  have h2:=congrArg (fun r:List Producer=>r.drop 1) q.suf
  simp only [List.drop_drop] at h2
  rw [List.drop_set_of_lt (by omega)]
  exact h2
def DS.skip {l:List Producer} {x:Producer} (q:DS l x) (h:q.j<l.length) (hk:(l[q.j]?.getD default).id=x.id):DS l x where
 i:=q.i
 j:=q.j+1
 L:=q.L
 len:=q.len
 ij:=by have:=q.ij;omega
 jl:=by omega
 pre:=by
  have hk':¬ keep x (l[q.j]?.getD default)=true:=by unfold keep;simpa using hk
  rw [sM l q.j h,List.filter_append,<- q.pre,List.filter_cons_of_neg hk',List.filter_nil,List.append_nil]
 suf:=by
  have h2:=congrArg (fun r:List Producer=>r.drop 1) q.suf
  simpa only [List.drop_drop] using h2
def abW (l:List Producer) (x:Producer) (q:DS l x):List AV:=mkT 42 [(0,.own 1 4 0 l.length),(1,.fn (.func 173) [] [.ptr 0 0 0 0]),(5,.y (.int .i64 q.i)),(6,.y (.int .i64 q.j))]
def JX (l:List Producer) (x:Producer) (q:DS l x):List aH:=[.box 80 (ay x),.row 80 4 l.length none (ah ay q.L)]
def Uc (l:List Producer) (x:Producer) (_:Unit):Exit×List AV×List aH:=(.exit 0,mkT 42 [(0,.own 1 4 0 l.length),(5,.y (.int .i64 (iB l x).length))],[.box 80 (ay x),.row 80 4 l.length none (tT (iB l x).length (ah ay (iB l x)))])
def R6 (l:List Producer) (x:Producer) (q:DS l x):Prop :=
 (decide ((q.j:Int)<(l.length:Int))=true->(true&&decide ((q.j:Int)<(l.length:Int)))=true/\decide (0+Int.toNat (q.j:Int)<l.length)=true/\true=true/\True/\((!(q.L.getD (0+Int.toNat (q.j:Int)) default).id==x.id)=true->(true&&decide ((q.i:Int)<(l.length:Int)))=true/\decide (0+Int.toNat (q.i:Int)<l.length)=true/\∃ (j:DS l x),l.length - j.j<l.length - q.j/\(((0=0/\l.length=l.length)/\(True/\(0=0/\0=0)/\True)/\IntKind.i64.wrap ((q.i:Int)+1)=(j.i:Int)/\IntKind.i64.wrap ((q.j:Int)+1)=(j.j:Int)/\True)/\((x.id=x.id/\x.seq=x.seq/\x.here=x.here/\x.offset=x.offset/\True)/\(l.length=l.length/\ak l.length 4 (zS (ah ay q.L) (0+Int.toNat (q.i:Int)) 0 [AV.y (.int .u64 (q.L.getD (0+Int.toNat (q.j:Int)) default).id),AV.y (.int .u64 (q.L.getD (0+Int.toNat (q.j:Int)) default).seq),AV.y (.bool (q.L.getD (0+Int.toNat (q.j:Int)) default).here),AV.y (.int .u64 (q.L.getD (0+Int.toNat (q.j:Int)) default).offset)]) (ah ay j.L))/\True)/\true=true)/\true=true/\()=())/\((!(q.L.getD (0+Int.toNat (q.j:Int)) default).id==x.id)=false->∃ (j:DS l x),l.length - j.j<l.length - q.j/\(((0=0/\l.length=l.length)/\(True/\(0=0/\0=0)/\True)/\(q.i:Int)=(j.i:Int)/\IntKind.i64.wrap ((q.j:Int)+1)=(j.j:Int)/\True)/\((x.id=x.id/\x.seq=x.seq/\x.here=x.here/\x.offset=x.offset/\True)/\(l.length=l.length/\ak l.length 4 (ah ay q.L) (ah ay j.L))/\True)/\true=true)/\true=true/\()=()))/\(decide ((q.j:Int)<(l.length:Int))=false->((0=0/\l.length=l.length)/\(q.i:Int)=((iB l x).length:Int)/\True)/\((x.id=x.id/\x.seq=x.seq/\x.here=x.here/\x.offset=x.offset/\True)/\(l.length=l.length/\ak l.length 4 (ah ay q.L) (tT (iB l x).length (ah ay (iB l x))))/\True)/\true=true)
theorem Ns (l:List Producer) (x:Producer) (q:DS l x):(cu Tryz.prog (hT _) 172 5 (fun q:DS l x=>l.length - q.j) (abW l x) (JX l x) [2,3,4] (fun _=>.ret ()) (Uc l x) q)=R6 l x q:=by kernel_rfl
theorem Rp (l:List Producer) (x:Producer) (hl:l.length<=9223372036854775806) (q:DS l x):aQ Tryz.prog 172 5 (aS Tryz.prog 172 5) ⟨abW l x q,JX l x q,[]⟩ (T.map (bU [2,3,4] (Uc l x)) (.ret ())):=by
 refine fO (o:=fun _=>.ret ()) Tryz.mixed (fun _=>rfl) (fun q=>(Ns l x q).mpr ?_) q
 unfold R6
 have h1:=q.ij
 have h2:=q.len
 have h3:=q.at
 simp
 rw [h3]
 refine ⟨fun h=>⟨h,fun hk=>⟨by omega,q.put h hk,?_,?_,?_⟩,fun hk=>⟨q.skip h hk,?_,?_,?_⟩⟩,fun h=>⟨?_,?_⟩⟩
 · show l.length - (q.j+1)<l.length - q.j;omega
 · show IntKind.i64.wrap (↑q.i+1)=↑(q.i+1)/\IntKind.i64.wrap (↑q.j+1)=↑(q.j+1)
   rw [wrap_i64 (by omega) (by omega),wrap_i64 (by omega) (by omega)];omega
 · exact RX q.len.symm (by omega) rfl fun j hj=>by
    match j,hj with
    | 0,_=>simp [ay]
    | 1,_=>simp [ay]
    | 2,_=>simp [ay]
    | 3,_=>simp [ay]
 · show l.length - (q.j+1)<l.length - q.j;omega
 · show (q.i:Int)=q.i/\IntKind.i64.wrap (↑q.j+1)=↑(q.j+1)
   rw [wrap_i64 (by omega) (by omega)];omega
 · exact aO _ _ _
 · have hp:=congrArg List.length q.pre
   have hj:=q.jl
   rw [List.take_of_length_le (l:=l) h,List.length_take] at hp
   unfold iB
   omega
 · have hp:=q.pre
   rw [List.take_of_length_le (l:=l) h] at hp
   refine acS fun k hk hm j hj=>?_
   have e:q.L[k]? = (iB l x)[k]?:=by
    unfold iB at hm ⊢
    rw [<- hp,List.getElem?_take,if_pos]
    rw [<- hp,List.length_take] at hm;omega
   simp [ah,e]
def ac0:FuncId->Nat->Nat->Nat:=nk 172 12 3 1 noSh
theorem Qn {l:List Producer} {x:Producer} (h:bT l x.id=false):iB l x=l:=by
 unfold iB
 rw [List.filter_eq_self]
 intro a ha
 have:has x.id a=false:=by
  have h2:l.find? (has x.id)=none:=by simpa [bT] using h
  exact Bool.eq_false_iff.2 (List.find?_eq_none.1 h2 a ha)
 simpa [keep,has] using this
def DS.start (l:List Producer) (x:Producer) (h:bT l x.id=true):DS l x where
 i:=l.findIdx (has x.id)
 j:=l.findIdx (has x.id)+1
 L:=l
 len:=rfl
 ij:=by omega
 jl:=Bl h
 pre:=by
  have hlt:=Bl h
  rw [sM l _ hlt,List.filter_append,Kz h]
  have h1:has x.id (findD l x.id)=true:=by
   rw [<- Kz h]
   have:=List.findIdx_getElem (w:=hlt)
   simpa [hlt] using this
  have h2:[findD l x.id].filter (keep x)=[]:=by
   simp [keep];simpa [has] using h1
  rw [h2,List.append_nil]
  symm
  rw [List.filter_eq_self]
  intro a ha
  obtain ⟨k,hk,rfl⟩:=List.mem_iff_getElem.1 ha
  simp only [List.length_take] at hk
  have h3:=List.not_of_lt_findIdx (p:=has x.id) (xs:=l) (i:=k) (by omega)
  rw [List.getElem_take]
  simpa [keep,has] using h3
 suf:=rfl
noncomputable def ag' (l:List Producer) (x:Producer):FuncId->Nat->St->Option Job:=fun f k s =>
 match Nat.beq f 172&&Nat.beq k 5 with
 | true=>some ⟨mkT 42 [(0,.own 1 4 0 l.length),(1,.fn (.func 173) [] [.ptr 0 0 0 0]),(5,.y (.int .i64 (l.findIdx (has x.id):Nat))),(6,.y (.int .i64 (l.findIdx (has x.id)+1:Nat)))],[.box 80 (ay x),.row 80 4 l.length none (ah ay l)],T.map (bU [2,3,4] (Uc l x)) (.ret ())⟩
 | false=>none
noncomputable def afb (l:List Producer) (x:Producer) (hl:l.length<=9223372036854775806):aC Tryz.prog :=
 dS (hh _ (ag' l x) (cs1 172 1 2 (ixC false x l hl) bA) bq) ac0
def aaQ (l:List Producer) (x:Producer):T An:=.ret (.own 1 4 0 (iB l x).length,[.box 80 (ay x),.row 80 4 (iB l x).length none (ah ay (iB l x))],[1,2,3,4])
def RN (l:List Producer) (x:Producer):List aH:=[.box 80 (ay x),.row 80 4 l.length none (ah ay l)]
def ZJ (l:List Producer) (x:Producer) (hl:l.length<=9223372036854775806):Prop :=
 ((false=false/\List.length l=List.length l/\ak (List.length l) (4:Nat) (Ax.rowAt (0:Nat) (ah ay l)) (ah ay l))/\(True/\(false=false/\(4:Nat)<=(4:Nat)/\eT (4:Nat) (fun (j:Nat)=>Ax.get [AV.y (Value.int IntKind.u64 x.id),AV.y (Value.int IntKind.u64 x.seq),AV.y (Value.bool x.here),AV.y (Value.int IntKind.u64 x.offset)] ((0:Nat)+j)) (Ax.get [AV.y (Value.int IntKind.u64 x.id),AV.y (Value.int IntKind.u64 x.seq),AV.y (Value.bool x.here),AV.y (Value.int IntKind.u64 x.offset)]))/\True)/\True)/\True/\true=true/\True/\((ig l x.id==(-1:Int))=true->((0:Nat)=(0:Nat)/\List.length l=List.length (iB l x))/\(x.id=x.id/\x.seq=x.seq/\x.here=x.here/\x.offset=x.offset/\True)/\(List.length l=List.length (iB l x)/\ak (List.length l) (4:Nat) (ah ay l) (ah ay (iB l x)))/\True)/\((ig l x.id==(-1:Int))=false->((((0:Nat)=(0:Nat)/\List.length l=List.length l)/\(True/\((0:Nat)=(0:Nat)/\(0:Nat)=(0:Nat))/\True)/\ig l x.id=(↑(List.findIdx (has x.id) l):Int)/\IntKind.wrap IntKind.i64 (ig l x.id+(1:Int))=(↑(List.findIdx (has x.id) l+(1:Nat)):Int)/\True)/\((x.id=x.id/\x.seq=x.seq/\x.here=x.here/\x.offset=x.offset/\True)/\(List.length l=List.length l/\ak (List.length l) (4:Nat) (ah ay l) (ah ay l))/\True)/\true=true)/\aQ Tryz.prog (172:Nat) (5:Nat) (aS Tryz.prog (172:Nat) (5:Nat)) { t:=mkT (42:Nat) [((0:Nat),AV.own (1:Nat) (4:Nat) (0:Nat) (List.length l)),((1:Nat),AV.fn (Fn.func (173:FuncId)) [] [AV.ptr (0:Nat) (0:Nat) (0:Nat) (0:Nat)]),((5:Nat),AV.y (Value.int IntKind.i64 (↑(List.findIdx (has x.id) l):Int))),((6:Nat),AV.y (Value.int IntKind.i64 (↑(List.findIdx (has x.id) l+(1:Nat)):Int)))],m:=[aH.box (80:TypeId) (ay x),aH.row (80:TypeId) (4:Nat) (List.length l) none (ah ay l)],mv:=[]:St } (T.map (bU [(2:Nat),(3:Nat),(4:Nat)] (Uc l x)) (T.ret ()))/\(true&&decide ((↑(List.length (iB l x)):Int)<=(↑(List.length l):Int))&&decide ((↑(List.length l):Int)<=(↑(List.length l):Int)))=true/\(true&&decide ((↑(List.length (iB l x)):Int)<=(↑(List.length l):Int)))=true/\((0:Nat)=(0:Nat)/\Int.toNat (↑(List.length (iB l x)):Int) - (0:Nat)=List.length (iB l x))/\(x.id=x.id/\x.seq=x.seq/\x.here=x.here/\x.offset=x.offset/\True)/\(Int.toNat (↑(List.length (iB l x)):Int) - (0:Nat)=List.length (iB l x)/\ak (Int.toNat (↑(List.length (iB l x)):Int) - (0:Nat)) (4:Nat) (pW ((0:Nat)+Int.toNat (↑(List.length (iB l x)):Int)) (Int.toNat (↑(List.length l):Int) - Int.toNat (↑(List.length (iB l x)):Int)) (tT (List.length (iB l x)) (ah ay (iB l x)))) (ah ay (iB l x)))/\True)
theorem TJ (l:List Producer) (x:Producer) (hl:l.length<=9223372036854775806):(aZ Tryz.prog (afb l x hl) 172 [.own 1 4 0 l.length,.fn (.func 173) [] [.ptr 0 0 0 0]] (RN l x) (aaQ l x))=ZJ l x hl:=by kernel_rfl
theorem aek (l:List Producer) (x:Producer) (hl:l.length<=9223372036854775806):(aaQ l x).Sat (au Tryz.prog 172 [.own 1 4 0 l.length,.fn (.func 173) [] [.ptr 0 0 0 0]] (RN l x)):=by
 refine aR (ht:=afb l x hl) Tryz.mixed rfl ?_
 rw [TJ l x hl]
 unfold ZJ
 have hm:(iB l x).length<=l.length:=List.length_filter_le _ _
 by_cases hf:bT l x.id=true
 · have:=Rp l x hl (DS.start l x hf)
   have h2:=Bl hf
   simp [ig,hf,ay]
   refine ⟨wrap_i64 (by omega) (by omega),?_,hm,Ug (aO _ _ _) rfl⟩
   simpa [abW,JX,DS.start,ay] using this
 · have hf':bT l x.id=false:=by simpa using hf
   have e:=Qn hf'
   simp [ig,hf',ay,e]
def rising (l:List Producer):Prop:=∀ i j,i<j->j<l.length->(l.getD i default).id<(l.getD j default).id
def below (l:List Producer) (id:Int):Nat:=(l.takeWhile (fun y=>decide (y.id<id))).length
theorem Td {l:List Producer} {id:Int} {i:Nat} (h:i<=l.length) (lo:∀ k,k<i->(l.getD k default).id<id) (hi:∀ k,i<=k->k<l.length->id<=(l.getD k default).id):below l id=i:=by
 unfold below
 have e:l=l.take i++l.drop i:=(List.take_append_drop i l).symm
 have h1:∀ a∈l.take i,decide (a.id<id)=true:=by
  intro a ha
  obtain ⟨k,hk,rfl⟩:=List.mem_iff_getElem.1 ha
  simp only [List.length_take] at hk
  have:=lo k (by omega)
  have hkl:k<l.length:=by omega
  simp [hkl] at this
  simpa using this
 have h2:(l.drop i).takeWhile (fun y=>decide (y.id<id))=[]:=by
  cases hd:l.drop i with
  | nil=>rfl
  | cons y r =>
    have hil:i<l.length:=by
     have:=congrArg List.length hd
     simp at this;omega
    have:=hi i (Nat.le_refl _) hil
    rw [List.drop_eq_getElem_cons hil] at hd
    cases hd
    simp [hil] at this
    rw [List.takeWhile_cons_of_neg]
    simpa using this
 rw [e,List.takeWhile_append_of_pos h1,h2,List.append_nil,List.length_take]
 omega
theorem C9 {l:List Producer} (h:rising l) {i j:Nat} (hij:i<=j) (hj:j<l.length):(l.getD i default).id<=(l.getD j default).id:=by
 rcases Nat.lt_or_ge i j with h1 | h1
 · exact Int.le_of_lt (h i j h1 hj)
 · obtain rfl:i=j:=by omega
   exact Int.le_refl _
structure BS (l:List Producer) (x:Producer) where
 i:Nat
 j:Nat
 ij:i<=j
 jl:j<=l.length
 lo:∀ k,k<i->(l.getD k default).id<x.id
 hi:∀ k,j<=k->k<l.length->x.id<=(l.getD k default).id
def BS.up {l:List Producer} {x:Producer} (hr:rising l) (q:BS l x) (m:Nat) (h2:m<q.j) (hx:(l.getD m default).id<x.id):BS l x where
 i:=m+1
 j:=q.j
 ij:=by omega
 jl:=q.jl
 lo:=fun k hk=>by
  have:=q.jl
  have:=C9 hr (i:=k) (j:=m) (by omega) (by omega)
  omega
 hi:=q.hi
def BS.down {l:List Producer} {x:Producer} (hr:rising l) (q:BS l x) (m:Nat) (h1:q.i<=m) (h2:m<q.j) (hx:x.id<=(l.getD m default).id):BS l x where
 i:=q.i
 j:=m
 ij:=h1
 jl:=by have:=q.jl;omega
 lo:=q.lo
 hi:=fun k hk hl=>by
  have:=C9 hr (i:=m) (j:=k) hk hl
  omega
def VY (b:Bool) (l:List Producer) (x:Producer) (q:BS l x):List AV:=mkT 49 [(0,bG b l),(2,.fn (.func 175) [] []),(4,.ptr 0 0 0 0),(6,.s (.int .i64 0)),(7,.s (.bool false)),(8,.y (.int .i64 l.length)),(9,.y (.int .i64 q.i)),(10,.y (.int .i64 q.j))]
def Rf (x:Producer):List aH:=[.box 80 (ay x)]
def Wq (b:Bool) (l:List Producer) (x:Producer) (_:Unit):Exit×List AV×List aH:=(.exit 0,mkT 49 [(0,bG b l),(2,.fn (.func 175) [] []),(4,.ptr 0 0 0 0),(8,.y (.int .i64 l.length)),(9,.y (.int .i64 (below l x.id)))],Rf x)
def mO (b:Bool) (l:List Producer):Prop:=(b=b/\l.length=l.length/\ak l.length 4 (ah ay l) (ah ay l))
def ni (x:Producer):Prop:=((x.id=x.id/\x.seq=x.seq/\x.here=x.here/\x.offset=x.offset/\True)/\True)
def Af (b:Bool) (l:List Producer) (x:Producer) (q:BS l x):Prop:=((x.id != x.id)=true->∃ (j:BS l x),j.j - j.i<q.j - q.i/\(((mO b l)/\(True/\True)/\(0=0/\0=0)/\(0:Int)=0/\false=false/\(l.length:Int)=(l.length:Int)/\(q.i:Int)=(j.i:Int)/\IntKind.i64.wrap (IntKind.u64.wrap (IntKind.i64.wrap ((q.i:Int)+(q.j:Int))) / 2)=(j.j:Int)/\True)/\(ni x)/\true=true)/\true=true/\()=())
def I6 (b:Bool) (l:List Producer) (x:Producer) (q:BS l x):Prop :=
 (decide ((q.i:Int)<(q.j:Int))=true->(decide (0<=IntKind.i64.wrap (IntKind.u64.wrap (IntKind.i64.wrap ((q.i:Int)+(q.j:Int))) / 2))&&decide (IntKind.i64.wrap (IntKind.u64.wrap (IntKind.i64.wrap ((q.i:Int)+(q.j:Int))) / 2)<(l.length:Int)))=true/\(((l.getD (Int.toNat (IntKind.i64.wrap (IntKind.u64.wrap (IntKind.i64.wrap ((q.i:Int)+(q.j:Int))) / 2))) default).id != (l.getD (Int.toNat (IntKind.i64.wrap (IntKind.u64.wrap (IntKind.i64.wrap ((q.i:Int)+(q.j:Int))) / 2))) default).id)=true->(Af b l x q)/\((x.id != x.id)=false->∃ (j:BS l x),j.j - j.i<q.j - q.i/\(((mO b l)/\(True/\True)/\(0=0/\0=0)/\(0:Int)=0/\false=false/\(l.length:Int)=(l.length:Int)/\IntKind.i64.wrap (IntKind.i64.wrap (IntKind.u64.wrap (IntKind.i64.wrap ((q.i:Int)+(q.j:Int))) / 2)+1)=(j.i:Int)/\(q.j:Int)=(j.j:Int)/\True)/\(ni x)/\true=true)/\true=true/\()=()))/\(((l.getD (Int.toNat (IntKind.i64.wrap (IntKind.u64.wrap (IntKind.i64.wrap ((q.i:Int)+(q.j:Int))) / 2))) default).id != (l.getD (Int.toNat (IntKind.i64.wrap (IntKind.u64.wrap (IntKind.i64.wrap ((q.i:Int)+(q.j:Int))) / 2))) default).id)=false->(Af b l x q)/\((x.id != x.id)=false->(decide ((l.getD (Int.toNat (IntKind.i64.wrap (IntKind.u64.wrap (IntKind.i64.wrap ((q.i:Int)+(q.j:Int))) / 2))) default).id<x.id)=true->∃ (j:BS l x),j.j - j.i<q.j - q.i/\(((mO b l)/\(True/\True)/\(0=0/\0=0)/\(0:Int)=0/\false=false/\(l.length:Int)=(l.length:Int)/\IntKind.i64.wrap (IntKind.i64.wrap (IntKind.u64.wrap (IntKind.i64.wrap ((q.i:Int)+(q.j:Int))) / 2)+1)=(j.i:Int)/\(q.j:Int)=(j.j:Int)/\True)/\(ni x)/\true=true)/\true=true/\()=())/\(decide ((l.getD (Int.toNat (IntKind.i64.wrap (IntKind.u64.wrap (IntKind.i64.wrap ((q.i:Int)+(q.j:Int))) / 2))) default).id<x.id)=false->(decide (x.id<(l.getD (Int.toNat (IntKind.i64.wrap (IntKind.u64.wrap (IntKind.i64.wrap ((q.i:Int)+(q.j:Int))) / 2))) default).id)=true->∃ (j:BS l x),j.j - j.i<q.j - q.i/\(((mO b l)/\(True/\True)/\(0=0/\0=0)/\(0:Int)=0/\false=false/\(l.length:Int)=(l.length:Int)/\(q.i:Int)=(j.i:Int)/\IntKind.i64.wrap (IntKind.u64.wrap (IntKind.i64.wrap ((q.i:Int)+(q.j:Int))) / 2)=(j.j:Int)/\True)/\(ni x)/\true=true)/\true=true/\()=())/\(decide (x.id<(l.getD (Int.toNat (IntKind.i64.wrap (IntKind.u64.wrap (IntKind.i64.wrap ((q.i:Int)+(q.j:Int))) / 2))) default).id)=false->∃ (j:BS l x),j.j - j.i<q.j - q.i/\(((mO b l)/\(True/\True)/\(0=0/\0=0)/\(0:Int)=0/\false=false/\(l.length:Int)=(l.length:Int)/\(q.i:Int)=(j.i:Int)/\IntKind.i64.wrap (IntKind.u64.wrap (IntKind.i64.wrap ((q.i:Int)+(q.j:Int))) / 2)=(j.j:Int)/\True)/\(ni x)/\true=true)/\true=true/\()=())))))/\(decide ((q.i:Int)<(q.j:Int))=false->((mO b l)/\(True/\True)/\(0=0/\0=0)/\(l.length:Int)=(l.length:Int)/\(q.i:Int)=((below l x.id):Int)/\True)/\(ni x)/\true=true)
theorem zM (b:Bool) (l:List Producer) (x:Producer) (q:BS l x):(cu Tryz.prog (hT _) 174 3 (fun q:BS l x=>q.j - q.i) (VY b l x) (fun _=>Rf x) [1,2,3,4] (fun _=>.ret ()) (Wq b l x) q)=I6 b l x q:=by kernel_rfl
theorem FH (b:Bool) (l:List Producer) (x:Producer) (hl:l.length<=4611686018427387900) (hr:rising l) (q:BS l x):aQ Tryz.prog 174 3 (aS Tryz.prog 174 3) ⟨VY b l x q,Rf x,[]⟩ (T.map (bU [1,2,3,4] (Wq b l x)) (.ret ())):=by
 refine fO (o:=fun _=>.ret ()) Tryz.mixed (fun _=>rfl) (fun q=>(zM b l x q).mpr ?_) q
 unfold I6 Af ni mO
 have h1:=q.ij
 have h2:=q.jl
 obtain ⟨m,hm⟩:∃ m,m=(q.i+q.j) / 2:=⟨_,rfl⟩
 have hw:IntKind.i64.wrap (IntKind.u64.wrap (IntKind.i64.wrap (↑q.i+↑q.j)) / 2)=(m:Int):=by
  rw [wrap_i64 (n:=↑q.i+↑q.j) (by omega) (by omega),wrap_u64 (by omega) (by omega),wrap_i64 (by omega) (by omega)];omega
 simp [hw]
 refine ⟨fun h=>⟨by omega,fun hx=>⟨q.up hr m (by omega) (by simpa using hx),?_,?_,rfl⟩,fun hx=>⟨fun _=>⟨q.down hr m (by omega) (by omega) (by simpa using hx),?_,rfl,rfl⟩,fun _=>⟨q.down hr m (by omega) (by omega) (by simpa using hx),?_,rfl,rfl⟩⟩⟩,fun h=>?_⟩
 · show q.j - (m+1)<q.j - q.i;omega
 · show IntKind.i64.wrap (m+1)=((m+1:Nat):Int)
   rw [wrap_i64 (by omega) (by omega)];omega
 · show m - q.i<q.j - q.i;omega
 · show m - q.i<q.j - q.i;omega
 · have:=Td (i:=q.i) (by omega) q.lo fun k hk hl=>q.hi k (by omega) hl
   omega
def BS.start (l:List Producer) (x:Producer):BS l x:=⟨0,l.length,Nat.zero_le _,Nat.le_refl _,fun _ h=>absurd h (Nat.not_lt_zero _),fun k h1 h2=>absurd h2 (by omega)⟩
noncomputable def bsH (b:Bool) (l:List Producer) (x:Producer):aC Tryz.prog:=hh _ (nu 174 3 (eP (VY b l x) (fun _=>Rf x) [1,2,3,4] (fun _=>.ret ()) (Wq b l x) (BS.start l x)) bB) bA bq
def yj (l:List Producer) (x:Producer):Bool:=decide (below l x.id<l.length)&&(l.getD (below l x.id) default).id==x.id
def bsR (l:List Producer) (x:Producer):T An:=.ret (.tup [.y (.int .i64 (below l x.id)),.y (.bool (yj l x))],[],[])
def S_ (b:Bool) (l:List Producer) (x:Producer):Prop :=
 (((b=b/\l.length=l.length/\ak l.length 4 (ah ay l) (ah ay l))/\(True/\True)/\(0=0/\0=0)/\(0:Int)=0/\false=false/\(l.length:Int)=(l.length:Int)/\(0:Int)=0/\(l.length:Int)=(l.length:Int)/\True)/\((x.id=x.id/\x.seq=x.seq/\x.here=x.here/\x.offset=x.offset/\True)/\True)/\true=true)/\aQ Tryz.prog 174 3 (aS Tryz.prog 174 3) { t:=VY b l x (BS.start l x),m:=Rf x,mv:=[]:St } (T.map (bU [1,2,3,4] (Wq b l x)) ((fun (x:BS l x)=>T.ret ()) (BS.start l x)))/\(decide (((below l x.id):Int)<(l.length:Int))=true->(true&&decide (((below l x.id):Int)<(l.length:Int)))=true/\(((l.getD (Int.toNat ((below l x.id):Int)) default).id != (l.getD (Int.toNat ((below l x.id):Int)) default).id)=true->((x.id != x.id)=true->(((below l x.id):Int)=((below l x.id):Int)/\true=yj l x/\True)/\True)/\((x.id != x.id)=false->(((below l x.id):Int)=((below l x.id):Int)/\false=yj l x/\True)/\True))/\(((l.getD (Int.toNat ((below l x.id):Int)) default).id != (l.getD (Int.toNat ((below l x.id):Int)) default).id)=false->((x.id != x.id)=true->(((below l x.id):Int)=((below l x.id):Int)/\false=yj l x/\True)/\True)/\((x.id != x.id)=false->(decide ((l.getD (Int.toNat ((below l x.id):Int)) default).id<x.id)=true->(((below l x.id):Int)=((below l x.id):Int)/\false=yj l x/\True)/\True)/\(decide ((l.getD (Int.toNat ((below l x.id):Int)) default).id<x.id)=false->(decide (x.id<(l.getD (Int.toNat ((below l x.id):Int)) default).id)=true->(((below l x.id):Int)=((below l x.id):Int)/\false=yj l x/\True)/\True)/\(decide (x.id<(l.getD (Int.toNat ((below l x.id):Int)) default).id)=false->(((below l x.id):Int)=((below l x.id):Int)/\true=yj l x/\True)/\True)))))/\(decide (((below l x.id):Int)<(l.length:Int))=false->(((below l x.id):Int)=((below l x.id):Int)/\false=yj l x/\True)/\True)
theorem DX (b:Bool) (l:List Producer) (x:Producer):(aZ Tryz.prog (bsH b l x) 174 [bG b l,.agg (ay x),.fn (.func 175) [] []] [] (bsR l x))=S_ b l x:=by kernel_rfl
theorem abD (b:Bool) (l:List Producer) (x:Producer) (hl:l.length<=4611686018427387900) (hr:rising l):(bsR l x).Sat (au Tryz.prog 174 [bG b l,.agg (ay x),.fn (.func 175) [] []] []):=by
 refine aR (ht:=bsH b l x) Tryz.mixed rfl ?_
 rw [DX b l x]
 unfold S_
 have:=FH b l x hl hr (BS.start l x)
 simp [yj,this]
 grind
noncomputable def bsC (b:Bool) (l:List Producer) (x:Producer) (hl:l.length<=4611686018427387900) (hr:rising l):dO Tryz.prog:=⟨174,[bG b l,.agg (ay x),.fn (.func 175) [] []],[],bsR l x,abD b l x hl hr⟩
noncomputable def KQ (b:Bool) (l:List Producer) (hl:l.length*32<=140737488355328):dO Tryz.prog:=⟨101,[bG b l],[],BO l,zy b l hl⟩
noncomputable def ah1 (l:List Producer) (x:Producer) (hl:l.length<=9223372036854775806):dO Tryz.prog:=⟨172,[.own 1 4 0 l.length,.fn (.func 173) [] [.ptr 0 0 0 0]],RN l x,aaQ l x,aek l x hl⟩
theorem KS {l:List Producer} (h:rising l) (x:Producer):rising (iB l x):=by
 have key:∀ r:List Producer,rising r↔r.Pairwise (fun a b=>a.id<b.id):=by
  intro r
  rw [List.pairwise_iff_getElem]
  constructor
  · intro h i j hi hj hij
    have:=h i j hij hj
    simpa [hi,hj] using this
  · intro h i j hij hj
    have:=h i j (by omega) hj hij
    simpa [show i<r.length by omega,hj] using this
 rw [key] at h ⊢
 exact h.filter _
def aN (l:List Producer) (x:Producer):List Producer:=(iB l x).take (below (iB l x) x.id)++x::(iB l x).drop (below (iB l x) x.id)
theorem GI (l:List Producer) (x:Producer):(aN l x).length=(iB l x).length+1:=by
 unfold aN
 have:below (iB l x) x.id<=(iB l x).length:=(List.takeWhile_sublist _).length_le
 simp;omega
def rho:Go.Shelf.Ren:=⟨fun f=>match f with | 22=>177 | 29=>186 | 30=>187 | x=>x,fun t=>match t with | 24=>27 | 9=>80 | x=>x,fun x=>x⟩
theorem lay:qp Tryz.prog rho 4 32 ((Tryz.prog.info? 80).bind (·.zero) |>.getD undef) "slices.Insert[[]gazette/api.Producer,gazette/api.Producer]" where
 mixed:=by kernel_rfl
 f22:=by kernel_rfl
 ov:=fun w args=>by
  rw [show rho.f 29=186 from rfl,run_callFunc_extern (P:=Tryz.prog) (f:=186) (fn:=Tryz.f186) Tryz.func186 (by kernel_rfl) (by kernel_rfl) (by kernel_rfl) (e:=Extern.SlicesOverlaps.overlaps #[27,27] #[4]) (by kernel_rfl)]
  rfl
 t0:=by kernel_rfl
 a0:=fun w=>by kernel_rfl
 z0:=fun w=>by kernel_rfl
 v0:=fun w=>by kernel_rfl
 t3:=by kernel_rfl
 a3:=fun w=>by kernel_rfl
 z3:=fun w=>by kernel_rfl
 v3:=fun w=>by kernel_rfl
 t4:=by kernel_rfl
 a4:=fun w=>by kernel_rfl
 z4:=fun w=>by kernel_rfl
 v4:=fun w=>by kernel_rfl
 t24:=by kernel_rfl
 a24:=fun w=>by kernel_rfl
 z24:=fun w=>by kernel_rfl
 v24:=fun w=>by kernel_rfl
 z9:=fun w=>by kernel_rfl
 i9s:=by kernel_rfl
 i9:=by kernel_rfl
 pos:=by decide
 zc:=by kernel_rfl
noncomputable def RH (b:Bool) (l:List Producer) (x:Producer) (hl:l.length*32<=140737488355296) (hr:rising l):aC Tryz.prog :=
 Mr (rW (hh _ bB (cs1 165 1 1 (KQ b l (by omega)) (cs1 165 1 3 (ah1 l x (by omega)) (cs1 165 2 2 (bsC false (iB l x) x (by have:=List.length_filter_le (keep x) l;unfold iB;omega) (KS hr x)) bA))) bq) [172,177]) lay
def Yp (l:List Producer) (x:Producer):T An:=.ret (.own 0 4 0 (aN l x).length,[.row 80 4 (aN l x).length none (ah ay (aN l x))],[])
def Gl (b:Bool) (l:List Producer) (x:Producer) (hl:l.length*32<=140737488355296) (hr:rising l):Prop :=
 ((b=b/\l.length=l.length/\ak l.length 4 (ah ay l) (ah ay l))/\True)/\True/\((0=0/\l.length=l.length)/\(True/\(0=0/\0=0)/\True)/\True)/\((x.id=x.id/\x.seq=x.seq/\x.here=x.here/\x.offset=x.offset/\True)/\(l.length=l.length/\ak l.length 4 (ah ay l) (ah ay l))/\True)/\((false=false/\(iB l x).length=(iB l x).length/\ak (iB l x).length 4 (Ax.rowAt 0 (ah ay (iB l x))) (ah ay (iB l x)))/\(x.id=x.id/\x.seq=x.seq/\x.here=x.here/\x.offset=x.offset/\True)/\(True/\True)/\True)/\True/\true=true/\True/\((iB l x).length=(iB l x).length/\0<=((below (iB l x) x.id):Int)/\((below (iB l x) x.id):Int)<=((iB l x).length:Int)/\(iB l x).length+1<=9223372036854775807/\((iB l x).length+1)*32<=140737488355328)/\(0=0/\(iB l x).length+1=(aN l x).length)/\((iB l x).length+1=(aN l x).length/\ak ((iB l x).length+1) 4 (qc (Int.toNat ((below (iB l x) x.id):Int)) 1 (ah ay (iB l x)) fun (k j:Nat)=>Ax.get [AV.y (.int .u64 x.id),AV.y (.int .u64 x.seq),AV.y (.bool x.here),AV.y (.int .u64 x.offset)] (k*4+j)) (ah ay (aN l x)))/\True
theorem AO (b:Bool) (l:List Producer) (x:Producer) (hl:l.length*32<=140737488355296) (hr:rising l):(aZ Tryz.prog (RH b l x hl hr) 165 [bG b l,.agg (ay x)] [] (Yp l x))=Gl b l x hl hr:=by kernel_rfl
theorem SS (b:Bool) (l:List Producer) (x:Producer) (hl:l.length*32<=140737488355296) (hr:rising l):(Yp l x).Sat (au Tryz.prog 165 [bG b l,.agg (ay x)] []):=by
 refine aR (ht:=RH b l x hl hr) Tryz.mixed rfl ?_
 rw [AO b l x hl hr]
 unfold Gl
 have h1:(iB l x).length<=l.length:=List.length_filter_le _ _
 have h2:below (iB l x) x.id<=(iB l x).length:=(List.takeWhile_sublist _).length_le
 simp [ay,GI]
 refine ⟨⟨h2,by omega,by omega⟩,P9 rfl h2 fun j hj=>?_⟩
 match j,hj with
 | 0,_=>simp [ay]
 | 1,_=>simp [ay]
 | 2,_=>simp [ay]
 | 3,_=>simp [ay]
theorem Jy {l:List Producer}:∀ (n k:Nat),l.length - k=n->aY l k=true->∀ j,k<=j->j<l.length->Vl l j=true:=by
 intro n
 induction n with
 | zero=>intro k hk _ j h1 h2;omega
 | succ n ih =>
   intro k hk h j h1 h2
   rw [rG (by omega),Bool.and_eq_true] at h
   rcases Nat.lt_or_ge k j with h3 | h3
   · exact ih (k+1) (by omega) h.2 j (by omega) h2
   · obtain rfl:j=k:=by omega
     exact h.1
theorem kH {l:List Producer} (h:cK l=true):rising l:=by
 unfold cK at h
 rw [Bool.and_eq_true] at h
 have key:∀ j,0<j->j<l.length->(l.getD (j - 1) default).id<(l.getD j default).id:=by
  intro j h1 h2
  have:=Jy _ 0 rfl h.1 j (Nat.zero_le _) h2
  simp [Vl] at this
  rcases this.2 with h3 | h3
  · omega
  · simpa using h3
 have:∀ d i,i+d+1<l.length->(l.getD i default).id<(l.getD (i+d+1) default).id:=by
  intro d
  induction d with
  | zero=>intro i hi;exact key (i+1) (by omega) hi
  | succ d ih=>intro i hi;exact Int.lt_trans (ih i (by omega)) (key (i+(d+1)+1) (by omega) hi)
 intro i j hij hj
 obtain ⟨d,rfl⟩:∃ d,j=i+d+1:=⟨j - i - 1,by omega⟩
 exact this d i hj
noncomputable def agT (b:Bool) (l:List Producer) (x:Producer):dO Tryz.prog:=⟨165,[bG b l,.agg (ay x)],[],.need (l.length*32<=140737488355296/\rising l) (Yp l x),T.Sat.need fun h=>SS b l x h.1 h.2⟩
noncomputable def aa1 (b:Bool) (l:List Producer) (id seq:Int) (hl:l.length<=9223372036854775806):dO Tryz.prog:=⟨98,[bG b l,.y (.int .u64 id),.y (.int .u64 seq)],[],qD l id seq,MW b l id seq hl⟩
noncomputable def MR (b:Bool) (l:List Producer) (id seq:Int) (hl:l.length<=9223372036854775806):dO Tryz.prog:=⟨94,[bG b l,.y (.int .u64 id),.y (.int .u64 seq)],[],qD l id seq,Ho b l id seq hl⟩
def aP (l:List Producer) (x:Producer):Int :=
 if !cK l then 1 else if bg l x.id x.seq==4 then 151 else if !(bg l x.id x.seq==1) then 152 else if !bT l x.id&&l.length==256 then 153 else 0
def lV (l:List Producer) (x:Producer):T An:=.ite (aP l x==0)
 (.ret (.tup [.own 0 4 0 (aN l x).length,.s (.int .i64 0)],[.row 80 4 (aN l x).length none (ah ay (aN l x))],[]))
 (.ret (.tup [.s (.slice none 0 0),.y (.int .i64 (aP l x))],[],[]))
noncomputable def ZR (b:Bool) (l:List Producer) (x:Producer) (hl:l.length<=9223372036854775806):aC Tryz.prog :=
 hh _ bB (cs1 158 1 3 (Cq b l x.id hl) (cs1 158 2 5 (aa1 b l x.id x.seq hl) (cs1 158 3 1 (agI b l hl) (cs1 158 11 2 (agT b l x) bA)))) bq
def Qt (b:Bool) (l:List Producer) (x:Producer) (hl:l.length<=9223372036854775806):Prop :=
 ((b=b/\l.length=l.length/\ak l.length 4 (ah ay l) (ah ay l))/\x.id=x.id/\True)/\True/\((b=b/\l.length=l.length/\ak l.length 4 (ah ay l) (ah ay l))/\x.id=x.id/\x.seq=x.seq/\True)/\True/\((b=b/\l.length=l.length/\ak l.length 4 (ah ay l) (ah ay l))/\True)/\True/\((!cK l)=true->((aP l x==0)=true->(False/\(1:Int)=0/\True)/\False)/\((aP l x==0)=false->(True/\1=aP l x/\True)/\True))/\((!cK l)=false->((bg l x.id x.seq==4)=true->((aP l x==0)=true->(False/\(151:Int)=0/\True)/\False)/\((aP l x==0)=false->(True/\151=aP l x/\True)/\True))/\((bg l x.id x.seq==4)=false->((bg l x.id x.seq != 1)=true->((aP l x==0)=true->(False/\(152:Int)=0/\True)/\False)/\((aP l x==0)=false->(True/\152=aP l x/\True)/\True))/\((bg l x.id x.seq != 1)=false->((!bT l x.id)=true->(((l.length:Int)==256)=true->((aP l x==0)=true->(False/\(153:Int)=0/\True)/\False)/\((aP l x==0)=false->(True/\153=aP l x/\True)/\True))/\(((l.length:Int)==256)=false->((b=b/\l.length=l.length/\ak l.length 4 (ah ay l) (ah ay l))/\(x.id=x.id/\x.seq=x.seq/\x.here=x.here/\x.offset=x.offset/\True)/\True)/\True/\(l.length*32<=140737488355296/\∀ (i j:Nat),i<j->j<l.length->(l.getD i default).id<(l.getD j default).id)/\((aP l x==0)=true->((0=0/\(aN l x).length=(aN l x).length)/\(0:Int)=0/\True)/\((aN l x).length=(aN l x).length/\ak (aN l x).length 4 (ah ay (aN l x)) (ah ay (aN l x)))/\True)/\((aP l x==0)=false->False)))/\((!bT l x.id)=false->((b=b/\l.length=l.length/\ak l.length 4 (ah ay l) (ah ay l))/\(x.id=x.id/\x.seq=x.seq/\x.here=x.here/\x.offset=x.offset/\True)/\True)/\True/\(l.length*32<=140737488355296/\∀ (i j:Nat),i<j->j<l.length->(l.getD i default).id<(l.getD j default).id)/\((aP l x==0)=true->((0=0/\(aN l x).length=(aN l x).length)/\(0:Int)=0/\True)/\((aN l x).length=(aN l x).length/\ak (aN l x).length 4 (ah ay (aN l x)) (ah ay (aN l x)))/\True)/\((aP l x==0)=false->False)))))
theorem Oi (b:Bool) (l:List Producer) (x:Producer) (hl:l.length<=9223372036854775806):(aZ Tryz.prog (ZR b l x hl) 158 [bG b l,.agg (ay x)] [] (lV l x))=Qt b l x hl:=by kernel_rfl
theorem aaG (b:Bool) (l:List Producer) (x:Producer) (hl:l.length<=9223372036854775806):(lV l x).Sat (au Tryz.prog 158 [bG b l,.agg (ay x)] []):=by
 refine aR (ht:=ZR b l x hl) Tryz.mixed rfl ?_
 rw [Oi b l x hl]
 unfold Qt
 have h1:cK l=true->l.length<=256:=by unfold cK;simp
 by_cases ht:cK l=true
 · have h2:=h1 ht
   have h3:=kH ht
   by_cases h4:bg l x.id x.seq=4
   · simp [aP,ht,h4]
   · by_cases h5:bg l x.id x.seq=1
     · cases hf:bT l x.id
       · by_cases hn:l.length=256
         · simp [aP,ht,h5,hf,hn]
         · have hn':¬ ((l.length:Int)=256):=by omega
           simp [aP,ht,h5,hf,hn,hn']
           exact ⟨by omega,h3⟩
       · simp [aP,ht,h5,hf]
         exact ⟨by omega,h3⟩
     · simp [aP,ht,h4,h5]
 · simp [aP,ht]
def bY (id seq:Int) (here:Bool) (offset:Int):Producer:=⟨id,seq,here,offset⟩
noncomputable def takeC (b:Bool) (l:List Producer) (x:Producer) (hl:l.length<=9223372036854775806):dO Tryz.prog:=⟨158,[bG b l,.agg (ay x)],[],lV l x,aaG b l x hl⟩
noncomputable def VG (b:Bool) (l:List Producer) (x:Producer) (hl:l.length<=9223372036854775806):aC Tryz.prog:=hh _ bB (cs1 135 1 5 (takeC b l x hl) (cs1 139 1 4 (takeC b l x hl) bA)) bq
def Zw (b:Bool) (l:List Producer) (id:Int) (seq:Int) (o:Int) (hl:l.length<=9223372036854775806):Prop :=
 ((b=b/\l.length=l.length/\ak l.length 4 (ah ay l) (ah ay l))/\(id=id/\seq=seq/\true=true/\o=o/\True)/\True)/\True/\((aP l (bY id seq true o)==0)=true->((aP l (bY id seq true o)==0)=true->((0=0/\(aN l (bY id seq true o)).length=(aN l (bY id seq true o)).length)/\(0:Int)=0/\True)/\((aN l (bY id seq true o)).length=(aN l (bY id seq true o)).length/\ak (aN l (bY id seq true o)).length 4 (ah ay (aN l (bY id seq true o))) (ah ay (aN l (bY id seq true o))))/\True)/\((aP l (bY id seq true o)==0)=false->False))/\((aP l (bY id seq true o)==0)=false->((aP l (bY id seq true o)==0)=true->(False/\aP l (bY id seq true o)=0/\True)/\False)/\((aP l (bY id seq true o)==0)=false->(True/\aP l (bY id seq true o)=aP l (bY id seq true o)/\True)/\True))
theorem SY (b:Bool) (l:List Producer) (id:Int) (seq:Int) (o:Int) (hl:l.length<=9223372036854775806):(aZ Tryz.prog (VG b l (bY id seq true o) hl) 135 [bG b l,.y (.int .u64 id),.y (.int .u64 seq),.y (.int .u64 o)] [] (lV l (bY id seq true o)))=Zw b l id seq o hl:=by kernel_rfl
theorem adj (b:Bool) (l:List Producer) (id seq o:Int) (hl:l.length<=9223372036854775806):(lV l (bY id seq true o)).Sat (au Tryz.prog 135 [bG b l,.y (.int .u64 id),.y (.int .u64 seq),.y (.int .u64 o)] []):=by
 refine aR (ht:=VG b l (bY id seq true o) hl) Tryz.mixed rfl ?_
 rw [SY b l id seq o hl]
 unfold Zw
 simp [bY]
def SK (b:Bool) (l:List Producer) (id:Int) (seq:Int) (hl:l.length<=9223372036854775806):Prop :=
 ((b=b/\l.length=l.length/\ak l.length 4 (ah ay l) (ah ay l))/\(id=id/\seq=seq/\false=false/\(0:Int)=0/\True)/\True)/\True/\((aP l (bY id seq false 0)==0)=true->((aP l (bY id seq false 0)==0)=true->((0=0/\(aN l (bY id seq false 0)).length=(aN l (bY id seq false 0)).length)/\(0:Int)=0/\True)/\((aN l (bY id seq false 0)).length=(aN l (bY id seq false 0)).length/\ak (aN l (bY id seq false 0)).length 4 (ah ay (aN l (bY id seq false 0))) (ah ay (aN l (bY id seq false 0))))/\True)/\((aP l (bY id seq false 0)==0)=false->False))/\((aP l (bY id seq false 0)==0)=false->((aP l (bY id seq false 0)==0)=true->(False/\aP l (bY id seq false 0)=0/\True)/\False)/\((aP l (bY id seq false 0)==0)=false->(True/\aP l (bY id seq false 0)=aP l (bY id seq false 0)/\True)/\True))
theorem NW (b:Bool) (l:List Producer) (id:Int) (seq:Int) (hl:l.length<=9223372036854775806):(aZ Tryz.prog (VG b l (bY id seq false 0) hl) 139 [bG b l,.y (.int .u64 id),.y (.int .u64 seq)] [] (lV l (bY id seq false 0)))=SK b l id seq hl:=by kernel_rfl
theorem aav (b:Bool) (l:List Producer) (id seq:Int) (hl:l.length<=9223372036854775806):(lV l (bY id seq false 0)).Sat (au Tryz.prog 139 [bG b l,.y (.int .u64 id),.y (.int .u64 seq)] []):=by
 refine aR (ht:=VG b l (bY id seq false 0) hl) Tryz.mixed rfl ?_
 rw [NW b l id seq hl]
 unfold SK
 simp [bY]
def eqP (x y:Producer):Bool:=x.id==y.id&&(x.seq==y.seq&&(x.here==y.here&&(x.offset==y.offset&&true)))
def fC (a b:List Producer) (k:Nat):Bool:=(List.range' k (a.length - k)).all fun j=>eqP (a.getD j default) (b.getD j default)
def pI (a b:List Producer):Bool:=a.length==b.length&&fC a b 0
theorem FN {a b:List Producer} {k:Nat} (h:a.length<=k):fC a b k=true:=by
 unfold fC
 rw [show a.length - k=0 by omega];rfl
theorem BZ {a b:List Producer} {k:Nat} (h:k<a.length):fC a b k=(eqP (a.getD k default) (b.getD k default)&&fC a b (k+1)):=by
 unfold fC
 rw [show a.length - k=(a.length - (k+1))+1 by omega,List.range'_succ];rfl
def Yb (b1 b2:Bool) (a b:List Producer) (k:Nat):List AV:=mkT 26 [(0,bG b1 a),(1,bG b2 b),(4,.s (.bool false)),(5,.y (.int .i64 k))]
def YD (r:Bool):Exit×List AV×List aH:=match r with
 | true=>(.exit 0,mkT 26 [],[])
 | false=>(.ret,mkT 26 [(4,.s (.bool false))],[])
def Xx (a b:List Producer) (k:Nat):T Bool:=.ite (fC a b k) (.ret true) (.ret false)
def K_ (b1:Bool) (b2:Bool) (a:List Producer) (b:List Producer) (k:Nat):Prop :=
 (decide ((k:Int)<(a.length:Int))=true->(true&&decide ((k:Int)<(a.length:Int)))=true/\(true&&decide ((k:Int)<(b.length:Int)))=true/\((!((a.getD (Int.toNat (k:Int)) default).id==(b.getD (Int.toNat (k:Int)) default).id&&((a.getD (Int.toNat (k:Int)) default).seq==(b.getD (Int.toNat (k:Int)) default).seq&&((a.getD (Int.toNat (k:Int)) default).here==(b.getD (Int.toNat (k:Int)) default).here&&((a.getD (Int.toNat (k:Int)) default).offset==(b.getD (Int.toNat (k:Int)) default).offset&&true)))))=true->(fC a b k=true->False)/\(fC a b k=false->(false=false/\True)/\True/\true=true))/\((!((a.getD (Int.toNat (k:Int)) default).id==(b.getD (Int.toNat (k:Int)) default).id&&((a.getD (Int.toNat (k:Int)) default).seq==(b.getD (Int.toNat (k:Int)) default).seq&&((a.getD (Int.toNat (k:Int)) default).here==(b.getD (Int.toNat (k:Int)) default).here&&((a.getD (Int.toNat (k:Int)) default).offset==(b.getD (Int.toNat (k:Int)) default).offset&&true)))))=false->∃ j:Nat,a.length - j<a.length - k/\(((b1=b1/\a.length=a.length/\ak a.length 4 (ah ay a) (ah ay a))/\(b2=b2/\b.length=b.length/\ak b.length 4 (ah ay b) (ah ay b))/\false=false/\IntKind.i64.wrap ((k:Int)+1)=(j:Int)/\True)/\True/\true=true)/\true=true/\(fC a b j=true->(fC a b k=true->true=true)/\(fC a b k=false->true=false))/\(fC a b j=false->(fC a b k=true->false=true)/\(fC a b k=false->false=false))))/\(decide ((k:Int)<(a.length:Int))=false->(fC a b k=true->True/\True/\true=true)/\(fC a b k=false->False))
theorem JR (b1:Bool) (b2:Bool) (a:List Producer) (b:List Producer) (k:Nat):(cu Tryz.prog (hT _) 74 4 (fun k=>a.length - k) (Yb b1 b2 a b) (fun _=>[]) [] (Xx a b) YD k)=K_ b1 b2 a b k:=by kernel_rfl
theorem NR (b1 b2:Bool) (a b:List Producer) (hl:a.length<=9223372036854775806) (he:a.length=b.length) (k:Nat):aQ Tryz.prog 74 4 (aS Tryz.prog 74 4) ⟨Yb b1 b2 a b k,[],[]⟩ ((Xx a b k).map (bU [] YD)):=by
 refine fO Tryz.mixed (fun _=>rfl) (fun k=>(JR b1 b2 a b k).mpr ?_) k
 unfold K_
 simp
 refine ⟨fun h=>?_,fun h=>by simp [FN h]⟩
 rw [BZ h]
 simp (disch:=omega) only [wrap_i64]
 simp [eqP,cast_succ_eq]
 generalize a[k]?.getD default=x
 generalize b[k]?.getD default=y
 grind
def smR (a b:List Producer):T An:=.ret (.y (.bool (pI a b)),[],[])
noncomputable def smH (b1 b2:Bool) (a b:List Producer):aC Tryz.prog:=hh _ (nu 74 4 (eP (Yb b1 b2 a b) (fun _=>[]) [] (Xx a b) YD 0) bB) bA bq
def SV (b1:Bool) (b2:Bool) (a:List Producer) (b:List Producer):Prop :=
 (((a.length:Int) != (b.length:Int))=true->false=pI a b/\True)/\(((a.length:Int) != (b.length:Int))=false->(((b1=b1/\a.length=a.length/\ak a.length 4 (ah ay a) (ah ay a))/\(b2=b2/\b.length=b.length/\ak b.length 4 (ah ay b) (ah ay b))/\false=false/\(0:Int)=0/\True)/\True/\true=true)/\aQ Tryz.prog 74 4 (aS Tryz.prog 74 4) { t:=Yb b1 b2 a b 0,m:=[],mv:=[]:St } (T.map (bU [] YD) (Xx a b 0))/\(fC a b 0=true->true=pI a b/\True)/\(fC a b 0=false->false=pI a b/\True))
theorem Nr (b1:Bool) (b2:Bool) (a:List Producer) (b:List Producer):(aZ Tryz.prog (smH b1 b2 a b) 74 [bG b1 a,bG b2 b] [] (smR a b))=SV b1 b2 a b:=by kernel_rfl
theorem abn (b1 b2:Bool) (a b:List Producer) (hl:a.length<=9223372036854775806):(smR a b).Sat (au Tryz.prog 74 [bG b1 a,bG b2 b] []):=by
 refine aR (ht:=smH b1 b2 a b) Tryz.mixed rfl ?_
 rw [Nr b1 b2 a b]
 unfold SV
 by_cases he:a.length=b.length
 · have:=NR b1 b2 a b hl he 0
   simp [pI,he,this]
 · have he':¬ ((a.length:Int)=b.length):=by omega
   simp [pI,he,he']
def pV (x:Producer) (s:Bool×List Producer) (y:Producer):Bool×List Producer :=
 let s1:=if (decide (x.id<=y.id)&&!s.1)=true then (true,s.2++[x]) else s
 if y.id=x.id then s1 else (s1.1,s1.2++[y])
def bI (l:List Producer) (x:Producer) (k:Nat):Bool×List Producer:=(l.take k).foldl (pV x) (false,[])
theorem qx {l:List Producer} {x:Producer} {k:Nat} (h:k<l.length):bI l x (k+1)=pV x (bI l x k) (l[k]?.getD default):=by
 unfold bI
 rw [sM l k h,List.foldl_append];rfl
theorem o7 {l:List Producer} {x:Producer} {k:Nat} (h:l.length<=k):bI l x k=bI l x l.length:=by
 unfold bI
 rw [List.take_of_length_le h,List.take_length]
theorem wN (l:List Producer) (x:Producer):∀ k,(bI l x k).2.length<=k+(if (bI l x k).1 then 1 else 0):=by
 intro k
 induction k with
 | zero=>simp [bI]
 | succ k ih =>
   rcases Nat.lt_or_ge k l.length with h | h
   · rw [qx h]
     rcases hs:bI l x k with ⟨d,o⟩
     rw [hs] at ih
     generalize l[k]?.getD default=y
     by_cases h1:x.id<=y.id<;>cases d<;>by_cases h2:y.id=x.id<;>simp [pV,h1,h2] at ih ⊢<;>omega
   · rw [o7 (k:=k+1) (by omega),<- o7 h]
     omega
def mg (l:List Producer) (x:Producer):List Producer:=if (bI l x l.length).1 then (bI l x l.length).2 else (bI l x l.length).2++[x]
def Xr (b:Bool) (l:List Producer) (x:Producer) (k:Nat):List AV:=mkT 52 [(0,bG b l),(3,.ptr 0 0 0 0),(5,.own 1 4 0 (bI l x k).2.length),(6,.y (.bool (bI l x k).1)),(7,.y (.int .i64 k))]
def zB (l:List Producer) (x:Producer) (k:Nat):List aH:=[.box 80 (ay x),.row 80 4 (bI l x k).2.length none (ah ay (bI l x k).2)]
def mI (l:List Producer) (x:Producer) (_:Unit):Exit×List AV×List aH:=(.exit 0,mkT 52 [(3,.ptr 0 0 0 0),(5,.own 1 4 0 (bI l x l.length).2.length),(6,.y (.bool (bI l x l.length).1))],zB l x l.length)
def gK (b:Bool) (l:List Producer):Prop:=(b=b/\l.length=l.length/\ak l.length 4 (ah ay l) (ah ay l))
def lH (x:Producer):Prop:=(x.id=x.id/\x.seq=x.seq/\x.here=x.here/\x.offset=x.offset/\True)
def F4 (b:Bool) (l:List Producer) (x:Producer) (k:Nat):Prop :=
 (decide ((k:Int)<(l.length:Int))=true->(true&&decide ((k:Int)<(l.length:Int)))=true/\(decide (x.id<=(l.getD (Int.toNat (k:Int)) default).id)=true->((!(bI l x k).fst)=true->(decide ((bI l x k).snd.length=(bI l x k).snd.length)&&decide ((bI l x k).snd.length+1<=9223372036854775807)&&decide (((bI l x k).snd.length+1)*32<=140737488355328))=true/\(true&&decide ((k:Int)<(l.length:Int)))=true/\(((l.getD (Int.toNat (k:Int)) default).id != x.id)=true->(true&&decide ((k:Int)<(l.length:Int)))=true/\(decide ((bI l x k).snd.length+1=(bI l x k).snd.length+1)&&decide ((bI l x k).snd.length+1+1<=9223372036854775807)&&decide (((bI l x k).snd.length+1+1)*32<=140737488355328))=true/\∃ j:Nat,l.length - j<l.length - k/\(((gK b l)/\(0=0/\0=0)/\(0=0/\(bI l x k).snd.length+1+1=(bI l x j).snd.length)/\true=(bI l x j).fst/\IntKind.i64.wrap ((k:Int)+1)=(j:Int)/\True)/\((lH x)/\((bI l x k).snd.length+1+1=(bI l x j).snd.length/\ak ((bI l x k).snd.length+1+1) 4 (aL ((bI l x k).snd.length+1) (aL (bI l x k).snd.length (ah ay (bI l x k).snd) fun (k j:Nat)=>Ax.get [AV.y (.int .u64 x.id),AV.y (.int .u64 x.seq),AV.y (.bool x.here),AV.y (.int .u64 x.offset)] (k*4+j)) fun (k_1 j:Nat)=>Ax.get [AV.y (.int .u64 (l.getD (Int.toNat (k:Int)) default).id),AV.y (.int .u64 (l.getD (Int.toNat (k:Int)) default).seq),AV.y (.bool (l.getD (Int.toNat (k:Int)) default).here),AV.y (.int .u64 (l.getD (Int.toNat (k:Int)) default).offset)] (k_1*4+j)) (ah ay (bI l x j).snd))/\True)/\true=true)/\true=true/\()=())/\(((l.getD (Int.toNat (k:Int)) default).id != x.id)=false->∃ j:Nat,l.length - j<l.length - k/\(((gK b l)/\(0=0/\0=0)/\(0=0/\(bI l x k).snd.length+1=(bI l x j).snd.length)/\true=(bI l x j).fst/\IntKind.i64.wrap ((k:Int)+1)=(j:Int)/\True)/\((lH x)/\((bI l x k).snd.length+1=(bI l x j).snd.length/\ak ((bI l x k).snd.length+1) 4 (aL (bI l x k).snd.length (ah ay (bI l x k).snd) fun (k j:Nat)=>Ax.get [AV.y (.int .u64 x.id),AV.y (.int .u64 x.seq),AV.y (.bool x.here),AV.y (.int .u64 x.offset)] (k*4+j)) (ah ay (bI l x j).snd))/\True)/\true=true)/\true=true/\()=()))/\((!(bI l x k).fst)=false->(true&&decide ((k:Int)<(l.length:Int)))=true/\(((l.getD (Int.toNat (k:Int)) default).id != x.id)=true->(true&&decide ((k:Int)<(l.length:Int)))=true/\(decide ((bI l x k).snd.length=(bI l x k).snd.length)&&decide ((bI l x k).snd.length+1<=9223372036854775807)&&decide (((bI l x k).snd.length+1)*32<=140737488355328))=true/\∃ j:Nat,l.length - j<l.length - k/\(((gK b l)/\(0=0/\0=0)/\(0=0/\(bI l x k).snd.length+1=(bI l x j).snd.length)/\(bI l x k).fst=(bI l x j).fst/\IntKind.i64.wrap ((k:Int)+1)=(j:Int)/\True)/\((lH x)/\((bI l x k).snd.length+1=(bI l x j).snd.length/\ak ((bI l x k).snd.length+1) 4 (aL (bI l x k).snd.length (ah ay (bI l x k).snd) fun (k_1 j:Nat)=>Ax.get [AV.y (.int .u64 (l.getD (Int.toNat (k:Int)) default).id),AV.y (.int .u64 (l.getD (Int.toNat (k:Int)) default).seq),AV.y (.bool (l.getD (Int.toNat (k:Int)) default).here),AV.y (.int .u64 (l.getD (Int.toNat (k:Int)) default).offset)] (k_1*4+j)) (ah ay (bI l x j).snd))/\True)/\true=true)/\true=true/\()=())/\(((l.getD (Int.toNat (k:Int)) default).id != x.id)=false->∃ j:Nat,l.length - j<l.length - k/\(((gK b l)/\(0=0/\0=0)/\(0=0/\(bI l x k).snd.length=(bI l x j).snd.length)/\(bI l x k).fst=(bI l x j).fst/\IntKind.i64.wrap ((k:Int)+1)=(j:Int)/\True)/\((lH x)/\((bI l x k).snd.length=(bI l x j).snd.length/\ak (bI l x k).snd.length 4 (ah ay (bI l x k).snd) (ah ay (bI l x j).snd))/\True)/\true=true)/\true=true/\()=())))/\(decide (x.id<=(l.getD (Int.toNat (k:Int)) default).id)=false->(true&&decide ((k:Int)<(l.length:Int)))=true/\(((l.getD (Int.toNat (k:Int)) default).id != x.id)=true->(true&&decide ((k:Int)<(l.length:Int)))=true/\(decide ((bI l x k).snd.length=(bI l x k).snd.length)&&decide ((bI l x k).snd.length+1<=9223372036854775807)&&decide (((bI l x k).snd.length+1)*32<=140737488355328))=true/\∃ j:Nat,l.length - j<l.length - k/\(((gK b l)/\(0=0/\0=0)/\(0=0/\(bI l x k).snd.length+1=(bI l x j).snd.length)/\(bI l x k).fst=(bI l x j).fst/\IntKind.i64.wrap ((k:Int)+1)=(j:Int)/\True)/\((lH x)/\((bI l x k).snd.length+1=(bI l x j).snd.length/\ak ((bI l x k).snd.length+1) 4 (aL (bI l x k).snd.length (ah ay (bI l x k).snd) fun (k_1 j:Nat)=>Ax.get [AV.y (.int .u64 (l.getD (Int.toNat (k:Int)) default).id),AV.y (.int .u64 (l.getD (Int.toNat (k:Int)) default).seq),AV.y (.bool (l.getD (Int.toNat (k:Int)) default).here),AV.y (.int .u64 (l.getD (Int.toNat (k:Int)) default).offset)] (k_1*4+j)) (ah ay (bI l x j).snd))/\True)/\true=true)/\true=true/\()=())/\(((l.getD (Int.toNat (k:Int)) default).id != x.id)=false->∃ j:Nat,l.length - j<l.length - k/\(((gK b l)/\(0=0/\0=0)/\(0=0/\(bI l x k).snd.length=(bI l x j).snd.length)/\(bI l x k).fst=(bI l x j).fst/\IntKind.i64.wrap ((k:Int)+1)=(j:Int)/\True)/\((lH x)/\((bI l x k).snd.length=(bI l x j).snd.length/\ak (bI l x k).snd.length 4 (ah ay (bI l x k).snd) (ah ay (bI l x j).snd))/\True)/\true=true)/\true=true/\()=())))/\(decide ((k:Int)<(l.length:Int))=false->((0=0/\0=0)/\(0=0/\(bI l x k).snd.length=(bI l x l.length).snd.length)/\(bI l x k).fst=(bI l x l.length).fst/\True)/\((lH x)/\((bI l x k).snd.length=(bI l x l.length).snd.length/\ak (bI l x k).snd.length 4 (ah ay (bI l x k).snd) (ah ay (bI l x l.length).snd))/\True)/\true=true)
theorem BF (b:Bool) (l:List Producer) (x:Producer) (k:Nat):(cu Tryz.prog (hT _) 145 4 (fun k=>l.length - k) (Xr b l x) (zB l x) [1,2,3,4,5] (fun _=>.ret ()) (mI l x) k)=F4 b l x k:=by kernel_rfl
theorem Ed (b:Bool) (l:List Producer) (x:Producer) (hl:l.length*32<=140737488355200) (k:Nat) (hk:k<=l.length):aQ Tryz.prog 145 4 (aS Tryz.prog 145 4) ⟨Xr b l x k,zB l x k,[]⟩ (T.map (bU [1,2,3,4,5] (mI l x)) (.ret ())):=by
 refine fO (o:=fun _=>.ret ()) Tryz.mixed (fun _=>rfl) (fun k=>(BF b l x k).mpr ?_) k
 unfold F4 lH gK
 have hlen:=wN l x k
 have hc:∀ y:Producer,∀ j,j<4->qg (Ax.get [.y (.int .u64 y.id),.y (.int .u64 y.seq),.y (.bool y.here),.y (.int .u64 y.offset)] j) (Ax.get (ay y) j):=fun y j hj=>by
  match j,hj with
  | 0,_=>simp [ay]
  | 1,_=>simp [ay]
  | 2,_=>simp [ay]
  | 3,_=>simp [ay]
 simp
 refine ⟨fun h=>?_,fun h=>?_⟩
 · have hst:=qx (x:=x) h
   have hw:=wrap_i64 (n:=(k:Int)+1) (by omega) (by omega)
   rw [hw]
   rcases hs:bI l x k with ⟨d,o⟩
   rw [hs] at hlen hst
   generalize l[k]?.getD default=y at *
   by_cases h1:x.id<=y.id<;>cases d<;>by_cases h2:y.id=x.id<;>simp [pV,h1,h2] at hst<;>simp [h,h1,h2]<;>simp at hlen
   all_goals repeat' first | apply And.intro | refine Exists.intro (k+1) ?_ | with_reducible intro _
   all_goals try rw [hst]
   all_goals first
    | omega
    | (simp;done)
    | exact aO _ _ _
    | exact rQ (aO _ _ _) rfl (hc _)
    | (show ak _ _ _ (ah ay (o++[x,y]));rw [show o++[x,y]=o++[x]++[y] by simp];exact rQ (rQ (aO _ _ _) rfl (hc _)) (by simp) (hc _))
 · rw [o7 h];simp
end P
end Go.Proofs.YtnbhdjadlbhknaaGreatDoor
