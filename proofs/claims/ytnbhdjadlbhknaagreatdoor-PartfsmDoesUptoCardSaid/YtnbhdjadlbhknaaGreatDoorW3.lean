import Derived.Test.YtnbhdjadlbhknaaGreatDoorE12
import Derived.Test.YtnbhdjadlbhknaaGreatDoorW2
set_option linter.unusedVariables false
set_option linter.unusedSimpArgs false
set_option maxRecDepth 1000000
namespace Go.Proofs.YtnbhdjadlbhknaaGreatDoor
open Go.Ax
namespace P
def keep (x:Producer) (y:Producer):Bool:=!(y.id==x.id)
def gy (l:List Producer) (x:Producer):List Producer:=l.filter (keep x)
structure DS (l:List Producer) (x:Producer) where
 i:Nat
 j:Nat
 L:List Producer
 len:L.length=l.length
 ij:i<=j
 jl:j<=l.length
 pre:L.take i=(l.take j).filter (keep x)
 suf:L.drop j=l.drop j
theorem DS.at {l:List Producer} {x:Producer} (q:DS l x):q.L[q.j]? = l[q.j]?:=by
 have:=congrArg (fun r:List Producer=>r[0]?) q.suf
 simpa [List.getElem?_drop] using this
theorem sH (l:List Producer) (j:Nat) (h:j<l.length):l.take (j+1)=l.take j++[l[j]?.getD default]:=by
 rw [List.take_succ_eq_append_getElem h];simp [h]
def DS.put {l:List Producer} {x:Producer} (q:DS l x) (h:q.j<l.length) (hk:¬ (l[q.j]?.getD default).id=x.id):DS l x where
 i:=q.i+1
 j:=q.j+1
 L:=q.L.set q.i (l[q.j]?.getD default)
 len:=by simp [q.len]
 ij:=by have:=q.ij;omega
 jl:=by omega
 pre:=by
  have h1:=q.ij
  have h2:=q.len
  have h3:q.i<q.L.length:=by omega
  have hk':keep x (l[q.j]?.getD default)=true:=by unfold keep;simpa using hk
  rw [sH l q.j h,List.filter_append,<- q.pre,List.take_succ_eq_append_getElem (by simpa using h3),List.filter_cons_of_pos hk',List.filter_nil]
  simp [List.take_set_of_le]
 suf:=by
  have h1:=q.ij
  have h2:=congrArg (fun r:List Producer=>r.drop 1) q.suf
  simp only [List.drop_drop] at h2
  rw [List.drop_set_of_lt (by omega)]
  exact h2
def DS.skip {l:List Producer} {x:Producer} (q:DS l x) (h:q.j<l.length) (hk:(l[q.j]?.getD default).id=x.id):DS l x where
 i:=q.i
 j:=q.j+1
 L:=q.L
 len:=q.len
 ij:=by have:=q.ij;omega
 jl:=by omega
 pre:=by
  have hk':¬ keep x (l[q.j]?.getD default)=true:=by unfold keep;simpa using hk
  rw [sH l q.j h,List.filter_append,<- q.pre,List.filter_cons_of_neg hk',List.filter_nil,List.append_nil]
 suf:=by
  have h2:=congrArg (fun r:List Producer=>r.drop 1) q.suf
  simpa only [List.drop_drop] using h2
def ady (l:List Producer) (x:Producer) (q:DS l x):List AV:=mkT 42 [(0,.own 1 4 0 l.length),(1,.fn (.func 173) [] [.ptr 0 0 0 0]),(5,.y (.int .i64 q.i)),(6,.y (.int .i64 q.j))]
def KX (l:List Producer) (x:Producer) (q:DS l x):List ay:=[.box 80 (ak x),.row 80 4 l.length none (ah ak q.L)]
def YE (l:List Producer) (x:Producer) (_:Unit):Exit×List AV×List ay:=(.exit 0,mkT 42 [(0,.own 1 4 0 l.length),(5,.y (.int .i64 (gy l x).length))],[.box 80 (ak x),.row 80 4 l.length none (tV (gy l x).length (ah ak (gy l x)))])
def Vw (l:List Producer) (x:Producer) (q:DS l x):Prop :=
 (decide ((q.j:Int)<(l.length:Int))=true->(true&&decide ((q.j:Int)<(l.length:Int)))=true/\decide (0+Int.toNat (q.j:Int)<l.length)=true/\true=true/\True/\((!(q.L.getD (0+Int.toNat (q.j:Int)) default).id==x.id)=true->(true&&decide ((q.i:Int)<(l.length:Int)))=true/\decide (0+Int.toNat (q.i:Int)<l.length)=true/\∃ (j:DS l x),l.length - j.j<l.length - q.j/\(((0=0/\l.length=l.length)/\(True/\(0=0/\0=0)/\True)/\IntKind.i64.wrap ((q.i:Int)+1)=(j.i:Int)/\IntKind.i64.wrap ((q.j:Int)+1)=(j.j:Int)/\True)/\((x.id=x.id/\x.seq=x.seq/\x.here=x.here/\x.offset=x.offset/\True)/\(l.length=l.length/\aj l.length 4 (pO (ah ak q.L) (0+Int.toNat (q.i:Int)) 0 [AV.y (.int .u64 (q.L.getD (0+Int.toNat (q.j:Int)) default).id),AV.y (.int .u64 (q.L.getD (0+Int.toNat (q.j:Int)) default).seq),AV.y (.bool (q.L.getD (0+Int.toNat (q.j:Int)) default).here),AV.y (.int .u64 (q.L.getD (0+Int.toNat (q.j:Int)) default).offset)]) (ah ak j.L))/\True)/\true=true)/\true=true/\()=())/\((!(q.L.getD (0+Int.toNat (q.j:Int)) default).id==x.id)=false->∃ (j:DS l x),l.length - j.j<l.length - q.j/\(((0=0/\l.length=l.length)/\(True/\(0=0/\0=0)/\True)/\(q.i:Int)=(j.i:Int)/\IntKind.i64.wrap ((q.j:Int)+1)=(j.j:Int)/\True)/\((x.id=x.id/\x.seq=x.seq/\x.here=x.here/\x.offset=x.offset/\True)/\(l.length=l.length/\aj l.length 4 (ah ak q.L) (ah ak j.L))/\True)/\true=true)/\true=true/\()=()))/\(decide ((q.j:Int)<(l.length:Int))=false->((0=0/\l.length=l.length)/\(q.i:Int)=((gy l x).length:Int)/\True)/\((x.id=x.id/\x.seq=x.seq/\x.here=x.here/\x.offset=x.offset/\True)/\(l.length=l.length/\aj l.length 4 (ah ak q.L) (tV (gy l x).length (ah ak (gy l x))))/\True)/\true=true)
theorem OV (l:List Producer) (x:Producer) (q:DS l x):(bP Tryz.prog (hT _) 172 5 (fun q:DS l x=>l.length - q.j) (ady l x) (KX l x) [2,3,4] (fun _=>.ret ()) (YE l x) q)=Vw l x q:=by kernel_rfl
theorem Vk (l:List Producer) (x:Producer) (hl:l.length<=9223372036854775806) (q:DS l x):aL Tryz.prog 172 5 (aN Tryz.prog 172 5) ⟨ady l x q,KX l x q,[]⟩ (T.map (bJ [2,3,4] (YE l x)) (.ret ())):=by
 refine dY (o:=fun _=>.ret ()) Tryz.mixed (fun _=>rfl) (fun q=>(OV l x q).mpr ?_) q
 unfold Vw
 have h1:=q.ij
 have h2:=q.len
 have h3:=q.at
 simp
 rw [h3]
 refine ⟨fun h=>⟨h,fun hk=>⟨by omega,q.put h hk,?_,?_,?_⟩,fun hk=>⟨q.skip h hk,?_,?_,?_⟩⟩,fun h=>⟨?_,?_⟩⟩
 · show l.length - (q.j+1)<l.length - q.j;omega
 · show IntKind.i64.wrap (↑q.i+1)=↑(q.i+1)/\IntKind.i64.wrap (↑q.j+1)=↑(q.j+1)
   rw [wrap_i64 (by omega) (by omega),wrap_i64 (by omega) (by omega)];omega
 · exact M9 q.len.symm (by omega) rfl fun j hj=>by
    match j,hj with
    | 0,_=>simp [ak]
    | 1,_=>simp [ak]
    | 2,_=>simp [ak]
    | 3,_=>simp [ak]
 · show l.length - (q.j+1)<l.length - q.j;omega
 · show (q.i:Int)=q.i/\IntKind.i64.wrap (↑q.j+1)=↑(q.j+1)
   rw [wrap_i64 (by omega) (by omega)];omega
 · exact aG _ _ _
 · have hp:=congrArg List.length q.pre
   have hj:=q.jl
   rw [List.take_of_length_le (l:=l) h,List.length_take] at hp
   unfold gy
   omega
 · have hp:=q.pre
   rw [List.take_of_length_le (l:=l) h] at hp
   refine adD fun k hk hm j hj=>?_
   have e:q.L[k]? = (gy l x)[k]?:=by
    unfold gy at hm ⊢
    rw [<- hp,List.getElem?_take,if_pos]
    rw [<- hp,List.length_take] at hm;omega
   simp [ah,e]
def afO:FuncId->Nat->Nat->Nat:=uL 172 12 3 1 noSh
theorem Sg {l:List Producer} {x:Producer} (h:bA l x.id=false):gy l x=l:=by
 unfold gy
 rw [List.filter_eq_self]
 intro a ha
 have:has x.id a=false:=by
  have h2:l.find? (has x.id)=none:=by simpa [bA] using h
  exact Bool.eq_false_iff.2 (List.find?_eq_none.1 h2 a ha)
 simpa [keep,has] using this
def DS.start (l:List Producer) (x:Producer) (h:bA l x.id=true):DS l x where
 i:=l.findIdx (has x.id)
 j:=l.findIdx (has x.id)+1
 L:=l
 len:=rfl
 ij:=by omega
 jl:=zO h
 pre:=by
  have hlt:=zO h
  rw [sH l _ hlt,List.filter_append,Lg h]
  have h1:has x.id (findD l x.id)=true:=by
   rw [<- Lg h]
   have:=List.findIdx_getElem (w:=hlt)
   simpa [hlt] using this
  have h2:[findD l x.id].filter (keep x)=[]:=by
   simp [keep];simpa [has] using h1
  rw [h2,List.append_nil]
  symm
  rw [List.filter_eq_self]
  intro a ha
  obtain ⟨k,hk,rfl⟩:=List.mem_iff_getElem.1 ha
  simp only [List.length_take] at hk
  have h3:=List.not_of_lt_findIdx (p:=has x.id) (xs:=l) (i:=k) (by omega)
  rw [List.getElem_take]
  simpa [keep,has] using h3
 suf:=rfl
noncomputable def ain (l:List Producer) (x:Producer):FuncId->Nat->St->Option Job:=fun f k s =>
 match Nat.beq f 172&&Nat.beq k 5 with
 | true=>some ⟨mkT 42 [(0,.own 1 4 0 l.length),(1,.fn (.func 173) [] [.ptr 0 0 0 0]),(5,.y (.int .i64 (l.findIdx (has x.id):Nat))),(6,.y (.int .i64 (l.findIdx (has x.id)+1:Nat)))],[.box 80 (ak x),.row 80 4 l.length none (ah ak l)],T.map (bJ [2,3,4] (YE l x)) (.ret ())⟩
 | false=>none
noncomputable def ag2 (l:List Producer) (x:Producer) (hl:l.length<=9223372036854775806):aC Tryz.prog :=
 dO (hh _ (ain l x) (cs1 172 1 2 (ixC false x l hl) bN) bM) afO
def adv (l:List Producer) (x:Producer):T An:=.ret (.own 1 4 0 (gy l x).length,[.box 80 (ak x),.row 80 4 (gy l x).length none (ah ak (gy l x))],[1,2,3,4])
def Sy (l:List Producer) (x:Producer):List ay:=[.box 80 (ak x),.row 80 4 l.length none (ah ak l)]
def aa3 (l:List Producer) (x:Producer) (hl:l.length<=9223372036854775806):Prop :=
 ((false=false/\List.length l=List.length l/\aj (List.length l) (4:Nat) (Ax.rowAt (0:Nat) (ah ak l)) (ah ak l))/\(True/\(false=false/\(4:Nat)<=(4:Nat)/\gq (4:Nat) (fun (j:Nat)=>Ax.get [AV.y (Value.int IntKind.u64 x.id),AV.y (Value.int IntKind.u64 x.seq),AV.y (Value.bool x.here),AV.y (Value.int IntKind.u64 x.offset)] ((0:Nat)+j)) (Ax.get [AV.y (Value.int IntKind.u64 x.id),AV.y (Value.int IntKind.u64 x.seq),AV.y (Value.bool x.here),AV.y (Value.int IntKind.u64 x.offset)]))/\True)/\True)/\True/\true=true/\True/\((gM l x.id==(-1:Int))=true->((0:Nat)=(0:Nat)/\List.length l=List.length (gy l x))/\(x.id=x.id/\x.seq=x.seq/\x.here=x.here/\x.offset=x.offset/\True)/\(List.length l=List.length (gy l x)/\aj (List.length l) (4:Nat) (ah ak l) (ah ak (gy l x)))/\True)/\((gM l x.id==(-1:Int))=false->((((0:Nat)=(0:Nat)/\List.length l=List.length l)/\(True/\((0:Nat)=(0:Nat)/\(0:Nat)=(0:Nat))/\True)/\gM l x.id=(↑(List.findIdx (has x.id) l):Int)/\IntKind.wrap IntKind.i64 (gM l x.id+(1:Int))=(↑(List.findIdx (has x.id) l+(1:Nat)):Int)/\True)/\((x.id=x.id/\x.seq=x.seq/\x.here=x.here/\x.offset=x.offset/\True)/\(List.length l=List.length l/\aj (List.length l) (4:Nat) (ah ak l) (ah ak l))/\True)/\true=true)/\aL Tryz.prog (172:Nat) (5:Nat) (aN Tryz.prog (172:Nat) (5:Nat)) { t:=mkT (42:Nat) [((0:Nat),AV.own (1:Nat) (4:Nat) (0:Nat) (List.length l)),((1:Nat),AV.fn (Fn.func (173:FuncId)) [] [AV.ptr (0:Nat) (0:Nat) (0:Nat) (0:Nat)]),((5:Nat),AV.y (Value.int IntKind.i64 (↑(List.findIdx (has x.id) l):Int))),((6:Nat),AV.y (Value.int IntKind.i64 (↑(List.findIdx (has x.id) l+(1:Nat)):Int)))],m:=[ay.box (80:TypeId) (ak x),ay.row (80:TypeId) (4:Nat) (List.length l) none (ah ak l)],mv:=[]:St } (T.map (bJ [(2:Nat),(3:Nat),(4:Nat)] (YE l x)) (T.ret ()))/\(true&&decide ((↑(List.length (gy l x)):Int)<=(↑(List.length l):Int))&&decide ((↑(List.length l):Int)<=(↑(List.length l):Int)))=true/\(true&&decide ((↑(List.length (gy l x)):Int)<=(↑(List.length l):Int)))=true/\((0:Nat)=(0:Nat)/\Int.toNat (↑(List.length (gy l x)):Int) - (0:Nat)=List.length (gy l x))/\(x.id=x.id/\x.seq=x.seq/\x.here=x.here/\x.offset=x.offset/\True)/\(Int.toNat (↑(List.length (gy l x)):Int) - (0:Nat)=List.length (gy l x)/\aj (Int.toNat (↑(List.length (gy l x)):Int) - (0:Nat)) (4:Nat) (rP ((0:Nat)+Int.toNat (↑(List.length (gy l x)):Int)) (Int.toNat (↑(List.length l):Int) - Int.toNat (↑(List.length (gy l x)):Int)) (tV (List.length (gy l x)) (ah ak (gy l x)))) (ah ak (gy l x)))/\True)
theorem Rq (l:List Producer) (x:Producer) (hl:l.length<=9223372036854775806):(bf Tryz.prog (ag2 l x hl) 172 [.own 1 4 0 l.length,.fn (.func 173) [] [.ptr 0 0 0 0]] (Sy l x) (adv l x))=aa3 l x hl:=by kernel_rfl
theorem ae7 (l:List Producer) (x:Producer) (hl:l.length<=9223372036854775806):(adv l x).Sat (aB Tryz.prog 172 [.own 1 4 0 l.length,.fn (.func 173) [] [.ptr 0 0 0 0]] (Sy l x)):=by
 refine aP (ht:=ag2 l x hl) Tryz.mixed rfl ?_
 rw [Rq l x hl]
 unfold aa3
 have hm:(gy l x).length<=l.length:=List.length_filter_le _ _
 by_cases hf:bA l x.id=true
 · have:=Vk l x hl (DS.start l x hf)
   have h2:=zO hf
   simp [gM,hf,ak]
   refine ⟨wrap_i64 (by omega) (by omega),?_,hm,XA (aG _ _ _) rfl⟩
   simpa [ady,KX,DS.start,ak] using this
 · have hf':bA l x.id=false:=by simpa using hf
   have e:=Sg hf'
   simp [gM,hf',ak,e]
def rising (l:List Producer):Prop:=∀ i j,i<j->j<l.length->(l.getD i default).id<(l.getD j default).id
def below (l:List Producer) (id:Int):Nat:=(l.takeWhile (fun y=>decide (y.id<id))).length
theorem T9 {l:List Producer} {id:Int} {i:Nat} (h:i<=l.length) (lo:∀ k,k<i->(l.getD k default).id<id) (hi:∀ k,i<=k->k<l.length->id<=(l.getD k default).id):below l id=i:=by
 unfold below
 have e:l=l.take i++l.drop i:=(List.take_append_drop i l).symm
 have h1:∀ a∈l.take i,decide (a.id<id)=true:=by
  intro a ha
  obtain ⟨k,hk,rfl⟩:=List.mem_iff_getElem.1 ha
  simp only [List.length_take] at hk
  have:=lo k (by omega)
  have hkl:k<l.length:=by omega
  simp [hkl] at this
  simpa using this
 have h2:(l.drop i).takeWhile (fun y=>decide (y.id<id))=[]:=by
  cases hd:l.drop i with
  | nil=>rfl
  | cons y r =>
    have hil:i<l.length:=by
     have:=congrArg List.length hd
     simp at this;omega
    have:=hi i (Nat.le_refl _) hil
    rw [List.drop_eq_getElem_cons hil] at hd
    cases hd
    simp [hil] at this
    rw [List.takeWhile_cons_of_neg]
    simpa using this
 rw [e,List.takeWhile_append_of_pos h1,h2,List.append_nil,List.length_take]
 omega
theorem Dv {l:List Producer} (h:rising l) {i j:Nat} (hij:i<=j) (hj:j<l.length):(l.getD i default).id<=(l.getD j default).id:=by
 rcases Nat.lt_or_ge i j with h1 | h1
 · exact Int.le_of_lt (h i j h1 hj)
 · obtain rfl:i=j:=by omega
   exact Int.le_refl _
structure BS (l:List Producer) (x:Producer) where
 i:Nat
 j:Nat
 ij:i<=j
 jl:j<=l.length
 lo:∀ k,k<i->(l.getD k default).id<x.id
 hi:∀ k,j<=k->k<l.length->x.id<=(l.getD k default).id
def BS.up {l:List Producer} {x:Producer} (hr:rising l) (q:BS l x) (m:Nat) (h2:m<q.j) (hx:(l.getD m default).id<x.id):BS l x where
 i:=m+1
 j:=q.j
 ij:=by omega
 jl:=q.jl
 lo:=fun k hk=>by
  have:=q.jl
  have:=Dv hr (i:=k) (j:=m) (by omega) (by omega)
  omega
 hi:=q.hi
def BS.down {l:List Producer} {x:Producer} (hr:rising l) (q:BS l x) (m:Nat) (h1:q.i<=m) (h2:m<q.j) (hx:x.id<=(l.getD m default).id):BS l x where
 i:=q.i
 j:=m
 ij:=h1
 jl:=by have:=q.jl;omega
 lo:=q.lo
 hi:=fun k hk hl=>by
  have:=Dv hr (i:=m) (j:=k) hk hl
  omega
def Yu (b:Bool) (l:List Producer) (x:Producer) (q:BS l x):List AV:=mkT 49 [(0,bg b l),(2,.fn (.func 175) [] []),(4,.ptr 0 0 0 0),(6,.s (.int .i64 0)),(7,.s (.bool false)),(8,.y (.int .i64 l.length)),(9,.y (.int .i64 q.i)),(10,.y (.int .i64 q.j))]
def VK (x:Producer):List ay:=[.box 80 (ak x)]
def X8 (b:Bool) (l:List Producer) (x:Producer) (_:Unit):Exit×List AV×List ay:=(.exit 0,mkT 49 [(0,bg b l),(2,.fn (.func 175) [] []),(4,.ptr 0 0 0 0),(8,.y (.int .i64 l.length)),(9,.y (.int .i64 (below l x.id)))],VK x)
def mH (b:Bool) (l:List Producer):Prop:=(b=b/\l.length=l.length/\aj l.length 4 (ah ak l) (ah ak l))
def mQ (x:Producer):Prop:=((x.id=x.id/\x.seq=x.seq/\x.here=x.here/\x.offset=x.offset/\True)/\True)
def zV (b:Bool) (l:List Producer) (x:Producer) (q:BS l x):Prop:=((x.id != x.id)=true->∃ (j:BS l x),j.j - j.i<q.j - q.i/\(((mH b l)/\(True/\True)/\(0=0/\0=0)/\(0:Int)=0/\false=false/\(l.length:Int)=(l.length:Int)/\(q.i:Int)=(j.i:Int)/\IntKind.i64.wrap (IntKind.u64.wrap (IntKind.i64.wrap ((q.i:Int)+(q.j:Int))) / 2)=(j.j:Int)/\True)/\(mQ x)/\true=true)/\true=true/\()=())
def IX (b:Bool) (l:List Producer) (x:Producer) (q:BS l x):Prop :=
 (decide ((q.i:Int)<(q.j:Int))=true->(decide (0<=IntKind.i64.wrap (IntKind.u64.wrap (IntKind.i64.wrap ((q.i:Int)+(q.j:Int))) / 2))&&decide (IntKind.i64.wrap (IntKind.u64.wrap (IntKind.i64.wrap ((q.i:Int)+(q.j:Int))) / 2)<(l.length:Int)))=true/\(((l.getD (Int.toNat (IntKind.i64.wrap (IntKind.u64.wrap (IntKind.i64.wrap ((q.i:Int)+(q.j:Int))) / 2))) default).id != (l.getD (Int.toNat (IntKind.i64.wrap (IntKind.u64.wrap (IntKind.i64.wrap ((q.i:Int)+(q.j:Int))) / 2))) default).id)=true->(zV b l x q)/\((x.id != x.id)=false->∃ (j:BS l x),j.j - j.i<q.j - q.i/\(((mH b l)/\(True/\True)/\(0=0/\0=0)/\(0:Int)=0/\false=false/\(l.length:Int)=(l.length:Int)/\IntKind.i64.wrap (IntKind.i64.wrap (IntKind.u64.wrap (IntKind.i64.wrap ((q.i:Int)+(q.j:Int))) / 2)+1)=(j.i:Int)/\(q.j:Int)=(j.j:Int)/\True)/\(mQ x)/\true=true)/\true=true/\()=()))/\(((l.getD (Int.toNat (IntKind.i64.wrap (IntKind.u64.wrap (IntKind.i64.wrap ((q.i:Int)+(q.j:Int))) / 2))) default).id != (l.getD (Int.toNat (IntKind.i64.wrap (IntKind.u64.wrap (IntKind.i64.wrap ((q.i:Int)+(q.j:Int))) / 2))) default).id)=false->(zV b l x q)/\((x.id != x.id)=false->(decide ((l.getD (Int.toNat (IntKind.i64.wrap (IntKind.u64.wrap (IntKind.i64.wrap ((q.i:Int)+(q.j:Int))) / 2))) default).id<x.id)=true->∃ (j:BS l x),j.j - j.i<q.j - q.i/\(((mH b l)/\(True/\True)/\(0=0/\0=0)/\(0:Int)=0/\false=false/\(l.length:Int)=(l.length:Int)/\IntKind.i64.wrap (IntKind.i64.wrap (IntKind.u64.wrap (IntKind.i64.wrap ((q.i:Int)+(q.j:Int))) / 2)+1)=(j.i:Int)/\(q.j:Int)=(j.j:Int)/\True)/\(mQ x)/\true=true)/\true=true/\()=())/\(decide ((l.getD (Int.toNat (IntKind.i64.wrap (IntKind.u64.wrap (IntKind.i64.wrap ((q.i:Int)+(q.j:Int))) / 2))) default).id<x.id)=false->(decide (x.id<(l.getD (Int.toNat (IntKind.i64.wrap (IntKind.u64.wrap (IntKind.i64.wrap ((q.i:Int)+(q.j:Int))) / 2))) default).id)=true->∃ (j:BS l x),j.j - j.i<q.j - q.i/\(((mH b l)/\(True/\True)/\(0=0/\0=0)/\(0:Int)=0/\false=false/\(l.length:Int)=(l.length:Int)/\(q.i:Int)=(j.i:Int)/\IntKind.i64.wrap (IntKind.u64.wrap (IntKind.i64.wrap ((q.i:Int)+(q.j:Int))) / 2)=(j.j:Int)/\True)/\(mQ x)/\true=true)/\true=true/\()=())/\(decide (x.id<(l.getD (Int.toNat (IntKind.i64.wrap (IntKind.u64.wrap (IntKind.i64.wrap ((q.i:Int)+(q.j:Int))) / 2))) default).id)=false->∃ (j:BS l x),j.j - j.i<q.j - q.i/\(((mH b l)/\(True/\True)/\(0=0/\0=0)/\(0:Int)=0/\false=false/\(l.length:Int)=(l.length:Int)/\(q.i:Int)=(j.i:Int)/\IntKind.i64.wrap (IntKind.u64.wrap (IntKind.i64.wrap ((q.i:Int)+(q.j:Int))) / 2)=(j.j:Int)/\True)/\(mQ x)/\true=true)/\true=true/\()=())))))/\(decide ((q.i:Int)<(q.j:Int))=false->((mH b l)/\(True/\True)/\(0=0/\0=0)/\(l.length:Int)=(l.length:Int)/\(q.i:Int)=((below l x.id):Int)/\True)/\(mQ x)/\true=true)
theorem A_ (b:Bool) (l:List Producer) (x:Producer) (q:BS l x):(bP Tryz.prog (hT _) 174 3 (fun q:BS l x=>q.j - q.i) (Yu b l x) (fun _=>VK x) [1,2,3,4] (fun _=>.ret ()) (X8 b l x) q)=IX b l x q:=by kernel_rfl
theorem F6 (b:Bool) (l:List Producer) (x:Producer) (hl:l.length<=4611686018427387900) (hr:rising l) (q:BS l x):aL Tryz.prog 174 3 (aN Tryz.prog 174 3) ⟨Yu b l x q,VK x,[]⟩ (T.map (bJ [1,2,3,4] (X8 b l x)) (.ret ())):=by
 refine dY (o:=fun _=>.ret ()) Tryz.mixed (fun _=>rfl) (fun q=>(A_ b l x q).mpr ?_) q
 unfold IX zV mQ mH
 have h1:=q.ij
 have h2:=q.jl
 obtain ⟨m,hm⟩:∃ m,m=(q.i+q.j) / 2:=⟨_,rfl⟩
 have hw:IntKind.i64.wrap (IntKind.u64.wrap (IntKind.i64.wrap (↑q.i+↑q.j)) / 2)=(m:Int):=by
  rw [wrap_i64 (n:=↑q.i+↑q.j) (by omega) (by omega),wrap_u64 (by omega) (by omega),wrap_i64 (by omega) (by omega)];omega
 simp [hw]
 refine ⟨fun h=>⟨by omega,fun hx=>⟨q.up hr m (by omega) (by simpa using hx),?_,?_,rfl⟩,fun hx=>⟨fun _=>⟨q.down hr m (by omega) (by omega) (by simpa using hx),?_,rfl,rfl⟩,fun _=>⟨q.down hr m (by omega) (by omega) (by simpa using hx),?_,rfl,rfl⟩⟩⟩,fun h=>?_⟩
 · show q.j - (m+1)<q.j - q.i;omega
 · show IntKind.i64.wrap (m+1)=((m+1:Nat):Int)
   rw [wrap_i64 (by omega) (by omega)];omega
 · show m - q.i<q.j - q.i;omega
 · show m - q.i<q.j - q.i;omega
 · have:=T9 (i:=q.i) (by omega) q.lo fun k hk hl=>q.hi k (by omega) hl
   omega
def BS.start (l:List Producer) (x:Producer):BS l x:=⟨0,l.length,Nat.zero_le _,Nat.le_refl _,fun _ h=>absurd h (Nat.not_lt_zero _),fun k h1 h2=>absurd h2 (by omega)⟩
noncomputable def bsH (b:Bool) (l:List Producer) (x:Producer):aC Tryz.prog:=hh _ (mU 174 3 (dM (Yu b l x) (fun _=>VK x) [1,2,3,4] (fun _=>.ret ()) (X8 b l x) (BS.start l x)) bO) bN bM
def wO (l:List Producer) (x:Producer):Bool:=decide (below l x.id<l.length)&&(l.getD (below l x.id) default).id==x.id
def bsR (l:List Producer) (x:Producer):T An:=.ret (.tup [.y (.int .i64 (below l x.id)),.y (.bool (wO l x))],[],[])
def Ul (b:Bool) (l:List Producer) (x:Producer):Prop :=
 (((b=b/\l.length=l.length/\aj l.length 4 (ah ak l) (ah ak l))/\(True/\True)/\(0=0/\0=0)/\(0:Int)=0/\false=false/\(l.length:Int)=(l.length:Int)/\(0:Int)=0/\(l.length:Int)=(l.length:Int)/\True)/\((x.id=x.id/\x.seq=x.seq/\x.here=x.here/\x.offset=x.offset/\True)/\True)/\true=true)/\aL Tryz.prog 174 3 (aN Tryz.prog 174 3) { t:=Yu b l x (BS.start l x),m:=VK x,mv:=[]:St } (T.map (bJ [1,2,3,4] (X8 b l x)) ((fun (x:BS l x)=>T.ret ()) (BS.start l x)))/\(decide (((below l x.id):Int)<(l.length:Int))=true->(true&&decide (((below l x.id):Int)<(l.length:Int)))=true/\(((l.getD (Int.toNat ((below l x.id):Int)) default).id != (l.getD (Int.toNat ((below l x.id):Int)) default).id)=true->((x.id != x.id)=true->(((below l x.id):Int)=((below l x.id):Int)/\true=wO l x/\True)/\True)/\((x.id != x.id)=false->(((below l x.id):Int)=((below l x.id):Int)/\false=wO l x/\True)/\True))/\(((l.getD (Int.toNat ((below l x.id):Int)) default).id != (l.getD (Int.toNat ((below l x.id):Int)) default).id)=false->((x.id != x.id)=true->(((below l x.id):Int)=((below l x.id):Int)/\false=wO l x/\True)/\True)/\((x.id != x.id)=false->(decide ((l.getD (Int.toNat ((below l x.id):Int)) default).id<x.id)=true->(((below l x.id):Int)=((below l x.id):Int)/\false=wO l x/\True)/\True)/\(decide ((l.getD (Int.toNat ((below l x.id):Int)) default).id<x.id)=false->(decide (x.id<(l.getD (Int.toNat ((below l x.id):Int)) default).id)=true->(((below l x.id):Int)=((below l x.id):Int)/\false=wO l x/\True)/\True)/\(decide (x.id<(l.getD (Int.toNat ((below l x.id):Int)) default).id)=false->(((below l x.id):Int)=((below l x.id):Int)/\true=wO l x/\True)/\True)))))/\(decide (((below l x.id):Int)<(l.length:Int))=false->(((below l x.id):Int)=((below l x.id):Int)/\false=wO l x/\True)/\True)
theorem F5 (b:Bool) (l:List Producer) (x:Producer):(bf Tryz.prog (bsH b l x) 174 [bg b l,.agg (ak x),.fn (.func 175) [] []] [] (bsR l x))=Ul b l x:=by kernel_rfl
theorem aer (b:Bool) (l:List Producer) (x:Producer) (hl:l.length<=4611686018427387900) (hr:rising l):(bsR l x).Sat (aB Tryz.prog 174 [bg b l,.agg (ak x),.fn (.func 175) [] []] []):=by
 refine aP (ht:=bsH b l x) Tryz.mixed rfl ?_
 rw [F5 b l x]
 unfold Ul
 have:=F6 b l x hl hr (BS.start l x)
 simp [wO,this]
 grind
noncomputable def bsC (b:Bool) (l:List Producer) (x:Producer) (hl:l.length<=4611686018427387900) (hr:rising l):dZ Tryz.prog:=⟨174,[bg b l,.agg (ak x),.fn (.func 175) [] []],[],bsR l x,aer b l x hl hr⟩
noncomputable def QI (b:Bool) (l:List Producer) (hl:l.length*32<=140737488355328):dZ Tryz.prog:=⟨101,[bg b l],[],Cc l,y5 b l hl⟩
noncomputable def aii (l:List Producer) (x:Producer) (hl:l.length<=9223372036854775806):dZ Tryz.prog:=⟨172,[.own 1 4 0 l.length,.fn (.func 173) [] [.ptr 0 0 0 0]],Sy l x,adv l x,ae7 l x hl⟩
theorem Lj {l:List Producer} (h:rising l) (x:Producer):rising (gy l x):=by
 have key:∀ r:List Producer,rising r↔r.Pairwise (fun a b=>a.id<b.id):=by
  intro r
  rw [List.pairwise_iff_getElem]
  constructor
  · intro h i j hi hj hij
    have:=h i j hij hj
    simpa [hi,hj] using this
  · intro h i j hij hj
    have:=h i j (by omega) hj hij
    simpa [show i<r.length by omega,hj] using this
 rw [key] at h ⊢
 exact h.filter _
def aF (l:List Producer) (x:Producer):List Producer:=(gy l x).take (below (gy l x) x.id)++x::(gy l x).drop (below (gy l x) x.id)
theorem IJ (l:List Producer) (x:Producer):(aF l x).length=(gy l x).length+1:=by
 unfold aF
 have:below (gy l x) x.id<=(gy l x).length:=(List.takeWhile_sublist _).length_le
 simp;omega
def rho:Go.Shelf.Ren:=⟨fun f=>match f with | 22=>177 | 29=>186 | 30=>187 | x=>x,fun t=>match t with | 24=>27 | 9=>80 | x=>x,fun x=>x⟩
theorem lay:nD Tryz.prog rho 4 32 ((Tryz.prog.info? 80).bind (·.zero) |>.getD undef) "slices.Insert[[]gazette/api.Producer,gazette/api.Producer]" where
 mixed:=by kernel_rfl
 f22:=by kernel_rfl
 ov:=fun w args=>by
  rw [show rho.f 29=186 from rfl,run_callFunc_extern (P:=Tryz.prog) (f:=186) (fn:=Tryz.f186) Tryz.func186 (by kernel_rfl) (by kernel_rfl) (by kernel_rfl) (e:=Extern.SlicesOverlaps.overlaps #[27,27] #[4]) (by kernel_rfl)]
  rfl
 t0:=by kernel_rfl
 a0:=fun w=>by kernel_rfl
 z0:=fun w=>by kernel_rfl
 v0:=fun w=>by kernel_rfl
 t3:=by kernel_rfl
 a3:=fun w=>by kernel_rfl
 z3:=fun w=>by kernel_rfl
 v3:=fun w=>by kernel_rfl
 t4:=by kernel_rfl
 a4:=fun w=>by kernel_rfl
 z4:=fun w=>by kernel_rfl
 v4:=fun w=>by kernel_rfl
 t24:=by kernel_rfl
 a24:=fun w=>by kernel_rfl
 z24:=fun w=>by kernel_rfl
 v24:=fun w=>by kernel_rfl
 z9:=fun w=>by kernel_rfl
 i9s:=by kernel_rfl
 i9:=by kernel_rfl
 pos:=by decide
 zc:=by kernel_rfl
noncomputable def Rw (b:Bool) (l:List Producer) (x:Producer) (hl:l.length*32<=140737488355296) (hr:rising l):aC Tryz.prog :=
 Nu (nC (hh _ bO (cs1 165 1 1 (QI b l (by omega)) (cs1 165 1 3 (aii l x (by omega)) (cs1 165 2 2 (bsC false (gy l x) x (by have:=List.length_filter_le (keep x) l;unfold gy;omega) (Lj hr x)) bN))) bM) [172,177]) lay
def WY (l:List Producer) (x:Producer):T An:=.ret (.own 0 4 0 (aF l x).length,[.row 80 4 (aF l x).length none (ah ak (aF l x))],[])
def HY (b:Bool) (l:List Producer) (x:Producer) (hl:l.length*32<=140737488355296) (hr:rising l):Prop :=
 ((b=b/\l.length=l.length/\aj l.length 4 (ah ak l) (ah ak l))/\True)/\True/\((0=0/\l.length=l.length)/\(True/\(0=0/\0=0)/\True)/\True)/\((x.id=x.id/\x.seq=x.seq/\x.here=x.here/\x.offset=x.offset/\True)/\(l.length=l.length/\aj l.length 4 (ah ak l) (ah ak l))/\True)/\((false=false/\(gy l x).length=(gy l x).length/\aj (gy l x).length 4 (Ax.rowAt 0 (ah ak (gy l x))) (ah ak (gy l x)))/\(x.id=x.id/\x.seq=x.seq/\x.here=x.here/\x.offset=x.offset/\True)/\(True/\True)/\True)/\True/\true=true/\True/\((gy l x).length=(gy l x).length/\0<=((below (gy l x) x.id):Int)/\((below (gy l x) x.id):Int)<=((gy l x).length:Int)/\(gy l x).length+1<=9223372036854775807/\((gy l x).length+1)*32<=140737488355328)/\(0=0/\(gy l x).length+1=(aF l x).length)/\((gy l x).length+1=(aF l x).length/\aj ((gy l x).length+1) 4 (qb (Int.toNat ((below (gy l x) x.id):Int)) 1 (ah ak (gy l x)) fun (k j:Nat)=>Ax.get [AV.y (.int .u64 x.id),AV.y (.int .u64 x.seq),AV.y (.bool x.here),AV.y (.int .u64 x.offset)] (k*4+j)) (ah ak (aF l x)))/\True
theorem zM (b:Bool) (l:List Producer) (x:Producer) (hl:l.length*32<=140737488355296) (hr:rising l):(bf Tryz.prog (Rw b l x hl hr) 165 [bg b l,.agg (ak x)] [] (WY l x))=HY b l x hl hr:=by kernel_rfl
theorem RL (b:Bool) (l:List Producer) (x:Producer) (hl:l.length*32<=140737488355296) (hr:rising l):(WY l x).Sat (aB Tryz.prog 165 [bg b l,.agg (ak x)] []):=by
 refine aP (ht:=Rw b l x hl hr) Tryz.mixed rfl ?_
 rw [zM b l x hl hr]
 unfold HY
 have h1:(gy l x).length<=l.length:=List.length_filter_le _ _
 have h2:below (gy l x) x.id<=(gy l x).length:=(List.takeWhile_sublist _).length_le
 simp [ak,IJ]
 refine ⟨⟨h2,by omega,by omega⟩,TH rfl h2 fun j hj=>?_⟩
 match j,hj with
 | 0,_=>simp [ak]
 | 1,_=>simp [ak]
 | 2,_=>simp [ak]
 | 3,_=>simp [ak]
theorem Bo {l:List Producer}:∀ (n k:Nat),l.length - k=n->aV l k=true->∀ j,k<=j->j<l.length->TN l j=true:=by
 intro n
 induction n with
 | zero=>intro k hk _ j h1 h2;omega
 | succ n ih =>
   intro k hk h j h1 h2
   rw [qG (by omega),Bool.and_eq_true] at h
   rcases Nat.lt_or_ge k j with h3 | h3
   · exact ih (k+1) (by omega) h.2 j (by omega) h2
   · obtain rfl:j=k:=by omega
     exact h.1
theorem gG {l:List Producer} (h:bE l=true):rising l:=by
 unfold bE at h
 rw [Bool.and_eq_true] at h
 have key:∀ j,0<j->j<l.length->(l.getD (j - 1) default).id<(l.getD j default).id:=by
  intro j h1 h2
  have:=Bo _ 0 rfl h.1 j (Nat.zero_le _) h2
  simp [TN] at this
  rcases this.2 with h3 | h3
  · omega
  · simpa using h3
 have:∀ d i,i+d+1<l.length->(l.getD i default).id<(l.getD (i+d+1) default).id:=by
  intro d
  induction d with
  | zero=>intro i hi;exact key (i+1) (by omega) hi
  | succ d ih=>intro i hi;exact Int.lt_trans (ih i (by omega)) (key (i+(d+1)+1) (by omega) hi)
 intro i j hij hj
 obtain ⟨d,rfl⟩:∃ d,j=i+d+1:=⟨j - i - 1,by omega⟩
 exact this d i hj
noncomputable def ahM (b:Bool) (l:List Producer) (x:Producer):dZ Tryz.prog:=⟨165,[bg b l,.agg (ak x)],[],.need (l.length*32<=140737488355296/\rising l) (WY l x),T.Sat.need fun h=>RL b l x h.1 h.2⟩
noncomputable def aed (b:Bool) (l:List Producer) (id seq:Int) (hl:l.length<=9223372036854775806):dZ Tryz.prog:=⟨98,[bg b l,.y (.int .u64 id),.y (.int .u64 seq)],[],ru l id seq,Nq b l id seq hl⟩
noncomputable def NA (b:Bool) (l:List Producer) (id seq:Int) (hl:l.length<=9223372036854775806):dZ Tryz.prog:=⟨94,[bg b l,.y (.int .u64 id),.y (.int .u64 seq)],[],ru l id seq,GI b l id seq hl⟩
def aI (l:List Producer) (x:Producer):Int :=
 if !bE l then 1 else if aS l x.id x.seq==4 then 151 else if !(aS l x.id x.seq==1) then 152 else if !bA l x.id&&l.length==256 then 153 else 0
def jP (l:List Producer) (x:Producer):T An:=.ite (aI l x==0)
 (.ret (.tup [.own 0 4 0 (aF l x).length,.s (.int .i64 0)],[.row 80 4 (aF l x).length none (ah ak (aF l x))],[]))
 (.ret (.tup [.s (.slice none 0 0),.y (.int .i64 (aI l x))],[],[]))
noncomputable def aaU (b:Bool) (l:List Producer) (x:Producer) (hl:l.length<=9223372036854775806):aC Tryz.prog :=
 hh _ bO (cs1 158 1 3 (Dt b l x.id hl) (cs1 158 2 5 (aed b l x.id x.seq hl) (cs1 158 3 1 (aiu b l hl) (cs1 158 11 2 (ahM b l x) bN)))) bM
def Qr (b:Bool) (l:List Producer) (x:Producer) (hl:l.length<=9223372036854775806):Prop :=
 ((b=b/\l.length=l.length/\aj l.length 4 (ah ak l) (ah ak l))/\x.id=x.id/\True)/\True/\((b=b/\l.length=l.length/\aj l.length 4 (ah ak l) (ah ak l))/\x.id=x.id/\x.seq=x.seq/\True)/\True/\((b=b/\l.length=l.length/\aj l.length 4 (ah ak l) (ah ak l))/\True)/\True/\((!bE l)=true->((aI l x==0)=true->(False/\(1:Int)=0/\True)/\False)/\((aI l x==0)=false->(True/\1=aI l x/\True)/\True))/\((!bE l)=false->((aS l x.id x.seq==4)=true->((aI l x==0)=true->(False/\(151:Int)=0/\True)/\False)/\((aI l x==0)=false->(True/\151=aI l x/\True)/\True))/\((aS l x.id x.seq==4)=false->((aS l x.id x.seq != 1)=true->((aI l x==0)=true->(False/\(152:Int)=0/\True)/\False)/\((aI l x==0)=false->(True/\152=aI l x/\True)/\True))/\((aS l x.id x.seq != 1)=false->((!bA l x.id)=true->(((l.length:Int)==256)=true->((aI l x==0)=true->(False/\(153:Int)=0/\True)/\False)/\((aI l x==0)=false->(True/\153=aI l x/\True)/\True))/\(((l.length:Int)==256)=false->((b=b/\l.length=l.length/\aj l.length 4 (ah ak l) (ah ak l))/\(x.id=x.id/\x.seq=x.seq/\x.here=x.here/\x.offset=x.offset/\True)/\True)/\True/\(l.length*32<=140737488355296/\∀ (i j:Nat),i<j->j<l.length->(l.getD i default).id<(l.getD j default).id)/\((aI l x==0)=true->((0=0/\(aF l x).length=(aF l x).length)/\(0:Int)=0/\True)/\((aF l x).length=(aF l x).length/\aj (aF l x).length 4 (ah ak (aF l x)) (ah ak (aF l x)))/\True)/\((aI l x==0)=false->False)))/\((!bA l x.id)=false->((b=b/\l.length=l.length/\aj l.length 4 (ah ak l) (ah ak l))/\(x.id=x.id/\x.seq=x.seq/\x.here=x.here/\x.offset=x.offset/\True)/\True)/\True/\(l.length*32<=140737488355296/\∀ (i j:Nat),i<j->j<l.length->(l.getD i default).id<(l.getD j default).id)/\((aI l x==0)=true->((0=0/\(aF l x).length=(aF l x).length)/\(0:Int)=0/\True)/\((aF l x).length=(aF l x).length/\aj (aF l x).length 4 (ah ak (aF l x)) (ah ak (aF l x)))/\True)/\((aI l x==0)=false->False)))))
theorem OX (b:Bool) (l:List Producer) (x:Producer) (hl:l.length<=9223372036854775806):(bf Tryz.prog (aaU b l x hl) 158 [bg b l,.agg (ak x)] [] (jP l x))=Qr b l x hl:=by kernel_rfl
theorem ad2 (b:Bool) (l:List Producer) (x:Producer) (hl:l.length<=9223372036854775806):(jP l x).Sat (aB Tryz.prog 158 [bg b l,.agg (ak x)] []):=by
 refine aP (ht:=aaU b l x hl) Tryz.mixed rfl ?_
 rw [OX b l x hl]
 unfold Qr
 have h1:bE l=true->l.length<=256:=by unfold bE;simp
 by_cases ht:bE l=true
 · have h2:=h1 ht
   have h3:=gG ht
   by_cases h4:aS l x.id x.seq=4
   · simp [aI,ht,h4]
   · by_cases h5:aS l x.id x.seq=1
     · cases hf:bA l x.id
       · by_cases hn:l.length=256
         · simp [aI,ht,h5,hf,hn]
         · have hn':¬ ((l.length:Int)=256):=by omega
           simp [aI,ht,h5,hf,hn,hn']
           exact ⟨by omega,h3⟩
       · simp [aI,ht,h5,hf]
         exact ⟨by omega,h3⟩
     · simp [aI,ht,h4,h5]
 · simp [aI,ht]
def bK (id seq:Int) (here:Bool) (offset:Int):Producer:=⟨id,seq,here,offset⟩
noncomputable def takeC (b:Bool) (l:List Producer) (x:Producer) (hl:l.length<=9223372036854775806):dZ Tryz.prog:=⟨158,[bg b l,.agg (ak x)],[],jP l x,ad2 b l x hl⟩
noncomputable def ZT (b:Bool) (l:List Producer) (x:Producer) (hl:l.length<=9223372036854775806):aC Tryz.prog:=hh _ bO (cs1 135 1 5 (takeC b l x hl) (cs1 139 1 4 (takeC b l x hl) bN)) bM
def abW (b:Bool) (l:List Producer) (id:Int) (seq:Int) (o:Int) (hl:l.length<=9223372036854775806):Prop :=
 ((b=b/\l.length=l.length/\aj l.length 4 (ah ak l) (ah ak l))/\(id=id/\seq=seq/\true=true/\o=o/\True)/\True)/\True/\((aI l (bK id seq true o)==0)=true->((aI l (bK id seq true o)==0)=true->((0=0/\(aF l (bK id seq true o)).length=(aF l (bK id seq true o)).length)/\(0:Int)=0/\True)/\((aF l (bK id seq true o)).length=(aF l (bK id seq true o)).length/\aj (aF l (bK id seq true o)).length 4 (ah ak (aF l (bK id seq true o))) (ah ak (aF l (bK id seq true o))))/\True)/\((aI l (bK id seq true o)==0)=false->False))/\((aI l (bK id seq true o)==0)=false->((aI l (bK id seq true o)==0)=true->(False/\aI l (bK id seq true o)=0/\True)/\False)/\((aI l (bK id seq true o)==0)=false->(True/\aI l (bK id seq true o)=aI l (bK id seq true o)/\True)/\True))
theorem V_ (b:Bool) (l:List Producer) (id:Int) (seq:Int) (o:Int) (hl:l.length<=9223372036854775806):(bf Tryz.prog (ZT b l (bK id seq true o) hl) 135 [bg b l,.y (.int .u64 id),.y (.int .u64 seq),.y (.int .u64 o)] [] (jP l (bK id seq true o)))=abW b l id seq o hl:=by kernel_rfl
theorem aax (b:Bool) (l:List Producer) (id seq o:Int) (hl:l.length<=9223372036854775806):(jP l (bK id seq true o)).Sat (aB Tryz.prog 135 [bg b l,.y (.int .u64 id),.y (.int .u64 seq),.y (.int .u64 o)] []):=by
 refine aP (ht:=ZT b l (bK id seq true o) hl) Tryz.mixed rfl ?_
 rw [V_ b l id seq o hl]
 unfold abW
 simp [bK]
def Q5 (b:Bool) (l:List Producer) (id:Int) (seq:Int) (hl:l.length<=9223372036854775806):Prop :=
 ((b=b/\l.length=l.length/\aj l.length 4 (ah ak l) (ah ak l))/\(id=id/\seq=seq/\false=false/\(0:Int)=0/\True)/\True)/\True/\((aI l (bK id seq false 0)==0)=true->((aI l (bK id seq false 0)==0)=true->((0=0/\(aF l (bK id seq false 0)).length=(aF l (bK id seq false 0)).length)/\(0:Int)=0/\True)/\((aF l (bK id seq false 0)).length=(aF l (bK id seq false 0)).length/\aj (aF l (bK id seq false 0)).length 4 (ah ak (aF l (bK id seq false 0))) (ah ak (aF l (bK id seq false 0))))/\True)/\((aI l (bK id seq false 0)==0)=false->False))/\((aI l (bK id seq false 0)==0)=false->((aI l (bK id seq false 0)==0)=true->(False/\aI l (bK id seq false 0)=0/\True)/\False)/\((aI l (bK id seq false 0)==0)=false->(True/\aI l (bK id seq false 0)=aI l (bK id seq false 0)/\True)/\True))
theorem Pn (b:Bool) (l:List Producer) (id:Int) (seq:Int) (hl:l.length<=9223372036854775806):(bf Tryz.prog (ZT b l (bK id seq false 0) hl) 139 [bg b l,.y (.int .u64 id),.y (.int .u64 seq)] [] (jP l (bK id seq false 0)))=Q5 b l id seq hl:=by kernel_rfl
theorem Vz (b:Bool) (l:List Producer) (id seq:Int) (hl:l.length<=9223372036854775806):(jP l (bK id seq false 0)).Sat (aB Tryz.prog 139 [bg b l,.y (.int .u64 id),.y (.int .u64 seq)] []):=by
 refine aP (ht:=ZT b l (bK id seq false 0) hl) Tryz.mixed rfl ?_
 rw [Pn b l id seq hl]
 unfold Q5
 simp [bK]
def eqP (x y:Producer):Bool:=x.id==y.id&&(x.seq==y.seq&&(x.here==y.here&&(x.offset==y.offset&&true)))
def dP (a b:List Producer) (k:Nat):Bool:=(List.range' k (a.length - k)).all fun j=>eqP (a.getD j default) (b.getD j default)
def kR (a b:List Producer):Bool:=a.length==b.length&&dP a b 0
theorem FE {a b:List Producer} {k:Nat} (h:a.length<=k):dP a b k=true:=by
 unfold dP
 rw [show a.length - k=0 by omega];rfl
theorem Cj {a b:List Producer} {k:Nat} (h:k<a.length):dP a b k=(eqP (a.getD k default) (b.getD k default)&&dP a b (k+1)):=by
 unfold dP
 rw [show a.length - k=(a.length - (k+1))+1 by omega,List.range'_succ];rfl
def YC (b1 b2:Bool) (a b:List Producer) (k:Nat):List AV:=mkT 26 [(0,bg b1 a),(1,bg b2 b),(4,.s (.bool false)),(5,.y (.int .i64 k))]
def smS (r:Bool):Exit×List AV×List ay:=match r with
 | true=>(.exit 0,mkT 26 [],[])
 | false=>(.ret,mkT 26 [(4,.s (.bool false))],[])
def YB (a b:List Producer) (k:Nat):T Bool:=.ite (dP a b k) (.ret true) (.ret false)
def M_ (b1:Bool) (b2:Bool) (a:List Producer) (b:List Producer) (k:Nat):Prop :=
 (decide ((k:Int)<(a.length:Int))=true->(true&&decide ((k:Int)<(a.length:Int)))=true/\(true&&decide ((k:Int)<(b.length:Int)))=true/\((!((a.getD (Int.toNat (k:Int)) default).id==(b.getD (Int.toNat (k:Int)) default).id&&((a.getD (Int.toNat (k:Int)) default).seq==(b.getD (Int.toNat (k:Int)) default).seq&&((a.getD (Int.toNat (k:Int)) default).here==(b.getD (Int.toNat (k:Int)) default).here&&((a.getD (Int.toNat (k:Int)) default).offset==(b.getD (Int.toNat (k:Int)) default).offset&&true)))))=true->(dP a b k=true->False)/\(dP a b k=false->(false=false/\True)/\True/\true=true))/\((!((a.getD (Int.toNat (k:Int)) default).id==(b.getD (Int.toNat (k:Int)) default).id&&((a.getD (Int.toNat (k:Int)) default).seq==(b.getD (Int.toNat (k:Int)) default).seq&&((a.getD (Int.toNat (k:Int)) default).here==(b.getD (Int.toNat (k:Int)) default).here&&((a.getD (Int.toNat (k:Int)) default).offset==(b.getD (Int.toNat (k:Int)) default).offset&&true)))))=false->∃ j:Nat,a.length - j<a.length - k/\(((b1=b1/\a.length=a.length/\aj a.length 4 (ah ak a) (ah ak a))/\(b2=b2/\b.length=b.length/\aj b.length 4 (ah ak b) (ah ak b))/\false=false/\IntKind.i64.wrap ((k:Int)+1)=(j:Int)/\True)/\True/\true=true)/\true=true/\(dP a b j=true->(dP a b k=true->true=true)/\(dP a b k=false->true=false))/\(dP a b j=false->(dP a b k=true->false=true)/\(dP a b k=false->false=false))))/\(decide ((k:Int)<(a.length:Int))=false->(dP a b k=true->True/\True/\true=true)/\(dP a b k=false->False))
theorem KC (b1:Bool) (b2:Bool) (a:List Producer) (b:List Producer) (k:Nat):(bP Tryz.prog (hT _) 74 4 (fun k=>a.length - k) (YC b1 b2 a b) (fun _=>[]) [] (YB a b) smS k)=M_ b1 b2 a b k:=by kernel_rfl
theorem Po (b1 b2:Bool) (a b:List Producer) (hl:a.length<=9223372036854775806) (he:a.length=b.length) (k:Nat):aL Tryz.prog 74 4 (aN Tryz.prog 74 4) ⟨YC b1 b2 a b k,[],[]⟩ ((YB a b k).map (bJ [] smS)):=by
 refine dY Tryz.mixed (fun _=>rfl) (fun k=>(KC b1 b2 a b k).mpr ?_) k
 unfold M_
 simp
 refine ⟨fun h=>?_,fun h=>by simp [FE h]⟩
 rw [Cj h]
 simp (disch:=omega) only [wrap_i64]
 simp [eqP,cast_succ_eq]
 generalize a[k]?.getD default=x
 generalize b[k]?.getD default=y
 grind
def smR (a b:List Producer):T An:=.ret (.y (.bool (kR a b)),[],[])
noncomputable def smH (b1 b2:Bool) (a b:List Producer):aC Tryz.prog:=hh _ (mU 74 4 (dM (YC b1 b2 a b) (fun _=>[]) [] (YB a b) smS 0) bO) bN bM
def R7 (b1:Bool) (b2:Bool) (a:List Producer) (b:List Producer):Prop :=
 (((a.length:Int) != (b.length:Int))=true->false=kR a b/\True)/\(((a.length:Int) != (b.length:Int))=false->(((b1=b1/\a.length=a.length/\aj a.length 4 (ah ak a) (ah ak a))/\(b2=b2/\b.length=b.length/\aj b.length 4 (ah ak b) (ah ak b))/\false=false/\(0:Int)=0/\True)/\True/\true=true)/\aL Tryz.prog 74 4 (aN Tryz.prog 74 4) { t:=YC b1 b2 a b 0,m:=[],mv:=[]:St } (T.map (bJ [] smS) (YB a b 0))/\(dP a b 0=true->true=kR a b/\True)/\(dP a b 0=false->false=kR a b/\True))
theorem NS (b1:Bool) (b2:Bool) (a:List Producer) (b:List Producer):(bf Tryz.prog (smH b1 b2 a b) 74 [bg b1 a,bg b2 b] [] (smR a b))=R7 b1 b2 a b:=by kernel_rfl
theorem adB (b1 b2:Bool) (a b:List Producer) (hl:a.length<=9223372036854775806):(smR a b).Sat (aB Tryz.prog 74 [bg b1 a,bg b2 b] []):=by
 refine aP (ht:=smH b1 b2 a b) Tryz.mixed rfl ?_
 rw [NS b1 b2 a b]
 unfold R7
 by_cases he:a.length=b.length
 · have:=Po b1 b2 a b hl he 0
   simp [kR,he,this]
 · have he':¬ ((a.length:Int)=b.length):=by omega
   simp [kR,he,he']
def pV (x:Producer) (s:Bool×List Producer) (y:Producer):Bool×List Producer :=
 let s1:=if (decide (x.id<=y.id)&&!s.1)=true then (true,s.2++[x]) else s
 if y.id=x.id then s1 else (s1.1,s1.2++[y])
def bq (l:List Producer) (x:Producer) (k:Nat):Bool×List Producer:=(l.take k).foldl (pV x) (false,[])
theorem p9 {l:List Producer} {x:Producer} {k:Nat} (h:k<l.length):bq l x (k+1)=pV x (bq l x k) (l[k]?.getD default):=by
 unfold bq
 rw [sH l k h,List.foldl_append];rfl
theorem oQ {l:List Producer} {x:Producer} {k:Nat} (h:l.length<=k):bq l x k=bq l x l.length:=by
 unfold bq
 rw [List.take_of_length_le h,List.take_length]
theorem wh (l:List Producer) (x:Producer):∀ k,(bq l x k).2.length<=k+(if (bq l x k).1 then 1 else 0):=by
 intro k
 induction k with
 | zero=>simp [bq]
 | succ k ih =>
   rcases Nat.lt_or_ge k l.length with h | h
   · rw [p9 h]
     rcases hs:bq l x k with ⟨d,o⟩
     rw [hs] at ih
     generalize l[k]?.getD default=y
     by_cases h1:x.id<=y.id<;>cases d<;>by_cases h2:y.id=x.id<;>simp [pV,h1,h2] at ih ⊢<;>omega
   · rw [oQ (k:=k+1) (by omega),<- oQ h]
     omega
def kV (l:List Producer) (x:Producer):List Producer:=if (bq l x l.length).1 then (bq l x l.length).2 else (bq l x l.length).2++[x]
def Zh (b:Bool) (l:List Producer) (x:Producer) (k:Nat):List AV:=mkT 52 [(0,bg b l),(3,.ptr 0 0 0 0),(5,.own 1 4 0 (bq l x k).2.length),(6,.y (.bool (bq l x k).1)),(7,.y (.int .i64 k))]
def Qw (l:List Producer) (x:Producer) (k:Nat):List ay:=[.box 80 (ak x),.row 80 4 (bq l x k).2.length none (ah ak (bq l x k).2)]
def nH (l:List Producer) (x:Producer) (_:Unit):Exit×List AV×List ay:=(.exit 0,mkT 52 [(3,.ptr 0 0 0 0),(5,.own 1 4 0 (bq l x l.length).2.length),(6,.y (.bool (bq l x l.length).1))],Qw l x l.length)
def fP (b:Bool) (l:List Producer):Prop:=(b=b/\l.length=l.length/\aj l.length 4 (ah ak l) (ah ak l))
def kD (x:Producer):Prop:=(x.id=x.id/\x.seq=x.seq/\x.here=x.here/\x.offset=x.offset/\True)
def Jt (b:Bool) (l:List Producer) (x:Producer) (k:Nat):Prop :=
 (decide ((k:Int)<(l.length:Int))=true->(true&&decide ((k:Int)<(l.length:Int)))=true/\(decide (x.id<=(l.getD (Int.toNat (k:Int)) default).id)=true->((!(bq l x k).fst)=true->(decide ((bq l x k).snd.length=(bq l x k).snd.length)&&decide ((bq l x k).snd.length+1<=9223372036854775807)&&decide (((bq l x k).snd.length+1)*32<=140737488355328))=true/\(true&&decide ((k:Int)<(l.length:Int)))=true/\(((l.getD (Int.toNat (k:Int)) default).id != x.id)=true->(true&&decide ((k:Int)<(l.length:Int)))=true/\(decide ((bq l x k).snd.length+1=(bq l x k).snd.length+1)&&decide ((bq l x k).snd.length+1+1<=9223372036854775807)&&decide (((bq l x k).snd.length+1+1)*32<=140737488355328))=true/\∃ j:Nat,l.length - j<l.length - k/\(((fP b l)/\(0=0/\0=0)/\(0=0/\(bq l x k).snd.length+1+1=(bq l x j).snd.length)/\true=(bq l x j).fst/\IntKind.i64.wrap ((k:Int)+1)=(j:Int)/\True)/\((kD x)/\((bq l x k).snd.length+1+1=(bq l x j).snd.length/\aj ((bq l x k).snd.length+1+1) 4 (aY ((bq l x k).snd.length+1) (aY (bq l x k).snd.length (ah ak (bq l x k).snd) fun (k j:Nat)=>Ax.get [AV.y (.int .u64 x.id),AV.y (.int .u64 x.seq),AV.y (.bool x.here),AV.y (.int .u64 x.offset)] (k*4+j)) fun (k_1 j:Nat)=>Ax.get [AV.y (.int .u64 (l.getD (Int.toNat (k:Int)) default).id),AV.y (.int .u64 (l.getD (Int.toNat (k:Int)) default).seq),AV.y (.bool (l.getD (Int.toNat (k:Int)) default).here),AV.y (.int .u64 (l.getD (Int.toNat (k:Int)) default).offset)] (k_1*4+j)) (ah ak (bq l x j).snd))/\True)/\true=true)/\true=true/\()=())/\(((l.getD (Int.toNat (k:Int)) default).id != x.id)=false->∃ j:Nat,l.length - j<l.length - k/\(((fP b l)/\(0=0/\0=0)/\(0=0/\(bq l x k).snd.length+1=(bq l x j).snd.length)/\true=(bq l x j).fst/\IntKind.i64.wrap ((k:Int)+1)=(j:Int)/\True)/\((kD x)/\((bq l x k).snd.length+1=(bq l x j).snd.length/\aj ((bq l x k).snd.length+1) 4 (aY (bq l x k).snd.length (ah ak (bq l x k).snd) fun (k j:Nat)=>Ax.get [AV.y (.int .u64 x.id),AV.y (.int .u64 x.seq),AV.y (.bool x.here),AV.y (.int .u64 x.offset)] (k*4+j)) (ah ak (bq l x j).snd))/\True)/\true=true)/\true=true/\()=()))/\((!(bq l x k).fst)=false->(true&&decide ((k:Int)<(l.length:Int)))=true/\(((l.getD (Int.toNat (k:Int)) default).id != x.id)=true->(true&&decide ((k:Int)<(l.length:Int)))=true/\(decide ((bq l x k).snd.length=(bq l x k).snd.length)&&decide ((bq l x k).snd.length+1<=9223372036854775807)&&decide (((bq l x k).snd.length+1)*32<=140737488355328))=true/\∃ j:Nat,l.length - j<l.length - k/\(((fP b l)/\(0=0/\0=0)/\(0=0/\(bq l x k).snd.length+1=(bq l x j).snd.length)/\(bq l x k).fst=(bq l x j).fst/\IntKind.i64.wrap ((k:Int)+1)=(j:Int)/\True)/\((kD x)/\((bq l x k).snd.length+1=(bq l x j).snd.length/\aj ((bq l x k).snd.length+1) 4 (aY (bq l x k).snd.length (ah ak (bq l x k).snd) fun (k_1 j:Nat)=>Ax.get [AV.y (.int .u64 (l.getD (Int.toNat (k:Int)) default).id),AV.y (.int .u64 (l.getD (Int.toNat (k:Int)) default).seq),AV.y (.bool (l.getD (Int.toNat (k:Int)) default).here),AV.y (.int .u64 (l.getD (Int.toNat (k:Int)) default).offset)] (k_1*4+j)) (ah ak (bq l x j).snd))/\True)/\true=true)/\true=true/\()=())/\(((l.getD (Int.toNat (k:Int)) default).id != x.id)=false->∃ j:Nat,l.length - j<l.length - k/\(((fP b l)/\(0=0/\0=0)/\(0=0/\(bq l x k).snd.length=(bq l x j).snd.length)/\(bq l x k).fst=(bq l x j).fst/\IntKind.i64.wrap ((k:Int)+1)=(j:Int)/\True)/\((kD x)/\((bq l x k).snd.length=(bq l x j).snd.length/\aj (bq l x k).snd.length 4 (ah ak (bq l x k).snd) (ah ak (bq l x j).snd))/\True)/\true=true)/\true=true/\()=())))/\(decide (x.id<=(l.getD (Int.toNat (k:Int)) default).id)=false->(true&&decide ((k:Int)<(l.length:Int)))=true/\(((l.getD (Int.toNat (k:Int)) default).id != x.id)=true->(true&&decide ((k:Int)<(l.length:Int)))=true/\(decide ((bq l x k).snd.length=(bq l x k).snd.length)&&decide ((bq l x k).snd.length+1<=9223372036854775807)&&decide (((bq l x k).snd.length+1)*32<=140737488355328))=true/\∃ j:Nat,l.length - j<l.length - k/\(((fP b l)/\(0=0/\0=0)/\(0=0/\(bq l x k).snd.length+1=(bq l x j).snd.length)/\(bq l x k).fst=(bq l x j).fst/\IntKind.i64.wrap ((k:Int)+1)=(j:Int)/\True)/\((kD x)/\((bq l x k).snd.length+1=(bq l x j).snd.length/\aj ((bq l x k).snd.length+1) 4 (aY (bq l x k).snd.length (ah ak (bq l x k).snd) fun (k_1 j:Nat)=>Ax.get [AV.y (.int .u64 (l.getD (Int.toNat (k:Int)) default).id),AV.y (.int .u64 (l.getD (Int.toNat (k:Int)) default).seq),AV.y (.bool (l.getD (Int.toNat (k:Int)) default).here),AV.y (.int .u64 (l.getD (Int.toNat (k:Int)) default).offset)] (k_1*4+j)) (ah ak (bq l x j).snd))/\True)/\true=true)/\true=true/\()=())/\(((l.getD (Int.toNat (k:Int)) default).id != x.id)=false->∃ j:Nat,l.length - j<l.length - k/\(((fP b l)/\(0=0/\0=0)/\(0=0/\(bq l x k).snd.length=(bq l x j).snd.length)/\(bq l x k).fst=(bq l x j).fst/\IntKind.i64.wrap ((k:Int)+1)=(j:Int)/\True)/\((kD x)/\((bq l x k).snd.length=(bq l x j).snd.length/\aj (bq l x k).snd.length 4 (ah ak (bq l x k).snd) (ah ak (bq l x j).snd))/\True)/\true=true)/\true=true/\()=())))/\(decide ((k:Int)<(l.length:Int))=false->((0=0/\0=0)/\(0=0/\(bq l x k).snd.length=(bq l x l.length).snd.length)/\(bq l x k).fst=(bq l x l.length).fst/\True)/\((kD x)/\((bq l x k).snd.length=(bq l x l.length).snd.length/\aj (bq l x k).snd.length 4 (ah ak (bq l x k).snd) (ah ak (bq l x l.length).snd))/\True)/\true=true)
theorem BP (b:Bool) (l:List Producer) (x:Producer) (k:Nat):(bP Tryz.prog (hT _) 145 4 (fun k=>l.length - k) (Zh b l x) (Qw l x) [1,2,3,4,5] (fun _=>.ret ()) (nH l x) k)=Jt b l x k:=by kernel_rfl
theorem Ej (b:Bool) (l:List Producer) (x:Producer) (hl:l.length*32<=140737488355200) (k:Nat) (hk:k<=l.length):aL Tryz.prog 145 4 (aN Tryz.prog 145 4) ⟨Zh b l x k,Qw l x k,[]⟩ (T.map (bJ [1,2,3,4,5] (nH l x)) (.ret ())):=by
 refine dY (o:=fun _=>.ret ()) Tryz.mixed (fun _=>rfl) (fun k=>(BP b l x k).mpr ?_) k
 unfold Jt kD fP
 have hlen:=wh l x k
 have hc:∀ y:Producer,∀ j,j<4->qA (Ax.get [.y (.int .u64 y.id),.y (.int .u64 y.seq),.y (.bool y.here),.y (.int .u64 y.offset)] j) (Ax.get (ak y) j):=fun y j hj=>by
  match j,hj with
  | 0,_=>simp [ak]
  | 1,_=>simp [ak]
  | 2,_=>simp [ak]
  | 3,_=>simp [ak]
 simp
 refine ⟨fun h=>?_,fun h=>?_⟩
 · have hst:=p9 (x:=x) h
   have hw:=wrap_i64 (n:=(k:Int)+1) (by omega) (by omega)
   rw [hw]
   rcases hs:bq l x k with ⟨d,o⟩
   rw [hs] at hlen hst
   generalize l[k]?.getD default=y at *
   by_cases h1:x.id<=y.id<;>cases d<;>by_cases h2:y.id=x.id<;>simp [pV,h1,h2] at hst<;>simp [h,h1,h2]<;>simp at hlen
   all_goals repeat' first | apply And.intro | refine Exists.intro (k+1) ?_ | with_reducible intro _
   all_goals try rw [hst]
   all_goals first
    | omega
    | (simp;done)
    | exact aG _ _ _
    | exact qm (aG _ _ _) rfl (hc _)
    | (show aj _ _ _ (ah ak (o++[x,y]));rw [show o++[x,y]=o++[x]++[y] by simp];exact qm (qm (aG _ _ _) rfl (hc _)) (by simp) (hc _))
 · rw [oQ h];simp
noncomputable def rpH (b:Bool) (l:List Producer) (x:Producer):aC Tryz.prog :=
 hh _ (mU 145 4 (dM (Zh b l x) (Qw l x) [1,2,3,4,5] (fun _=>.ret ()) (nH l x) 0) bO) bN (op1 145 1 0 (.row 80 4) bM)
def TP (l:List Producer) (x:Producer):T An:=.ret (.own 0 4 0 (kV l x).length,[.row 80 4 (kV l x).length none (ah ak (kV l x))],[])
def Vu (b:Bool) (l:List Producer) (x:Producer):Prop :=
 (((b=b/\l.length=l.length/\aj l.length 4 (ah ak l) (ah ak l))/\(0=0/\0=0)/\(0=0/\0=0)/\false=false/\(0:Int)=0/\True)/\((x.id=x.id/\x.seq=x.seq/\x.here=x.here/\x.offset=x.offset/\True)/\(0=0/\aj 0 4 (fun (x x_1:Nat)=>AV.junk) (ah ak []))/\True)/\true=true)/\aL Tryz.prog 145 4 (aN Tryz.prog 145 4) { t:=Zh b l x 0,m:=Qw l x 0,mv:=[]:St } (T.map (bJ [1,2,3,4,5] (nH l x)) ((fun (x:Nat)=>T.ret ()) 0))/\((!(bq l x l.length).fst)=true->(decide ((bq l x l.length).snd.length=(bq l x l.length).snd.length)&&decide ((bq l x l.length).snd.length+1<=9223372036854775807)&&decide (((bq l x l.length).snd.length+1)*32<=140737488355328))=true/\(0=0/\(bq l x l.length).snd.length+1=(kV l x).length)/\((bq l x l.length).snd.length+1=(kV l x).length/\aj ((bq l x l.length).snd.length+1) 4 (aY (bq l x l.length).snd.length (ah ak (bq l x l.length).snd) fun (k j:Nat)=>Ax.get [AV.y (.int .u64 x.id),AV.y (.int .u64 x.seq),AV.y (.bool x.here),AV.y (.int .u64 x.offset)] (k*4+j)) (ah ak (kV l x)))/\True)/\((!(bq l x l.length).fst)=false->(0=0/\(bq l x l.length).snd.length=(kV l x).length)/\((bq l x l.length).snd.length=(kV l x).length/\aj (bq l x l.length).snd.length 4 (ah ak (bq l x l.length).snd) (ah ak (kV l x)))/\True)
theorem FB (b:Bool) (l:List Producer) (x:Producer):(bf Tryz.prog (rpH b l x) 145 [bg b l,.agg (ak x)] [] (TP l x))=Vu b l x:=by kernel_rfl
theorem KV (b:Bool) (l:List Producer) (x:Producer) (hl:l.length*32<=140737488355200):(TP l x).Sat (aB Tryz.prog 145 [bg b l,.agg (ak x)] []):=by
 refine aP (ht:=rpH b l x) Tryz.mixed rfl ?_
 rw [FB b l x]
 unfold Vu
 have hL:=Ej b l x hl 0 (Nat.zero_le _)
 have hlen:=wh l x l.length
 have hc:∀ y:Producer,∀ j,j<4->qA (Ax.get [.y (.int .u64 y.id),.y (.int .u64 y.seq),.y (.bool y.here),.y (.int .u64 y.offset)] j) (Ax.get (ak y) j):=fun y j hj=>by
  match j,hj with
  | 0,_=>simp [ak]
  | 1,_=>simp [ak]
  | 2,_=>simp [ak]
  | 3,_=>simp [ak]
 rcases hs:bq l x l.length with ⟨d,o⟩
 rw [hs] at hlen
 cases d<;>simp [kV,hs,hL] at hlen ⊢
 all_goals exact ⟨⟨by omega,by omega⟩,qm (aG _ _ _) rfl (hc x)⟩
theorem kH (y:Producer) (t:List Producer) (x:Producer):gy (y::t) x=if y.id=x.id then gy t x else y::gy t x:=by
 by_cases h:y.id=x.id
 · rw [if_pos h];unfold gy;rw [List.filter_cons_of_neg (by simp [keep,h])]
 · rw [if_neg h];unfold gy;rw [List.filter_cons_of_pos (by simp [keep,h])]
theorem oC (x:Producer):∀ (l o:List Producer),l.foldl (pV x) (true,o)=(true,o++gy l x):=by
 intro l
 induction l with
 | nil=>intro o;simp [gy]
 | cons y t ih =>
   intro o
   by_cases h:y.id=x.id
   · simp [pV,h,ih,kH]
   · simp [pV,h,ih,kH]
theorem uQ {y:Producer} {t:List Producer} {x:Producer} (h:y.id<x.id):aF (y::t) x=y::aF t x:=by
 have h':¬ y.id=x.id:=by omega
 simp [aF,kH,below,h,h']
theorem MB {y:Producer} {t:List Producer} {x:Producer} (h:x.id<=y.id) (ht:∀ z∈t,y.id<z.id):aF (y::t) x=x::gy (y::t) x:=by
 have:below (gy (y::t) x) x.id=0:=by
  unfold below
  rw [List.length_eq_zero_iff]
  cases hd:gy (y::t) x with
  | nil=>rfl
  | cons z r =>
    have hz:z∈gy (y::t) x:=by rw [hd];exact List.mem_cons_self
    have hz':z∈y::t:=(List.mem_filter.1 hz).1
    have hlt:¬ z.id<x.id:=by
     rcases List.mem_cons.1 hz' with h1 | h1
     · rw [h1];omega
     · have:=ht z h1;omega
    rw [List.takeWhile_cons_of_neg]
    simpa using hlt
 rw [aF,this];rfl
theorem Bn (x:Producer):∀ (l o:List Producer),l.Pairwise (fun a b=>a.id<b.id)->(if (l.foldl (pV x) (false,o)).1 then (l.foldl (pV x) (false,o)).2 else (l.foldl (pV x) (false,o)).2++[x])=o++aF l x:=by
 intro l
 induction l with
 | nil=>intro o _;simp [aF,gy,below]
 | cons y t ih =>
   intro o hp
   rw [List.pairwise_cons] at hp
   by_cases h:x.id<=y.id
   · rw [MB h hp.1]
     by_cases h2:y.id=x.id
     · simp [pV,h2,oC,kH]
     · simp [pV,h,h2,oC,kH]
   · have h2:¬ y.id=x.id:=by omega
     have:=ih (o++[y]) hp.2
     rw [uQ (by omega)]
     simp only [List.foldl_cons,pV,h,h2,decide_false,Bool.false_and,Bool.false_eq_true,if_false]
     rw [this];simp
theorem ou (r:List Producer):rising r↔r.Pairwise (fun a b=>a.id<b.id):=by
 rw [List.pairwise_iff_getElem]
 constructor
 · intro h i j hi hj hij
   have:=h i j hij hj
   simpa [hi,hj] using this
 · intro h i j hij hj
   have:=h i j (by omega) hj hij
   simpa [show i<r.length by omega,hj] using this
theorem xM {l:List Producer} {x:Producer} (h:rising l):kV l x=aF l x:=by
 have:=Bn x l [] ((ou l).1 h)
 simpa [kV,bq] using this
noncomputable def abv (b:Bool) (l:List Producer) (x:Producer):dZ Tryz.prog:=⟨145,[bg b l,.agg (ak x)],[],.need (l.length*32<=140737488355200/\rising l) (WY l x),T.Sat.need fun h=>by
 have:=KV b l x h.1
 rw [TP,xM h.2] at this
 exact this⟩
noncomputable def abm (b:Bool) (l:List Producer) (x:Producer) (hl:l.length<=9223372036854775806):aC Tryz.prog :=
 hh _ bO (cs1 122 1 1 (agR b l hl) (cs1 122 2 3 (NA b l x.id x.seq hl) (cs1 122 9 6 (agG b l x.id hl) (cs1 122 11 5 (abv b l x) bN)))) bM
def Tp (b:Bool) (l:List Producer) (id:Int) (seq:Int) (o:Int) (hl:l.length<=9223372036854775806):Prop :=
 ((b=b/\l.length=l.length/\aj l.length 4 (ah ak l) (ah ak l))/\True)/\True/\((b=b/\l.length=l.length/\aj l.length 4 (ah ak l) (ah ak l))/\id=id/\seq=seq/\True)/\True/\((!bE l)=true->((aI l (bK id seq true o)==0)=true->(False/\(1:Int)=0/\True)/\False)/\((aI l (bK id seq true o)==0)=false->(True/\1=aI l (bK id seq true o)/\True)/\True))/\((!bE l)=false->((aS l id seq==4)=true->((aI l (bK id seq true o)==0)=true->(False/\(151:Int)=0/\True)/\False)/\((aI l (bK id seq true o)==0)=false->(True/\151=aI l (bK id seq true o)/\True)/\True))/\((aS l id seq==4)=false->((aS l id seq != 1)=true->((aI l (bK id seq true o)==0)=true->(False/\(152:Int)=0/\True)/\False)/\((aI l (bK id seq true o)==0)=false->(True/\152=aI l (bK id seq true o)/\True)/\True))/\((aS l id seq != 1)=false->(decide (256<=(l.length:Int))=true->((b=b/\l.length=l.length/\aj l.length 4 (ah ak l) (ah ak l))/\id=id/\True)/\True/\(decide (gM l id<0)=true->((aI l (bK id seq true o)==0)=true->(False/\(153:Int)=0/\True)/\False)/\((aI l (bK id seq true o)==0)=false->(True/\153=aI l (bK id seq true o)/\True)/\True))/\(decide (gM l id<0)=false->((b=b/\l.length=l.length/\aj l.length 4 (ah ak l) (ah ak l))/\(id=id/\seq=seq/\true=true/\o=o/\True)/\True)/\True/\(l.length*32<=140737488355200/\∀ (i j:Nat),i<j->j<l.length->(l.getD i default).id<(l.getD j default).id)/\((aI l (bK id seq true o)==0)=true->((0=0/\(aF l (bK id seq true o)).length=(aF l (bK id seq true o)).length)/\(0:Int)=0/\True)/\((aF l (bK id seq true o)).length=(aF l (bK id seq true o)).length/\aj (aF l (bK id seq true o)).length 4 (ah ak (aF l (bK id seq true o))) (ah ak (aF l (bK id seq true o))))/\True)/\((aI l (bK id seq true o)==0)=false->False)))/\(decide (256<=(l.length:Int))=false->((b=b/\l.length=l.length/\aj l.length 4 (ah ak l) (ah ak l))/\(id=id/\seq=seq/\true=true/\o=o/\True)/\True)/\True/\(l.length*32<=140737488355200/\∀ (i j:Nat),i<j->j<l.length->(l.getD i default).id<(l.getD j default).id)/\((aI l (bK id seq true o)==0)=true->((0=0/\(aF l (bK id seq true o)).length=(aF l (bK id seq true o)).length)/\(0:Int)=0/\True)/\((aF l (bK id seq true o)).length=(aF l (bK id seq true o)).length/\aj (aF l (bK id seq true o)).length 4 (ah ak (aF l (bK id seq true o))) (ah ak (aF l (bK id seq true o))))/\True)/\((aI l (bK id seq true o)==0)=false->False)))))
theorem O9 (b:Bool) (l:List Producer) (id:Int) (seq:Int) (o:Int) (hl:l.length<=9223372036854775806):(bf Tryz.prog (abm b l (bK id seq true o) hl) 122 [bg b l,.y (.int .u64 id),.y (.int .u64 seq),.y (.int .u64 o)] [] (jP l (bK id seq true o)))=Tp b l id seq o hl:=by kernel_rfl
theorem Vm (b:Bool) (l:List Producer) (id seq o:Int) (hl:l.length<=9223372036854775806):(jP l (bK id seq true o)).Sat (aB Tryz.prog 122 [bg b l,.y (.int .u64 id),.y (.int .u64 seq),.y (.int .u64 o)] []):=by
 refine aP (ht:=abm b l (bK id seq true o) hl) Tryz.mixed rfl ?_
 rw [O9 b l id seq o hl]
 unfold Tp
 have h1:bE l=true->l.length<=256:=by unfold bE;simp
 by_cases ht:bE l=true
 · have h2:=h1 ht
   have h3:=gG ht
   by_cases h4:aS l id seq=4
   · simp [aI,bK,ht,h4]
   · by_cases h5:aS l id seq=1
     · cases hf:bA l id
       · by_cases hn:l.length=256
         · simp [aI,bK,ht,h5,hf,hn,gM]
         · have hn':¬ ((256:Int)<=l.length):=by omega
           simp [aI,bK,ht,h5,hf,hn,hn',gM]
           exact ⟨by omega,h3⟩
       · have hz:¬ (((l.findIdx (has id):Nat):Int)<0):=by omega
         by_cases hn:(256:Int)<=l.length
         · simp [aI,bK,ht,h5,hf,gM,hz,hn]
           exact ⟨by omega,h3⟩
         · simp [aI,bK,ht,h5,hf,gM,hn]
           exact ⟨by omega,h3⟩
     · simp [aI,bK,ht,h4,h5]
 · simp [aI,bK,ht]
noncomputable def afG (b:Bool) (l:List Producer) (id seq o:Int) (hl:l.length<=9223372036854775806):dZ Tryz.prog:=⟨122,[bg b l,.y (.int .u64 id),.y (.int .u64 seq),.y (.int .u64 o)],[],jP l (bK id seq true o),Vm b l id seq o hl⟩
def encI (x:Int):List AV:=[.y (.int .u64 x)]
def G6 (b:Bool) (l:List Int):AV:=.ys b 1 l.length (ah encI l)
def OJ (r:List Producer):T An:=.ret (.own 0 4 0 r.length,[.row 80 4 r.length none (ah ak r)],[])
def lat (x y:Producer):Bool:=decide (y.seq<x.seq)||(x.seq==y.seq&&(x.here&&!y.here))
def aZ (b:Bool):T An:=.ret (.y (.bool b),[],[])
def bst (s:List Producer) (x:Producer):List Producer:=if !bA s x.id||lat x (findD s x.id) then aF s x else s
def both (s m:List Producer) (k:Nat):List Producer:=(m.take k).foldl bst s
theorem BJ {l:List Producer} {x z:Producer} (h:z∈aF l x):z=x∨z∈l:=by
 unfold aF at h
 rw [List.mem_append,List.mem_cons] at h
 rcases h with h | h | h
 · exact Or.inr (List.mem_filter.1 (List.mem_of_mem_take h)).1
 · exact Or.inl h
 · exact Or.inr (List.mem_filter.1 (List.mem_of_mem_drop h)).1
theorem ZI (x:Producer):∀ l:List Producer,l.Pairwise (fun a b=>a.id<b.id)->(aF l x).Pairwise (fun a b=>a.id<b.id):=by
 intro l
 induction l with
 | nil=>intro _;simp [aF,gy,below]
 | cons y t ih =>
   intro h
   have hp:=List.pairwise_cons.1 h
   by_cases h1:x.id<=y.id
   · rw [MB h1 hp.1,List.pairwise_cons]
     refine ⟨fun z hz=>?_,h.filter _⟩
     have hz':=List.mem_filter.1 hz
     have h2:¬ z.id=x.id:=by simpa [keep] using hz'.2
     rcases List.mem_cons.1 hz'.1 with h3 | h3
     · rw [h3] at h2 ⊢;omega
     · have:=hp.1 z h3;omega
   · rw [uQ (by omega),List.pairwise_cons]
     refine ⟨fun z hz=>?_,ih hp.2⟩
     rcases BJ hz with h3 | h3
     · rw [h3];omega
     · exact hp.1 z h3
theorem yE {l:List Producer} {x:Producer} (h:rising l):rising (aF l x):=(ou _).2 (ZI x l ((ou l).1 h))
noncomputable def ais (b:Bool) (l:List Producer):dZ Tryz.prog:=⟨45,[bg b l],[],.need (l.length<=9223372036854775806) (Ip l),T.Sat.need fun h=>Ml b l h⟩
noncomputable def agZ (b:Bool) (l:List Producer):dZ Tryz.prog:=⟨51,[bg b l],[],.need (l.length<=9223372036854775806) (Ip l),T.Sat.need fun h=>I9 b l h⟩
end P
section
structure Part where
 rng:kJ
 epoch:Int
 frozen:Int
 recs:List Rec
 prods:List P.Producer
 cons:List Con
instance:Inhabited Part:=⟨⟨default,0,0,[],[],[]⟩⟩
def aX (b:Bool) (p:Part):List AV:=[.y (.string p.rng.lo),.y (.string p.rng.hi),.y (.int .u64 p.epoch),.y (.int .u64 p.frozen),dL b p.recs,P.bg b p.prods,dB b p.cons]
def bQ (x y:Bool) (p q:Part):Prop:=p.rng.lo=q.rng.lo/\p.rng.hi=q.rng.hi/\p.epoch=q.epoch/\p.frozen=q.frozen/\(x=y/\List.length p.recs=List.length q.recs/\aj (List.length p.recs) (5:Nat) (ah encR p.recs) (ah encR q.recs))/\(x=y/\List.length p.prods=List.length q.prods/\aj (List.length p.prods) (4:Nat) (ah P.ak p.prods) (ah P.ak q.prods))/\(x=y/\List.length p.cons=List.length q.cons/\aj (List.length p.cons) (2:Nat) (ah aD p.cons) (ah aD q.cons))/\True
@[simp] theorem ahK (x y:Bool) (p q:Part):bQ x y p q=(p.rng.lo=q.rng.lo/\p.rng.hi=q.rng.hi/\p.epoch=q.epoch/\p.frozen=q.frozen/\(x=y/\List.length p.recs=List.length q.recs/\aj (List.length p.recs) (5:Nat) (ah encR p.recs) (ah encR q.recs))/\(x=y/\List.length p.prods=List.length q.prods/\aj (List.length p.prods) (4:Nat) (ah P.ak p.prods) (ah P.ak q.prods))/\(x=y/\List.length p.cons=List.length q.cons/\aj (List.length p.cons) (2:Nat) (ah aD p.cons) (ah aD q.cons))/\True):=rfl
abbrev Kn:=(Int->Bool)×(Int->Int)
abbrev Kn.put (s:Kn) (a b:Int):Kn:=(jI s.1 a,yL s.2 a b)
abbrev Kn.sel (s:Kn) (a:Int):Int:=zL (s.1 a) (s.2 a)
def kn0:Kn:=(fun _=>false,fun _=>0)
def jf (l:List P.Producer):Kn:=l.foldl (fun s x=>s.put x.id x.seq) kn0
def kF (l:List Rec):Kn:=l.foldl (fun s x=>s.put x.prod x.seq) kn0
theorem Ik {l:List P.Producer} {k:Nat} (h:k<l.length):jf (l.take (k+1))=(jf (l.take k)).put (l.getD k default).id (l.getD k default).seq:=by
 unfold jf
 rw [List.take_add_one,List.foldl_append,List.getElem?_eq_getElem h]
 simp [List.getElem?_eq_getElem h]
theorem H7 {l:List Rec} {k:Nat} (h:k<l.length):kF (l.take (k+1))=(kF (l.take k)).put (l.getD k default).prod (l.getD k default).seq:=by
 unfold kF
 rw [List.take_add_one,List.foldl_append,List.getElem?_eq_getElem h]
 simp [List.getElem?_eq_getElem h]
def adg (s:Kn):ay:=.mi .u64 .u64 s.1 s.2
def Pf (b:Bool) (p:Part) (s:Kn):List ay:=[.box 30 (aX b p),adg s]
def TG (b:Bool) (p:Part) (k:Nat):List AV:=mkT 61 [(1,.ptr 0 0 0 0),(3,.mref 1),(11,P.bg b p.prods),(12,.y (.int .i64 p.prods.length)),(13,.y (.int .i64 k))]
def Y3 (b:Bool) (p:Part) (_:Unit):Exit×List AV×List ay:=(.exit 0,mkT 61 [(1,.ptr 0 0 0 0),(3,.mref 1)],Pf b p (jf p.prods))
def D8:List Nat:=[0,1,2,3,4,5,6,7,8,9]
def aa0 (b:Bool) (p:Part) (k:Nat):Prop :=
 (decide ((k:Int)<(p.prods.length:Int))=true->(true&&decide ((k:Int)<(p.prods.length:Int)))=true/\∃ j:Nat,p.prods.length - j<p.prods.length - k/\(((0=0/\0=0)/\True/\(b=b/\p.prods.length=p.prods.length/\aj p.prods.length 4 (ah P.ak p.prods) (ah P.ak p.prods))/\(p.prods.length:Int)=(p.prods.length:Int)/\IntKind.i64.wrap ((k:Int)+1)=(j:Int)/\True)/\((bQ b b p p)/\(IntKind.u64=IntKind.u64/\IntKind.u64=IntKind.u64/\∀ (x:Int),jI (jf (List.take k p.prods)).fst (p.prods.getD (Int.toNat (k:Int)) default).id x=(jf (List.take j p.prods)).fst x/\(jI (jf (List.take k p.prods)).fst (p.prods.getD (Int.toNat (k:Int)) default).id x=true->yL (jf (List.take k p.prods)).snd (p.prods.getD (Int.toNat (k:Int)) default).id (p.prods.getD (Int.toNat (k:Int)) default).seq x=(jf (List.take j p.prods)).snd x))/\True)/\true=true)/\true=true/\()=())/\(decide ((k:Int)<(p.prods.length:Int))=false->((0=0/\0=0)/\True/\True)/\((bQ b b p p)/\(IntKind.u64=IntKind.u64/\IntKind.u64=IntKind.u64/\∀ (x:Int),(jf (List.take k p.prods)).fst x=(jf p.prods).fst x/\((jf (List.take k p.prods)).fst x=true->(jf (List.take k p.prods)).snd x=(jf p.prods).snd x))/\True)/\true=true)
theorem UG (b:Bool) (p:Part) (k:Nat):(bP Tryz.prog (hT _) 47 3 (fun k=>p.prods.length - k) (TG b p) (fun k=>Pf b p (jf (p.prods.take k))) D8 (fun _=>.ret ()) (Y3 b p) k)=aa0 b p k:=by kernel_rfl
def SX (b:Bool) (p:Part) (k:Nat):List ay:=[.box 30 (aX b p),adg (jf p.prods),adg (kF (p.recs.take k))]
def UA (b:Bool) (p:Part) (k:Nat):List AV:=mkT 61 [(1,.ptr 0 0 0 0),(3,.mref 1),(6,.mref 2),(25,dL b p.recs),(26,.y (.int .i64 p.recs.length)),(27,.y (.int .i64 k))]
def Ya (r:Bool):Exit×List AV×List ay:=match r with
 | true=>(.exit 2,mkT 61 [],[])
 | false=>(.ret,mkT 61 [(2,.s (.bool false))],[])
def okO (p:Part) (k:Nat):Bool :=
 let x:=p.recs.getD k default
 fZ p.rng x.key&&(!decide (x.seq<=(kF (p.recs.take k)).sel x.prod)&&!decide ((jf p.prods).sel x.prod<x.seq))
def bI (p:Part) (k:Nat):Bool:=(List.range' k (p.recs.length - k)).all fun j=>okO p j
theorem uF {p:Part} {k:Nat} (h:p.recs.length<=k):bI p k=true:=by
 unfold bI
 rw [show p.recs.length - k=0 by omega];rfl
theorem rJ {p:Part} {k:Nat} (h:k<p.recs.length):bI p k=(okO p k&&bI p (k+1)):=by
 unfold bI
 rw [show p.recs.length - k=(p.recs.length - (k+1))+1 by omega,List.range'_succ];rfl
def Wi (p:Part) (k:Nat):T Bool:=.ite (bI p k) (.ret true) (.ret false)
noncomputable def ahP (p:Part) (k:Nat):aC Tryz.prog:=hh _ bO (cs1 47 11 4 (ae3 p.rng (p.recs.getD k default).key) bN) bM
def aaL (b:Bool) (p:Part) (k:Nat):Prop :=
 (decide ((k:Int)<(p.recs.length:Int))=true->(true&&decide ((k:Int)<(p.recs.length:Int)))=true/\((p.rng.lo=p.rng.lo/\p.rng.hi=p.rng.hi/\True)/\(p.recs.getD (Int.toNat (k:Int)) default).key=(p.recs.getD k default).key/\True)/\True/\((!fZ p.rng (p.recs.getD k default).key)=true->(bI p k=true->False)/\(bI p k=false->(false=false/\True)/\True/\true=true))/\((!fZ p.rng (p.recs.getD k default).key)=false->(decide ((p.recs.getD (Int.toNat (k:Int)) default).seq<=zL ((kF (List.take k p.recs)).fst (p.recs.getD (Int.toNat (k:Int)) default).prod) ((kF (List.take k p.recs)).snd (p.recs.getD (Int.toNat (k:Int)) default).prod))=true->(bI p k=true->False)/\(bI p k=false->(false=false/\True)/\True/\true=true))/\(decide ((p.recs.getD (Int.toNat (k:Int)) default).seq<=zL ((kF (List.take k p.recs)).fst (p.recs.getD (Int.toNat (k:Int)) default).prod) ((kF (List.take k p.recs)).snd (p.recs.getD (Int.toNat (k:Int)) default).prod))=false->(decide (zL ((jf p.prods).fst (p.recs.getD (Int.toNat (k:Int)) default).prod) ((jf p.prods).snd (p.recs.getD (Int.toNat (k:Int)) default).prod)<(p.recs.getD (Int.toNat (k:Int)) default).seq)=true->(bI p k=true->False)/\(bI p k=false->(false=false/\True)/\True/\true=true))/\(decide (zL ((jf p.prods).fst (p.recs.getD (Int.toNat (k:Int)) default).prod) ((jf p.prods).snd (p.recs.getD (Int.toNat (k:Int)) default).prod)<(p.recs.getD (Int.toNat (k:Int)) default).seq)=false->∃ j:Nat,p.recs.length - j<p.recs.length - k/\(((0=0/\0=0)/\True/\True/\(b=b/\p.recs.length=p.recs.length/\aj p.recs.length 5 (ah encR p.recs) (ah encR p.recs))/\(p.recs.length:Int)=(p.recs.length:Int)/\IntKind.i64.wrap ((k:Int)+1)=(j:Int)/\True)/\((bQ b b p p)/\(IntKind.u64=IntKind.u64/\IntKind.u64=IntKind.u64/\∀ (x:Int),(jf p.prods).fst x=(jf p.prods).fst x/\((jf p.prods).fst x=true->(jf p.prods).snd x=(jf p.prods).snd x))/\(IntKind.u64=IntKind.u64/\IntKind.u64=IntKind.u64/\∀ (x:Int),jI (kF (List.take k p.recs)).fst (p.recs.getD (Int.toNat (k:Int)) default).prod x=(kF (List.take j p.recs)).fst x/\(jI (kF (List.take k p.recs)).fst (p.recs.getD (Int.toNat (k:Int)) default).prod x=true->yL (kF (List.take k p.recs)).snd (p.recs.getD (Int.toNat (k:Int)) default).prod (p.recs.getD (Int.toNat (k:Int)) default).seq x=(kF (List.take j p.recs)).snd x))/\True)/\true=true)/\true=true/\(bI p j=true->(bI p k=true->true=true)/\(bI p k=false->true=false))/\(bI p j=false->(bI p k=true->false=true)/\(bI p k=false->false=false))))))/\(decide ((k:Int)<(p.recs.length:Int))=false->(bI p k=true->True/\True/\true=true)/\(bI p k=false->False))
theorem R4 (b:Bool) (p:Part) (k:Nat):(bP Tryz.prog (ahP p k) 47 9 (fun k=>p.recs.length - k) (UA b p) (SX b p) D8 (Wi p) Ya k)=aaL b p k:=by kernel_rfl
noncomputable def orH (b:Bool) (p:Part):aC Tryz.prog:=hh _ (mU 47 3 (dM (TG b p) (fun k=>Pf b p (jf (p.prods.take k))) D8 (fun _=>.ret ()) (Y3 b p) 0) (mU 47 9 (dM (UA b p) (SX b p) D8 (Wi p) Ya 0) bO)) bN bM
def ahp (b:Bool) (p:Part):Prop :=
 (((0=0/\0=0)/\True/\(b=b/\p.prods.length=p.prods.length/\aj p.prods.length 4 (ah P.ak p.prods) (ah P.ak p.prods))/\(p.prods.length:Int)=(p.prods.length:Int)/\(0:Int)=0/\True)/\((bQ b b p p)/\(∀ (x:Int),false=false)/\True)/\true=true)/\aL Tryz.prog 47 3 (aN Tryz.prog 47 3) { t:=TG b p 0,m:=Pf b p (jf (List.take 0 p.prods)),mv:=[]:St } (T.map (bJ D8 (Y3 b p)) ((fun (x:Nat)=>T.ret ()) 0))/\(((0=0/\0=0)/\True/\True/\(b=b/\p.recs.length=p.recs.length/\aj p.recs.length 5 (ah encR p.recs) (ah encR p.recs))/\(p.recs.length:Int)=(p.recs.length:Int)/\(0:Int)=0/\True)/\((bQ b b p p)/\(IntKind.u64=IntKind.u64/\IntKind.u64=IntKind.u64/\∀ (x:Int),(jf p.prods).fst x=(jf p.prods).fst x/\((jf p.prods).fst x=true->(jf p.prods).snd x=(jf p.prods).snd x))/\(∀ (x:Int),false=false)/\True)/\true=true)/\aL Tryz.prog 47 9 (aN Tryz.prog 47 9) { t:=UA b p 0,m:=SX b p 0,mv:=[]:St } (T.map (bJ D8 Ya) (Wi p 0))/\(bI p 0=true->true=bI p 0/\True)/\(bI p 0=false->false=bI p 0/\True)
theorem Z0 (b:Bool) (p:Part):(bf Tryz.prog (orH b p) 47 [.agg (aX b p)] [] (aZ (bI p 0)))=ahp b p:=by kernel_rfl
theorem TT (b:Bool) (p:Part) (hl:p.prods.length<=9223372036854775806) (k:Nat):aL Tryz.prog 47 3 (aN Tryz.prog 47 3) ⟨TG b p k,Pf b p (jf (p.prods.take k)),[]⟩ (T.map (bJ D8 (Y3 b p)) (.ret ())):=by
 refine dY (o:=fun _=>.ret ()) (sV:=fun k=>TG b p k) (stM:=fun k=>Pf b p (jf (p.prods.take k))) Tryz.mixed (fun _=>rfl) (fun k=>(UG b p k).mpr ?_) k
 unfold aa0
 by_cases h:k<p.prods.length
 · have hw:IntKind.i64.wrap ((k:Int)+1)=((k+1:Nat):Int):=by rw [wrap_i64 (by omega) (by omega)];omega
   have hs:=Ik h
   have hz:decide ((k:Int)<p.prods.length)=true:=by simp;omega
   rw [Int.toNat_natCast]
   simp only [hz]
   generalize p.prods.getD k default=x at *
   generalize jf (p.prods.take k)=s at *
   simp
   refine Exists.intro (k+1) ?_
   rw [hs]
   refine ⟨by omega,hw,fun y=>⟨rfl,fun _=>rfl⟩⟩
 · have hz:decide ((k:Int)<p.prods.length)=false:=by simp;omega
   rw [List.take_of_length_le (by omega)]
   simp [hz]
   exact fun e=>absurd e h
theorem TK (b:Bool) (p:Part) (hl:p.recs.length<=9223372036854775806) (k:Nat):aL Tryz.prog 47 9 (aN Tryz.prog 47 9) ⟨UA b p k,SX b p k,[]⟩ ((Wi p k).map (bJ D8 Ya)):=by
 refine dK (o:=Wi p) (sV:=UA b p) (stM:=SX b p) Tryz.mixed (fun _=>rfl) (fun k=>(R4 b p k).mpr ?_) k
 unfold aaL
 by_cases h:k<p.recs.length
 · have hw:IntKind.i64.wrap ((k:Int)+1)=((k+1:Nat):Int):=by rw [wrap_i64 (by omega) (by omega)];omega
   have hs:=H7 h
   have hf:=rJ h
   have hz:decide ((k:Int)<p.recs.length)=true:=by simp;omega
   have ho:okO p k=(fZ p.rng (p.recs.getD k default).key&&(!decide ((p.recs.getD k default).seq<=(kF (p.recs.take k)).sel (p.recs.getD k default).prod)&&!decide ((jf p.prods).sel (p.recs.getD k default).prod<(p.recs.getD k default).seq))):=rfl
   rw [Int.toNat_natCast]
   simp only [hz,hf,ho]
   generalize p.recs.getD k default=x at *
   generalize kF (p.recs.take k)=s at *
   cases h1:fZ p.rng x.key
   · simp
   · by_cases h2:x.seq<=s.sel x.prod
     · simp [h2]
     · by_cases h3:(jf p.prods).sel x.prod<x.seq
       · simp [h2,h3]
       · simp [h2,h3]
         refine Exists.intro (k+1) ?_
         rw [hs]
         refine ⟨by omega,⟨hw,fun y=>⟨rfl,fun _=>rfl⟩⟩,?_⟩
         cases bI p (k+1)<;>simp
 · have hz:decide ((k:Int)<p.recs.length)=false:=by simp;omega
   simp only [hz,uF (p:=p) (k:=k) (by omega)]
   simp
theorem aix (b:Bool) (p:Part) (h1:p.prods.length<=9223372036854775806) (h2:p.recs.length<=9223372036854775806):(aZ (bI p 0)).Sat (aB Tryz.prog 47 [.agg (aX b p)] []):=by
 refine aP (ht:=orH b p) Tryz.mixed rfl ?_
 rw [Z0 b p]
 unfold ahp
 have l1:=TT b p h1 0
 have l2:=TK b p h2 0
 rw [List.take_zero] at l1
 simp [l1,l2]
noncomputable def orC (b:Bool) (p:Part):dZ Tryz.prog:=⟨47,[.agg (aX b p)],[],.need (p.prods.length<=9223372036854775806/\p.recs.length<=9223372036854775806) (aZ (bI p 0)),T.Sat.need fun h=>aix b p h.1 h.2⟩
end
end Go.Proofs.YtnbhdjadlbhknaaGreatDoor
