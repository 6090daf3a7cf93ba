import Derived.Test.YtnbhdjadlbhknaaGreatDoorE11
import Derived.Test.YtnbhdjadlbhknaaGreatDoorW1
import Derived.Test.YtnbhdjadlbhknaaGreatDoorW2
import Derived.Test.YtnbhdjadlbhknaaGreatDoorW3
set_option linter.unusedVariables false
set_option linter.unusedSimpArgs false
set_option maxRecDepth 1000000
namespace Go.Proofs.YtnbhdjadlbhknaaGreatDoor
open Go.Ax
namespace P
noncomputable def Y4 (b:Bool) (l:List Producer) (x:Producer):aC Tryz.prog :=
 hh _ (nu 145 4 (eP (Xr b l x) (zB l x) [1,2,3,4,5] (fun _=>.ret ()) (mI l x) 0) bB) bA (op1 145 1 0 (.row 80 4) bq)
def Pp (l:List Producer) (x:Producer):T An:=.ret (.own 0 4 0 (mg l x).length,[.row 80 4 (mg l x).length none (ah ay (mg l x))],[])
def Gv (b:Bool) (l:List Producer) (x:Producer):Prop :=
 (((b=b/\l.length=l.length/\ak l.length 4 (ah ay l) (ah ay l))/\(0=0/\0=0)/\(0=0/\0=0)/\false=false/\(0:Int)=0/\True)/\((x.id=x.id/\x.seq=x.seq/\x.here=x.here/\x.offset=x.offset/\True)/\(0=0/\ak 0 4 (fun (x x_1:Nat)=>AV.junk) (ah ay []))/\True)/\true=true)/\aQ Tryz.prog 145 4 (aS Tryz.prog 145 4) { t:=Xr b l x 0,m:=zB l x 0,mv:=[]:St } (T.map (bU [1,2,3,4,5] (mI l x)) ((fun (x:Nat)=>T.ret ()) 0))/\((!(bI l x l.length).fst)=true->(decide ((bI l x l.length).snd.length=(bI l x l.length).snd.length)&&decide ((bI l x l.length).snd.length+1<=9223372036854775807)&&decide (((bI l x l.length).snd.length+1)*32<=140737488355328))=true/\(0=0/\(bI l x l.length).snd.length+1=(mg l x).length)/\((bI l x l.length).snd.length+1=(mg l x).length/\ak ((bI l x l.length).snd.length+1) 4 (aL (bI l x l.length).snd.length (ah ay (bI l x l.length).snd) fun (k j:Nat)=>Ax.get [AV.y (.int .u64 x.id),AV.y (.int .u64 x.seq),AV.y (.bool x.here),AV.y (.int .u64 x.offset)] (k*4+j)) (ah ay (mg l x)))/\True)/\((!(bI l x l.length).fst)=false->(0=0/\(bI l x l.length).snd.length=(mg l x).length)/\((bI l x l.length).snd.length=(mg l x).length/\ak (bI l x l.length).snd.length 4 (ah ay (bI l x l.length).snd) (ah ay (mg l x)))/\True)
theorem wB (b:Bool) (l:List Producer) (x:Producer):(aZ Tryz.prog (Y4 b l x) 145 [bG b l,.agg (ay x)] [] (Pp l x))=Gv b l x:=by kernel_rfl
theorem JG (b:Bool) (l:List Producer) (x:Producer) (hl:l.length*32<=140737488355200):(Pp l x).Sat (au Tryz.prog 145 [bG b l,.agg (ay x)] []):=by
 refine aR (ht:=Y4 b l x) Tryz.mixed rfl ?_
 rw [wB b l x]
 unfold Gv
 have hL:=Ed b l x hl 0 (Nat.zero_le _)
 have hlen:=wN l x l.length
 have hc:∀ y:Producer,∀ j,j<4->qg (Ax.get [.y (.int .u64 y.id),.y (.int .u64 y.seq),.y (.bool y.here),.y (.int .u64 y.offset)] j) (Ax.get (ay y) j):=fun y j hj=>by
  match j,hj with
  | 0,_=>simp [ay]
  | 1,_=>simp [ay]
  | 2,_=>simp [ay]
  | 3,_=>simp [ay]
 rcases hs:bI l x l.length with ⟨d,o⟩
 rw [hs] at hlen
 cases d<;>simp [mg,hs,hL] at hlen ⊢
 all_goals exact ⟨⟨by omega,by omega⟩,rQ (aO _ _ _) rfl (hc x)⟩
theorem kZ (y:Producer) (t:List Producer) (x:Producer):iB (y::t) x=if y.id=x.id then iB t x else y::iB t x:=by
 by_cases h:y.id=x.id
 · rw [if_pos h];unfold iB;rw [List.filter_cons_of_neg (by simp [keep,h])]
 · rw [if_neg h];unfold iB;rw [List.filter_cons_of_pos (by simp [keep,h])]
theorem nY (x:Producer):∀ (l o:List Producer),l.foldl (pV x) (true,o)=(true,o++iB l x):=by
 intro l
 induction l with
 | nil=>intro o;simp [iB]
 | cons y t ih =>
   intro o
   by_cases h:y.id=x.id
   · simp [pV,h,ih,kZ]
   · simp [pV,h,ih,kZ]
theorem D_ {y:Producer} {t:List Producer} {x:Producer} (h:y.id<x.id):aN (y::t) x=y::aN t x:=by
 have h':¬ y.id=x.id:=by omega
 simp [aN,kZ,below,h,h']
theorem Us {y:Producer} {t:List Producer} {x:Producer} (h:x.id<=y.id) (ht:∀ z∈t,y.id<z.id):aN (y::t) x=x::iB (y::t) x:=by
 have:below (iB (y::t) x) x.id=0:=by
  unfold below
  rw [List.length_eq_zero_iff]
  cases hd:iB (y::t) x with
  | nil=>rfl
  | cons z r =>
    have hz:z∈iB (y::t) x:=by rw [hd];exact List.mem_cons_self
    have hz':z∈y::t:=(List.mem_filter.1 hz).1
    have hlt:¬ z.id<x.id:=by
     rcases List.mem_cons.1 hz' with h1 | h1
     · rw [h1];omega
     · have:=ht z h1;omega
    rw [List.takeWhile_cons_of_neg]
    simpa using hlt
 rw [aN,this];rfl
theorem zT (x:Producer):∀ (l o:List Producer),l.Pairwise (fun a b=>a.id<b.id)->(if (l.foldl (pV x) (false,o)).1 then (l.foldl (pV x) (false,o)).2 else (l.foldl (pV x) (false,o)).2++[x])=o++aN l x:=by
 intro l
 induction l with
 | nil=>intro o _;simp [aN,iB,below]
 | cons y t ih =>
   intro o hp
   rw [List.pairwise_cons] at hp
   by_cases h:x.id<=y.id
   · rw [Us h hp.1]
     by_cases h2:y.id=x.id
     · simp [pV,h2,nY,kZ]
     · simp [pV,h,h2,nY,kZ]
   · have h2:¬ y.id=x.id:=by omega
     have:=ih (o++[y]) hp.2
     rw [D_ (by omega)]
     simp only [List.foldl_cons,pV,h,h2,decide_false,Bool.false_and,Bool.false_eq_true,if_false]
     rw [this];simp
theorem Ni (r:List Producer):rising r↔r.Pairwise (fun a b=>a.id<b.id):=by
 rw [List.pairwise_iff_getElem]
 constructor
 · intro h i j hi hj hij
   have:=h i j hij hj
   simpa [hi,hj] using this
 · intro h i j hij hj
   have:=h i j (by omega) hj hij
   simpa [show i<r.length by omega,hj] using this
theorem wQ {l:List Producer} {x:Producer} (h:rising l):mg l x=aN l x:=by
 have:=zT x l [] ((Ni l).1 h)
 simpa [mg,bI] using this
noncomputable def ZP (b:Bool) (l:List Producer) (x:Producer):dO Tryz.prog:=⟨145,[bG b l,.agg (ay x)],[],.need (l.length*32<=140737488355200/\rising l) (Yp l x),T.Sat.need fun h=>by
 have:=JG b l x h.1
 rw [Pp,wQ h.2] at this
 exact this⟩
noncomputable def Zf (b:Bool) (l:List Producer) (x:Producer) (hl:l.length<=9223372036854775806):aC Tryz.prog :=
 hh _ bB (cs1 122 1 1 (ae7 b l hl) (cs1 122 2 3 (MR b l x.id x.seq hl) (cs1 122 9 6 (aee b l x.id hl) (cs1 122 11 5 (ZP b l x) bA)))) bq
def SA (b:Bool) (l:List Producer) (id:Int) (seq:Int) (o:Int) (hl:l.length<=9223372036854775806):Prop :=
 ((b=b/\l.length=l.length/\ak l.length 4 (ah ay l) (ah ay l))/\True)/\True/\((b=b/\l.length=l.length/\ak l.length 4 (ah ay l) (ah ay l))/\id=id/\seq=seq/\True)/\True/\((!cK l)=true->((aP l (bY id seq true o)==0)=true->(False/\(1:Int)=0/\True)/\False)/\((aP l (bY id seq true o)==0)=false->(True/\1=aP l (bY id seq true o)/\True)/\True))/\((!cK l)=false->((bg l id seq==4)=true->((aP l (bY id seq true o)==0)=true->(False/\(151:Int)=0/\True)/\False)/\((aP l (bY id seq true o)==0)=false->(True/\151=aP l (bY id seq true o)/\True)/\True))/\((bg l id seq==4)=false->((bg l id seq != 1)=true->((aP l (bY id seq true o)==0)=true->(False/\(152:Int)=0/\True)/\False)/\((aP l (bY id seq true o)==0)=false->(True/\152=aP l (bY id seq true o)/\True)/\True))/\((bg l id seq != 1)=false->(decide (256<=(l.length:Int))=true->((b=b/\l.length=l.length/\ak l.length 4 (ah ay l) (ah ay l))/\id=id/\True)/\True/\(decide (ig l id<0)=true->((aP l (bY id seq true o)==0)=true->(False/\(153:Int)=0/\True)/\False)/\((aP l (bY id seq true o)==0)=false->(True/\153=aP l (bY id seq true o)/\True)/\True))/\(decide (ig l id<0)=false->((b=b/\l.length=l.length/\ak l.length 4 (ah ay l) (ah ay l))/\(id=id/\seq=seq/\true=true/\o=o/\True)/\True)/\True/\(l.length*32<=140737488355200/\∀ (i j:Nat),i<j->j<l.length->(l.getD i default).id<(l.getD j default).id)/\((aP l (bY id seq true o)==0)=true->((0=0/\(aN l (bY id seq true o)).length=(aN l (bY id seq true o)).length)/\(0:Int)=0/\True)/\((aN l (bY id seq true o)).length=(aN l (bY id seq true o)).length/\ak (aN l (bY id seq true o)).length 4 (ah ay (aN l (bY id seq true o))) (ah ay (aN l (bY id seq true o))))/\True)/\((aP l (bY id seq true o)==0)=false->False)))/\(decide (256<=(l.length:Int))=false->((b=b/\l.length=l.length/\ak l.length 4 (ah ay l) (ah ay l))/\(id=id/\seq=seq/\true=true/\o=o/\True)/\True)/\True/\(l.length*32<=140737488355200/\∀ (i j:Nat),i<j->j<l.length->(l.getD i default).id<(l.getD j default).id)/\((aP l (bY id seq true o)==0)=true->((0=0/\(aN l (bY id seq true o)).length=(aN l (bY id seq true o)).length)/\(0:Int)=0/\True)/\((aN l (bY id seq true o)).length=(aN l (bY id seq true o)).length/\ak (aN l (bY id seq true o)).length 4 (ah ay (aN l (bY id seq true o))) (ah ay (aN l (bY id seq true o))))/\True)/\((aP l (bY id seq true o)==0)=false->False)))))
theorem Nt (b:Bool) (l:List Producer) (id:Int) (seq:Int) (o:Int) (hl:l.length<=9223372036854775806):(aZ Tryz.prog (Zf b l (bY id seq true o) hl) 122 [bG b l,.y (.int .u64 id),.y (.int .u64 seq),.y (.int .u64 o)] [] (lV l (bY id seq true o)))=SA b l id seq o hl:=by kernel_rfl
theorem Qp (b:Bool) (l:List Producer) (id seq o:Int) (hl:l.length<=9223372036854775806):(lV l (bY id seq true o)).Sat (au Tryz.prog 122 [bG b l,.y (.int .u64 id),.y (.int .u64 seq),.y (.int .u64 o)] []):=by
 refine aR (ht:=Zf b l (bY id seq true o) hl) Tryz.mixed rfl ?_
 rw [Nt b l id seq o hl]
 unfold SA
 have h1:cK l=true->l.length<=256:=by unfold cK;simp
 by_cases ht:cK l=true
 · have h2:=h1 ht
   have h3:=kH ht
   by_cases h4:bg l id seq=4
   · simp [aP,bY,ht,h4]
   · by_cases h5:bg l id seq=1
     · cases hf:bT l id
       · by_cases hn:l.length=256
         · simp [aP,bY,ht,h5,hf,hn,ig]
         · have hn':¬ ((256:Int)<=l.length):=by omega
           simp [aP,bY,ht,h5,hf,hn,hn',ig]
           exact ⟨by omega,h3⟩
       · have hz:¬ (((l.findIdx (has id):Nat):Int)<0):=by omega
         by_cases hn:(256:Int)<=l.length
         · simp [aP,bY,ht,h5,hf,ig,hz,hn]
           exact ⟨by omega,h3⟩
         · simp [aP,bY,ht,h5,hf,ig,hn]
           exact ⟨by omega,h3⟩
     · simp [aP,bY,ht,h4,h5]
 · simp [aP,bY,ht]
noncomputable def adG (b:Bool) (l:List Producer) (id seq o:Int) (hl:l.length<=9223372036854775806):dO Tryz.prog:=⟨122,[bG b l,.y (.int .u64 id),.y (.int .u64 seq),.y (.int .u64 o)],[],lV l (bY id seq true o),Qp b l id seq o hl⟩
def encI (x:Int):List AV:=[.y (.int .u64 x)]
def Gp (b:Bool) (l:List Int):AV:=.ys b 1 l.length (ah encI l)
def yZ (r:List Producer):T An:=.ret (.own 0 4 0 r.length,[.row 80 4 r.length none (ah ay r)],[])
def lat (x y:Producer):Bool:=decide (y.seq<x.seq)||(x.seq==y.seq&&(x.here&&!y.here))
def bM (b:Bool):T An:=.ret (.y (.bool b),[],[])
def bst (s:List Producer) (x:Producer):List Producer:=if !bT s x.id||lat x (findD s x.id) then aN s x else s
def both (s m:List Producer) (k:Nat):List Producer:=(m.take k).foldl bst s
theorem Rw {l:List Producer} {x z:Producer} (h:z∈aN l x):z=x∨z∈l:=by
 unfold aN at h
 rw [List.mem_append,List.mem_cons] at h
 rcases h with h | h | h
 · exact Or.inr (List.mem_filter.1 (List.mem_of_mem_take h)).1
 · exact Or.inl h
 · exact Or.inr (List.mem_filter.1 (List.mem_of_mem_drop h)).1
noncomputable def ag1 (b:Bool) (l:List Producer):dO Tryz.prog:=⟨45,[bG b l],[],.need (l.length<=9223372036854775806) (Gu l),T.Sat.need fun h=>Lf b l h⟩
noncomputable def acW (b:Bool) (l:List Producer):dO Tryz.prog:=⟨51,[bG b l],[],.need (l.length<=9223372036854775806) (Gu l),T.Sat.need fun h=>Hz b l h⟩
end P
section
structure Part where
 rng:kW
 epoch:Int
 frozen:Int
 recs:List Rec
 prods:List P.Producer
 cons:List Con
instance:Inhabited Part:=⟨⟨default,0,0,[],[],[]⟩⟩
def aW (b:Bool) (p:Part):List AV:=[.y (.string p.rng.lo),.y (.string p.rng.hi),.y (.int .u64 p.epoch),.y (.int .u64 p.frozen),bZ b p.recs,P.bG b p.prods,dR b p.cons]
def bE (x y:Bool) (p q:Part):Prop:=p.rng.lo=q.rng.lo/\p.rng.hi=q.rng.hi/\p.epoch=q.epoch/\p.frozen=q.frozen/\(x=y/\List.length p.recs=List.length q.recs/\ak (List.length p.recs) (5:Nat) (ah encR p.recs) (ah encR q.recs))/\(x=y/\List.length p.prods=List.length q.prods/\ak (List.length p.prods) (4:Nat) (ah P.ay p.prods) (ah P.ay q.prods))/\(x=y/\List.length p.cons=List.length q.cons/\ak (List.length p.cons) (2:Nat) (ah aJ p.cons) (ah aJ q.cons))/\True
@[simp] theorem ags (x y:Bool) (p q:Part):bE x y p q=(p.rng.lo=q.rng.lo/\p.rng.hi=q.rng.hi/\p.epoch=q.epoch/\p.frozen=q.frozen/\(x=y/\List.length p.recs=List.length q.recs/\ak (List.length p.recs) (5:Nat) (ah encR p.recs) (ah encR q.recs))/\(x=y/\List.length p.prods=List.length q.prods/\ak (List.length p.prods) (4:Nat) (ah P.ay p.prods) (ah P.ay q.prods))/\(x=y/\List.length p.cons=List.length q.cons/\ak (List.length p.cons) (2:Nat) (ah aJ p.cons) (ah aJ q.cons))/\True):=rfl
abbrev Kn:=(Int->Bool)×(Int->Int)
abbrev Kn.put (s:Kn) (a b:Int):Kn:=(ko s.1 a,yT s.2 a b)
abbrev Kn.sel (s:Kn) (a:Int):Int:=Al (s.1 a) (s.2 a)
def kn0:Kn:=(fun _=>false,fun _=>0)
def mU (l:List P.Producer):Kn:=l.foldl (fun s x=>s.put x.id x.seq) kn0
def lN (l:List Rec):Kn:=l.foldl (fun s x=>s.put x.prod x.seq) kn0
theorem Hq {l:List P.Producer} {k:Nat} (h:k<l.length):mU (l.take (k+1))=(mU (l.take k)).put (l.getD k default).id (l.getD k default).seq:=by
 unfold mU
 rw [List.take_add_one,List.foldl_append,List.getElem?_eq_getElem h]
 simp [List.getElem?_eq_getElem h]
theorem H_ {l:List Rec} {k:Nat} (h:k<l.length):lN (l.take (k+1))=(lN (l.take k)).put (l.getD k default).prod (l.getD k default).seq:=by
 unfold lN
 rw [List.take_add_one,List.foldl_append,List.getElem?_eq_getElem h]
 simp [List.getElem?_eq_getElem h]
def abp (s:Kn):aH:=.mi .u64 .u64 s.1 s.2
def NA (b:Bool) (p:Part) (s:Kn):List aH:=[.box 30 (aW b p),abp s]
def Tn (b:Bool) (p:Part) (k:Nat):List AV:=mkT 61 [(1,.ptr 0 0 0 0),(3,.mref 1),(11,P.bG b p.prods),(12,.y (.int .i64 p.prods.length)),(13,.y (.int .i64 k))]
def Wi (b:Bool) (p:Part) (_:Unit):Exit×List AV×List aH:=(.exit 0,mkT 61 [(1,.ptr 0 0 0 0),(3,.mref 1)],NA b p (mU p.prods))
def Cx:List Nat:=[0,1,2,3,4,5,6,7,8,9]
def Za (b:Bool) (p:Part) (k:Nat):Prop :=
 (decide ((k:Int)<(p.prods.length:Int))=true->(true&&decide ((k:Int)<(p.prods.length:Int)))=true/\∃ j:Nat,p.prods.length - j<p.prods.length - k/\(((0=0/\0=0)/\True/\(b=b/\p.prods.length=p.prods.length/\ak p.prods.length 4 (ah P.ay p.prods) (ah P.ay p.prods))/\(p.prods.length:Int)=(p.prods.length:Int)/\IntKind.i64.wrap ((k:Int)+1)=(j:Int)/\True)/\((bE b b p p)/\(IntKind.u64=IntKind.u64/\IntKind.u64=IntKind.u64/\∀ (x:Int),ko (mU (List.take k p.prods)).fst (p.prods.getD (Int.toNat (k:Int)) default).id x=(mU (List.take j p.prods)).fst x/\(ko (mU (List.take k p.prods)).fst (p.prods.getD (Int.toNat (k:Int)) default).id x=true->yT (mU (List.take k p.prods)).snd (p.prods.getD (Int.toNat (k:Int)) default).id (p.prods.getD (Int.toNat (k:Int)) default).seq x=(mU (List.take j p.prods)).snd x))/\True)/\true=true)/\true=true/\()=())/\(decide ((k:Int)<(p.prods.length:Int))=false->((0=0/\0=0)/\True/\True)/\((bE b b p p)/\(IntKind.u64=IntKind.u64/\IntKind.u64=IntKind.u64/\∀ (x:Int),(mU (List.take k p.prods)).fst x=(mU p.prods).fst x/\((mU (List.take k p.prods)).fst x=true->(mU (List.take k p.prods)).snd x=(mU p.prods).snd x))/\True)/\true=true)
theorem Tz (b:Bool) (p:Part) (k:Nat):(cu Tryz.prog (hT _) 47 3 (fun k=>p.prods.length - k) (Tn b p) (fun k=>NA b p (mU (p.prods.take k))) Cx (fun _=>.ret ()) (Wi b p) k)=Za b p k:=by kernel_rfl
def RV (b:Bool) (p:Part) (k:Nat):List aH:=[.box 30 (aW b p),abp (mU p.prods),abp (lN (p.recs.take k))]
def OZ (b:Bool) (p:Part) (k:Nat):List AV:=mkT 61 [(1,.ptr 0 0 0 0),(3,.mref 1),(6,.mref 2),(25,bZ b p.recs),(26,.y (.int .i64 p.recs.length)),(27,.y (.int .i64 k))]
def Xq (r:Bool):Exit×List AV×List aH:=match r with
 | true=>(.exit 2,mkT 61 [],[])
 | false=>(.ret,mkT 61 [(2,.s (.bool false))],[])
def okO (p:Part) (k:Nat):Bool :=
 let x:=p.recs.getD k default
 h_ p.rng x.key&&(!decide (x.seq<=(lN (p.recs.take k)).sel x.prod)&&!decide ((mU p.prods).sel x.prod<x.seq))
def bO (p:Part) (k:Nat):Bool:=(List.range' k (p.recs.length - k)).all fun j=>okO p j
theorem tX {p:Part} {k:Nat} (h:p.recs.length<=k):bO p k=true:=by
 unfold bO
 rw [show p.recs.length - k=0 by omega];rfl
theorem ql {p:Part} {k:Nat} (h:k<p.recs.length):bO p k=(okO p k&&bO p (k+1)):=by
 unfold bO
 rw [show p.recs.length - k=(p.recs.length - (k+1))+1 by omega,List.range'_succ];rfl
def Ua (p:Part) (k:Nat):T Bool:=.ite (bO p k) (.ret true) (.ret false)
noncomputable def ag5 (p:Part) (k:Nat):aC Tryz.prog:=hh _ bB (cs1 47 11 4 (afz p.rng (p.recs.getD k default).key) bA) bq
def Y2 (b:Bool) (p:Part) (k:Nat):Prop :=
 (decide ((k:Int)<(p.recs.length:Int))=true->(true&&decide ((k:Int)<(p.recs.length:Int)))=true/\((p.rng.lo=p.rng.lo/\p.rng.hi=p.rng.hi/\True)/\(p.recs.getD (Int.toNat (k:Int)) default).key=(p.recs.getD k default).key/\True)/\True/\((!h_ p.rng (p.recs.getD k default).key)=true->(bO p k=true->False)/\(bO p k=false->(false=false/\True)/\True/\true=true))/\((!h_ p.rng (p.recs.getD k default).key)=false->(decide ((p.recs.getD (Int.toNat (k:Int)) default).seq<=Al ((lN (List.take k p.recs)).fst (p.recs.getD (Int.toNat (k:Int)) default).prod) ((lN (List.take k p.recs)).snd (p.recs.getD (Int.toNat (k:Int)) default).prod))=true->(bO p k=true->False)/\(bO p k=false->(false=false/\True)/\True/\true=true))/\(decide ((p.recs.getD (Int.toNat (k:Int)) default).seq<=Al ((lN (List.take k p.recs)).fst (p.recs.getD (Int.toNat (k:Int)) default).prod) ((lN (List.take k p.recs)).snd (p.recs.getD (Int.toNat (k:Int)) default).prod))=false->(decide (Al ((mU p.prods).fst (p.recs.getD (Int.toNat (k:Int)) default).prod) ((mU p.prods).snd (p.recs.getD (Int.toNat (k:Int)) default).prod)<(p.recs.getD (Int.toNat (k:Int)) default).seq)=true->(bO p k=true->False)/\(bO p k=false->(false=false/\True)/\True/\true=true))/\(decide (Al ((mU p.prods).fst (p.recs.getD (Int.toNat (k:Int)) default).prod) ((mU p.prods).snd (p.recs.getD (Int.toNat (k:Int)) default).prod)<(p.recs.getD (Int.toNat (k:Int)) default).seq)=false->∃ j:Nat,p.recs.length - j<p.recs.length - k/\(((0=0/\0=0)/\True/\True/\(b=b/\p.recs.length=p.recs.length/\ak p.recs.length 5 (ah encR p.recs) (ah encR p.recs))/\(p.recs.length:Int)=(p.recs.length:Int)/\IntKind.i64.wrap ((k:Int)+1)=(j:Int)/\True)/\((bE b b p p)/\(IntKind.u64=IntKind.u64/\IntKind.u64=IntKind.u64/\∀ (x:Int),(mU p.prods).fst x=(mU p.prods).fst x/\((mU p.prods).fst x=true->(mU p.prods).snd x=(mU p.prods).snd x))/\(IntKind.u64=IntKind.u64/\IntKind.u64=IntKind.u64/\∀ (x:Int),ko (lN (List.take k p.recs)).fst (p.recs.getD (Int.toNat (k:Int)) default).prod x=(lN (List.take j p.recs)).fst x/\(ko (lN (List.take k p.recs)).fst (p.recs.getD (Int.toNat (k:Int)) default).prod x=true->yT (lN (List.take k p.recs)).snd (p.recs.getD (Int.toNat (k:Int)) default).prod (p.recs.getD (Int.toNat (k:Int)) default).seq x=(lN (List.take j p.recs)).snd x))/\True)/\true=true)/\true=true/\(bO p j=true->(bO p k=true->true=true)/\(bO p k=false->true=false))/\(bO p j=false->(bO p k=true->false=true)/\(bO p k=false->false=false))))))/\(decide ((k:Int)<(p.recs.length:Int))=false->(bO p k=true->True/\True/\true=true)/\(bO p k=false->False))
theorem R5 (b:Bool) (p:Part) (k:Nat):(cu Tryz.prog (ag5 p k) 47 9 (fun k=>p.recs.length - k) (OZ b p) (RV b p) Cx (Ua p) Xq k)=Y2 b p k:=by kernel_rfl
noncomputable def orH (b:Bool) (p:Part):aC Tryz.prog:=hh _ (nu 47 3 (eP (Tn b p) (fun k=>NA b p (mU (p.prods.take k))) Cx (fun _=>.ret ()) (Wi b p) 0) (nu 47 9 (eP (OZ b p) (RV b p) Cx (Ua p) Xq 0) bB)) bA bq
def agd (b:Bool) (p:Part):Prop :=
 (((0=0/\0=0)/\True/\(b=b/\p.prods.length=p.prods.length/\ak p.prods.length 4 (ah P.ay p.prods) (ah P.ay p.prods))/\(p.prods.length:Int)=(p.prods.length:Int)/\(0:Int)=0/\True)/\((bE b b p p)/\(∀ (x:Int),false=false)/\True)/\true=true)/\aQ Tryz.prog 47 3 (aS Tryz.prog 47 3) { t:=Tn b p 0,m:=NA b p (mU (List.take 0 p.prods)),mv:=[]:St } (T.map (bU Cx (Wi b p)) ((fun (x:Nat)=>T.ret ()) 0))/\(((0=0/\0=0)/\True/\True/\(b=b/\p.recs.length=p.recs.length/\ak p.recs.length 5 (ah encR p.recs) (ah encR p.recs))/\(p.recs.length:Int)=(p.recs.length:Int)/\(0:Int)=0/\True)/\((bE b b p p)/\(IntKind.u64=IntKind.u64/\IntKind.u64=IntKind.u64/\∀ (x:Int),(mU p.prods).fst x=(mU p.prods).fst x/\((mU p.prods).fst x=true->(mU p.prods).snd x=(mU p.prods).snd x))/\(∀ (x:Int),false=false)/\True)/\true=true)/\aQ Tryz.prog 47 9 (aS Tryz.prog 47 9) { t:=OZ b p 0,m:=RV b p 0,mv:=[]:St } (T.map (bU Cx Xq) (Ua p 0))/\(bO p 0=true->true=bO p 0/\True)/\(bO p 0=false->false=bO p 0/\True)
theorem Uj (b:Bool) (p:Part):(aZ Tryz.prog (orH b p) 47 [.agg (aW b p)] [] (bM (bO p 0)))=agd b p:=by kernel_rfl
theorem TS (b:Bool) (p:Part) (hl:p.prods.length<=9223372036854775806) (k:Nat):aQ Tryz.prog 47 3 (aS Tryz.prog 47 3) ⟨Tn b p k,NA b p (mU (p.prods.take k)),[]⟩ (T.map (bU Cx (Wi b p)) (.ret ())):=by
 refine fO (o:=fun _=>.ret ()) (qG:=fun k=>Tn b p k) (stM:=fun k=>NA b p (mU (p.prods.take k))) Tryz.mixed (fun _=>rfl) (fun k=>(Tz b p k).mpr ?_) k
 unfold Za
 by_cases h:k<p.prods.length
 · have hw:IntKind.i64.wrap ((k:Int)+1)=((k+1:Nat):Int):=by rw [wrap_i64 (by omega) (by omega)];omega
   have hs:=Hq h
   have hz:decide ((k:Int)<p.prods.length)=true:=by simp;omega
   rw [Int.toNat_natCast]
   simp only [hz]
   generalize p.prods.getD k default=x at *
   generalize mU (p.prods.take k)=s at *
   simp
   refine Exists.intro (k+1) ?_
   rw [hs]
   refine ⟨by omega,hw,fun y=>⟨rfl,fun _=>rfl⟩⟩
 · have hz:decide ((k:Int)<p.prods.length)=false:=by simp;omega
   rw [List.take_of_length_le (by omega)]
   simp [hz]
   exact fun e=>absurd e h
theorem TL (b:Bool) (p:Part) (hl:p.recs.length<=9223372036854775806) (k:Nat):aQ Tryz.prog 47 9 (aS Tryz.prog 47 9) ⟨OZ b p k,RV b p k,[]⟩ ((Ua p k).map (bU Cx Xq)):=by
 refine dU (o:=Ua p) (qG:=OZ b p) (stM:=RV b p) Tryz.mixed (fun _=>rfl) (fun k=>(R5 b p k).mpr ?_) k
 unfold Y2
 by_cases h:k<p.recs.length
 · have hw:IntKind.i64.wrap ((k:Int)+1)=((k+1:Nat):Int):=by rw [wrap_i64 (by omega) (by omega)];omega
   have hs:=H_ h
   have hf:=ql h
   have hz:decide ((k:Int)<p.recs.length)=true:=by simp;omega
   have ho:okO p k=(h_ p.rng (p.recs.getD k default).key&&(!decide ((p.recs.getD k default).seq<=(lN (p.recs.take k)).sel (p.recs.getD k default).prod)&&!decide ((mU p.prods).sel (p.recs.getD k default).prod<(p.recs.getD k default).seq))):=rfl
   rw [Int.toNat_natCast]
   simp only [hz,hf,ho]
   generalize p.recs.getD k default=x at *
   generalize lN (p.recs.take k)=s at *
   cases h1:h_ p.rng x.key
   · simp
   · by_cases h2:x.seq<=s.sel x.prod
     · simp [h2]
     · by_cases h3:(mU p.prods).sel x.prod<x.seq
       · simp [h2,h3]
       · simp [h2,h3]
         refine Exists.intro (k+1) ?_
         rw [hs]
         refine ⟨by omega,⟨hw,fun y=>⟨rfl,fun _=>rfl⟩⟩,?_⟩
         cases bO p (k+1)<;>simp
 · have hz:decide ((k:Int)<p.recs.length)=false:=by simp;omega
   simp only [hz,tX (p:=p) (k:=k) (by omega)]
   simp
theorem ahg (b:Bool) (p:Part) (h1:p.prods.length<=9223372036854775806) (h2:p.recs.length<=9223372036854775806):(bM (bO p 0)).Sat (au Tryz.prog 47 [.agg (aW b p)] []):=by
 refine aR (ht:=orH b p) Tryz.mixed rfl ?_
 rw [Uj b p]
 unfold agd
 have l1:=TS b p h1 0
 have l2:=TL b p h2 0
 rw [List.take_zero] at l1
 simp [l1,l2]
noncomputable def orC (b:Bool) (p:Part):dO Tryz.prog:=⟨47,[.agg (aW b p)],[],.need (p.prods.length<=9223372036854775806/\p.recs.length<=9223372036854775806) (bM (bO p 0)),T.Sat.need fun h=>ahg b p h.1 h.2⟩
def dB (p:Part) (x:P.Producer):Bool:=x.here&&(decide ((p.recs.length:Int)<=x.offset)||((p.recs.getD x.offset.toNat default).prod != x.id||(p.recs.getD x.offset.toNat default).seq != x.seq))
def LA (b:Bool) (p:Part):List AV:=[.ip false 1 (get [.y (.int .u64 (IntKind.u64.wrap p.recs.length))]),.ip false 7 (get (aW b p))]
def RY (b:Bool) (p:Part) (x:P.Producer):Prop :=
 (x.here=true->(decide (IntKind.u64.wrap (p.recs.length:Int)<=x.offset)=true->true=dB p x/\True)/\(decide (IntKind.u64.wrap (p.recs.length:Int)<=x.offset)=false->(decide (0<=x.offset)&&decide (x.offset<(p.recs.length:Int)))=true/\(((p.recs.getD (Int.toNat x.offset) default).prod != x.id)=true->true=dB p x/\True)/\(((p.recs.getD (Int.toNat x.offset) default).prod != x.id)=false->(decide (0<=x.offset)&&decide (x.offset<(p.recs.length:Int)))=true/\((p.recs.getD (Int.toNat x.offset) default).seq != x.seq)=dB p x/\True)))/\(x.here=false->false=dB p x/\True)
theorem Nc (b:Bool) (p:Part) (x:P.Producer):(aZ Tryz.prog (hT _) 42 ([.agg (P.ay x)]++LA b p) [] (bM (dB p x)))=RY b p x:=by kernel_rfl
def dw (n:Nat) (x:Con):Bool:=decide ((n:Int)<x.off)
def FM (n:Nat):List AV:=[.ip false 1 (get [.y (.int .u64 (IntKind.u64.wrap n))])]
def Lm (n:Nat) (x:Con):Prop :=
 decide (IntKind.u64.wrap (n:Int)<x.off)=dw n x/\True
theorem JF (n:Nat) (x:Con):(aZ Tryz.prog (hT _) 43 ([.agg (aJ x)]++FM n) [] (bM (dw n x)))=Lm n x:=by kernel_rfl
theorem aaN (b:Bool) (p:Part) (x:P.Producer) (h1:p.recs.length<=9223372036854775806) (h2:0<=x.offset):(bM (dB p x)).Sat (au Tryz.prog 42 ([.agg (P.ay x)]++LA b p) []):=by
 refine aR (ht:=hT _) Tryz.mixed rfl ?_
 rw [Nc b p x]
 unfold RY
 have hw:IntKind.u64.wrap (p.recs.length:Int)=p.recs.length:=wrap_u64 (by omega) (by omega)
 simp only [hw]
 unfold dB
 generalize p.recs.getD x.offset.toNat default=y
 cases hh:x.here
 · simp
 · by_cases h3:(p.recs.length:Int)<=x.offset
   · simp [h3]
   · have h4:x.offset<p.recs.length:=by omega
     by_cases h5:y.prod=x.id<;>by_cases h6:y.seq=x.seq<;>simp [h3,h4,h2,h5,h6]
theorem Yi (n:Nat) (x:Con) (h1:n<=9223372036854775806):(bM (dw n x)).Sat (au Tryz.prog 43 ([.agg (aJ x)]++FM n) []):=by
 refine aR (ht:=hT _) Tryz.mixed rfl ?_
 rw [JF n x]
 unfold Lm
 have hw:IntKind.u64.wrap (n:Int)=n:=wrap_u64 (by omega) (by omega)
 simp [hw,dw]
def Yq (b:Bool) (p:Part):AV:=.fn (.func 42) [] (LA b p)
def iV (b:Bool) (p:Part) (l:List P.Producer):Bool:=l.any (dB p)
theorem M7 (b:Bool) (p:Part):iV b p []=false:=rfl
theorem KE (b:Bool) (p:Part) (y:P.Producer) (l:List P.Producer):iV b p (y::l)=(dB p y||iV b p l):=rfl
noncomputable def loC (b:Bool) (p:Part) (x:P.Producer):dO Tryz.prog:=⟨42,[.agg (P.ay x)]++(LA b p),[],.need (p.recs.length<=9223372036854775806/\0<=x.offset) (bM (dB p x)),T.Sat.need fun h=>aaN b p x h.1 h.2⟩
def loT (b:Bool) (p:Part) (bb:Bool) (l:List P.Producer) (k:Nat):List AV:=mkT 19 [(0,.ys bb 4 l.length (ah P.ay l)),(1,Yq b p),(4,.s (.int .i64 0)),(7,.y (.int .i64 l.length)),(8,.y (.int .i64 k))]
def loS (r:Bool×Nat):Exit×List AV×List aH:=match r.1 with
 | true=>(.ret,mkT 19 [(4,.y (.int .i64 r.2))],[])
 | false=>(.exit 0,mkT 19 [],[])
def loO (b:Bool) (p:Part) (l:List P.Producer) (k:Nat):T (Bool×Nat):=.ite (iV b p (l.drop k)) (.ret (true,k+(l.drop k).findIdx (dB p))) (.ret (false,0))
noncomputable def afV (b:Bool) (p:Part) (l:List P.Producer) (k:Nat):aC Tryz.prog:=hh _ bB (cs1 116 4 5 (loC b p (l.getD k default)) bA) bq
def Y0 (b:Bool) (p:Part) (bb:Bool) (l:List P.Producer) (k:Nat):Prop :=
 (decide ((↑k:Int)<(↑(List.length l):Int))=true->(true&&decide ((↑k:Int)<(↑(List.length l):Int)))=true/\(((List.getD l (Int.toNat (↑k:Int)) (@default P.Producer P.instInhabitedProducer)).id=(List.getD l k (@default P.Producer P.instInhabitedProducer)).id/\(List.getD l (Int.toNat (↑k:Int)) (@default P.Producer P.instInhabitedProducer)).seq=(List.getD l k (@default P.Producer P.instInhabitedProducer)).seq/\(List.getD l (Int.toNat (↑k:Int)) (@default P.Producer P.instInhabitedProducer)).here=(List.getD l k (@default P.Producer P.instInhabitedProducer)).here/\(List.getD l (Int.toNat (↑k:Int)) (@default P.Producer P.instInhabitedProducer)).offset=(List.getD l k (@default P.Producer P.instInhabitedProducer)).offset/\True)/\(false=false/\(1:Nat)<=(1:Nat)/\eT (1:Nat) (Ax.get [AV.y (Value.int IntKind.u64 (IntKind.wrap IntKind.u64 (↑(List.length p.recs):Int)))]) (Ax.get [AV.y (Value.int IntKind.u64 (IntKind.wrap IntKind.u64 (↑(List.length p.recs):Int)))]))/\(false=false/\(7:Nat)<=(7:Nat)/\eT (7:Nat) (Ax.get [AV.y (Value.string p.rng.lo),AV.y (Value.string p.rng.hi),AV.y (Value.int IntKind.u64 p.epoch),AV.y (Value.int IntKind.u64 p.frozen),AV.ys b (5:Nat) (List.length p.recs) (ah encR p.recs),AV.ys b (4:Nat) (List.length p.prods) (ah P.ay p.prods),AV.ys b (2:Nat) (List.length p.cons) (ah aJ p.cons)]) (Ax.get [AV.y (Value.string p.rng.lo),AV.y (Value.string p.rng.hi),AV.y (Value.int IntKind.u64 p.epoch),AV.y (Value.int IntKind.u64 p.frozen),AV.ys b (5:Nat) (List.length p.recs) (ah encR p.recs),AV.ys b (4:Nat) (List.length p.prods) (ah P.ay p.prods),AV.ys b (2:Nat) (List.length p.cons) (ah aJ p.cons)]))/\True)/\True/\(List.length p.recs<=(9223372036854775806:Nat)/\(0:Int)<=(List.getD l k (@default P.Producer P.instInhabitedProducer)).offset)/\(dB p (List.getD l k (@default P.Producer P.instInhabitedProducer))=true->(iV b p (List.drop k l)=true->((↑k:Int)=(↑(k+List.findIdx (dB p) (List.drop k l)):Int)/\True)/\True/\true=true)/\(iV b p (List.drop k l)=false->False))/\(dB p (List.getD l k (@default P.Producer P.instInhabitedProducer))=false->∃ (j:Nat),List.length l - j<List.length l - k/\(((bb=bb/\List.length l=List.length l/\ak (List.length l) (4:Nat) (ah P.ay l) (ah P.ay l))/\(True/\(false=false/\(1:Nat)<=(1:Nat)/\eT (1:Nat) (Ax.get [AV.y (Value.int IntKind.u64 (IntKind.wrap IntKind.u64 (↑(List.length p.recs):Int)))]) (Ax.get [AV.y (Value.int IntKind.u64 (IntKind.wrap IntKind.u64 (↑(List.length p.recs):Int)))]))/\(false=false/\(7:Nat)<=(7:Nat)/\eT (7:Nat) (Ax.get [AV.y (Value.string p.rng.lo),AV.y (Value.string p.rng.hi),AV.y (Value.int IntKind.u64 p.epoch),AV.y (Value.int IntKind.u64 p.frozen),AV.ys b (5:Nat) (List.length p.recs) (ah encR p.recs),AV.ys b (4:Nat) (List.length p.prods) (ah P.ay p.prods),AV.ys b (2:Nat) (List.length p.cons) (ah aJ p.cons)]) (Ax.get [AV.y (Value.string p.rng.lo),AV.y (Value.string p.rng.hi),AV.y (Value.int IntKind.u64 p.epoch),AV.y (Value.int IntKind.u64 p.frozen),AV.ys b (5:Nat) (List.length p.recs) (ah encR p.recs),AV.ys b (4:Nat) (List.length p.prods) (ah P.ay p.prods),AV.ys b (2:Nat) (List.length p.cons) (ah aJ p.cons)]))/\True)/\(0:Int)=(0:Int)/\(↑(List.length l):Int)=(↑(List.length l):Int)/\IntKind.wrap IntKind.i64 ((↑k:Int)+(1:Int))=(↑j:Int)/\True)/\True/\true=true)/\true=true/\(iV b p (List.drop j l)=true->(iV b p (List.drop k l)=true->(true,j+List.findIdx (dB p) (List.drop j l))=(true,k+List.findIdx (dB p) (List.drop k l)))/\(iV b p (List.drop k l)=false->(true,j+List.findIdx (dB p) (List.drop j l))=(false,(0:Nat))))/\(iV b p (List.drop j l)=false->(iV b p (List.drop k l)=true->(false,(0:Nat))=(true,k+List.findIdx (dB p) (List.drop k l)))/\(iV b p (List.drop k l)=false->(false,(0:Nat))=(false,(0:Nat))))))/\(decide ((↑k:Int)<(↑(List.length l):Int))=false->(iV b p (List.drop k l)=true->False)/\(iV b p (List.drop k l)=false->True/\True/\true=true))
theorem Tf (b:Bool) (p:Part) (bb:Bool) (l:List P.Producer) (k:Nat):(cu Tryz.prog (afV b p l k) 116 2 (fun k=>l.length - k) (loT b p bb l) (fun _=>[]) [0] (loO b p l) loS k)=Y0 b p bb l k:=by kernel_rfl
theorem XL (b:Bool) (p:Part) (bb:Bool) (l:List P.Producer) (hl:l.length<=9223372036854775806) (hn:∀ k,k<l.length->(p.recs.length<=9223372036854775806/\0<=(l.getD k default).offset)) (k:Nat):aQ Tryz.prog 116 2 (aS Tryz.prog 116 2) ⟨loT b p bb l k,[],[]⟩ ((loO b p l k).map (bU [0] loS)):=by
 refine dU (ht:=fun k=>afV b p l k) Tryz.mixed (fun _=>rfl) (fun k=>(Tf b p bb l k).mpr ?_) k
 unfold Y0
 by_cases h:k<l.length
 · have hw:IntKind.i64.wrap ((k:Int)+1)=((k+1:Nat):Int):=by rw [wrap_i64 (by omega) (by omega)];omega
   have hz:decide ((k:Int)<l.length)=true:=by simp;omega
   have hd:l.drop k=l.getD k default::l.drop (k+1):=by rw [drop_cons h];simp
   have hk:=hn k h
   rw [Int.toNat_natCast]
   simp only [hz,hd,KE,List.findIdx_cons]
   generalize l.getD k default=y at *
   cases hp:dB p y
   · simp [hw,hk]
     exact ⟨k+1,by omega,by omega,by grind⟩
   · simp [hk]
 · have hz:decide ((k:Int)<l.length)=false:=by simp;omega
   simp only [hz,jJ (Nat.le_of_not_lt h),M7]
   simp
noncomputable def loH (b:Bool) (p:Part) (bb:Bool) (l:List P.Producer):aC Tryz.prog:=hh _ (nu 116 2 (eP (loT b p bb l) (fun _=>[]) [0] (loO b p l) loS 0) bB) bA bq
def YR (b:Bool) (p:Part) (bb:Bool) (l:List P.Producer):Prop :=
 (((bb=bb/\l.length=l.length/\ak l.length 4 (ah P.ay l) (ah P.ay l))/\(True/\(false=false/\1<=1/\eT 1 (Ax.get [AV.y (.int .u64 (IntKind.u64.wrap (p.recs.length:Int)))]) (Ax.get [AV.y (.int .u64 (IntKind.u64.wrap (p.recs.length:Int)))]))/\(false=false/\7<=7/\eT 7 (Ax.get [AV.y (.string p.rng.lo),AV.y (.string p.rng.hi),AV.y (.int .u64 p.epoch),AV.y (.int .u64 p.frozen),AV.ys b 5 p.recs.length (ah encR p.recs),AV.ys b 4 p.prods.length (ah P.ay p.prods),AV.ys b 2 p.cons.length (ah aJ p.cons)]) (Ax.get [AV.y (.string p.rng.lo),AV.y (.string p.rng.hi),AV.y (.int .u64 p.epoch),AV.y (.int .u64 p.frozen),AV.ys b 5 p.recs.length (ah encR p.recs),AV.ys b 4 p.prods.length (ah P.ay p.prods),AV.ys b 2 p.cons.length (ah aJ p.cons)]))/\True)/\(0:Int)=0/\(l.length:Int)=(l.length:Int)/\(0:Int)=0/\True)/\True/\true=true)/\aQ Tryz.prog 116 2 (aS Tryz.prog 116 2) { t:=loT b p bb l 0,m:=[],mv:=[]:St } (T.map (bU [0] loS) (loO b p l 0))/\(iV b p (List.drop 0 l)=true->true=iV b p l/\True)/\(iV b p (List.drop 0 l)=false->false=iV b p l/\True)
theorem Qr (b:Bool) (p:Part) (bb:Bool) (l:List P.Producer):(aZ Tryz.prog (loH b p bb l) 48 [.ys bb 4 l.length (ah P.ay l),Yq b p] [] (bM (iV b p l)))=YR b p bb l:=by kernel_rfl
theorem acP (b:Bool) (p:Part) (bb:Bool) (l:List P.Producer) (hl:l.length<=9223372036854775806) (hn:∀ k,k<l.length->(p.recs.length<=9223372036854775806/\0<=(l.getD k default).offset)):(bM (iV b p l)).Sat (au Tryz.prog 48 [.ys bb 4 l.length (ah P.ay l),Yq b p] []):=by
 refine aR (ht:=loH b p bb l) Tryz.mixed rfl ?_
 rw [Qr b p bb l]
 unfold YR
 have:=XL b p bb l hl hn 0
 simp [this]
noncomputable def afZ (b:Bool) (p:Part) (bb:Bool) (l:List P.Producer):dO Tryz.prog:=⟨48,[.ys bb 4 l.length (ah P.ay l),Yq b p],[],.need (l.length<=9223372036854775806/\∀ k,k<l.length->(p.recs.length<=9223372036854775806/\0<=(l.getD k default).offset)) (bM (iV b p l)),T.Sat.need fun h=>acP b p bb l h.1 h.2⟩
def Vx (m:Nat):AV:=.fn (.func 43) [] (FM m)
def iY (m:Nat) (l:List Con):Bool:=l.any (dw m)
theorem Ot (m:Nat):iY m []=false:=rfl
theorem Jk (m:Nat) (y:Con) (l:List Con):iY m (y::l)=(dw m y||iY m l):=rfl
noncomputable def ahC (m:Nat) (x:Con):dO Tryz.prog:=⟨43,[.agg (aJ x)]++(FM m),[],.need (m<=9223372036854775806) (bM (dw m x)),T.Sat.need fun h=>Yi m x h⟩
def ahT (m:Nat) (bb:Bool) (l:List Con) (k:Nat):List AV:=mkT 19 [(0,.ys bb 2 l.length (ah aJ l)),(1,Vx m),(4,.s (.int .i64 0)),(7,.y (.int .i64 l.length)),(8,.y (.int .i64 k))]
def ahS (r:Bool×Nat):Exit×List AV×List aH:=match r.1 with
 | true=>(.ret,mkT 19 [(4,.y (.int .i64 r.2))],[])
 | false=>(.exit 0,mkT 19 [],[])
def ahO (m:Nat) (l:List Con) (k:Nat):T (Bool×Nat):=.ite (iY m (l.drop k)) (.ret (true,k+(l.drop k).findIdx (dw m))) (.ret (false,0))
noncomputable def acZ (m:Nat) (l:List Con) (k:Nat):aC Tryz.prog:=hh _ bB (cs1 117 4 5 (ahC m (l.getD k default)) bA) bq
def YZ (m:Nat) (bb:Bool) (l:List Con) (k:Nat):Prop :=
 (decide ((↑k:Int)<(↑(List.length l):Int))=true->(true&&decide ((↑k:Int)<(↑(List.length l):Int)))=true/\(((List.getD l (Int.toNat (↑k:Int)) (@default Con instInhabitedCon)).name=(List.getD l k (@default Con instInhabitedCon)).name/\(List.getD l (Int.toNat (↑k:Int)) (@default Con instInhabitedCon)).off=(List.getD l k (@default Con instInhabitedCon)).off/\True)/\(false=false/\(1:Nat)<=(1:Nat)/\eT (1:Nat) (Ax.get [AV.y (Value.int IntKind.u64 (IntKind.wrap IntKind.u64 (↑m:Int)))]) (Ax.get [AV.y (Value.int IntKind.u64 (IntKind.wrap IntKind.u64 (↑m:Int)))]))/\True)/\True/\m<=(9223372036854775806:Nat)/\(dw m (List.getD l k (@default Con instInhabitedCon))=true->(iY m (List.drop k l)=true->((↑k:Int)=(↑(k+List.findIdx (dw m) (List.drop k l)):Int)/\True)/\True/\true=true)/\(iY m (List.drop k l)=false->False))/\(dw m (List.getD l k (@default Con instInhabitedCon))=false->∃ (j:Nat),List.length l - j<List.length l - k/\(((bb=bb/\List.length l=List.length l/\ak (List.length l) (2:Nat) (ah aJ l) (ah aJ l))/\(True/\(false=false/\(1:Nat)<=(1:Nat)/\eT (1:Nat) (Ax.get [AV.y (Value.int IntKind.u64 (IntKind.wrap IntKind.u64 (↑m:Int)))]) (Ax.get [AV.y (Value.int IntKind.u64 (IntKind.wrap IntKind.u64 (↑m:Int)))]))/\True)/\(0:Int)=(0:Int)/\(↑(List.length l):Int)=(↑(List.length l):Int)/\IntKind.wrap IntKind.i64 ((↑k:Int)+(1:Int))=(↑j:Int)/\True)/\True/\true=true)/\true=true/\(iY m (List.drop j l)=true->(iY m (List.drop k l)=true->(true,j+List.findIdx (dw m) (List.drop j l))=(true,k+List.findIdx (dw m) (List.drop k l)))/\(iY m (List.drop k l)=false->(true,j+List.findIdx (dw m) (List.drop j l))=(false,(0:Nat))))/\(iY m (List.drop j l)=false->(iY m (List.drop k l)=true->(false,(0:Nat))=(true,k+List.findIdx (dw m) (List.drop k l)))/\(iY m (List.drop k l)=false->(false,(0:Nat))=(false,(0:Nat))))))/\(decide ((↑k:Int)<(↑(List.length l):Int))=false->(iY m (List.drop k l)=true->False)/\(iY m (List.drop k l)=false->True/\True/\true=true))
theorem OU (m:Nat) (bb:Bool) (l:List Con) (k:Nat):(cu Tryz.prog (acZ m l k) 117 2 (fun k=>l.length - k) (ahT m bb l) (fun _=>[]) [0] (ahO m l) ahS k)=YZ m bb l k:=by kernel_rfl
theorem YC (m:Nat) (bb:Bool) (l:List Con) (hl:l.length<=9223372036854775806) (hn:∀ k,k<l.length->(m<=9223372036854775806)) (k:Nat):aQ Tryz.prog 117 2 (aS Tryz.prog 117 2) ⟨ahT m bb l k,[],[]⟩ ((ahO m l k).map (bU [0] ahS)):=by
 refine dU (ht:=fun k=>acZ m l k) Tryz.mixed (fun _=>rfl) (fun k=>(OU m bb l k).mpr ?_) k
 unfold YZ
 by_cases h:k<l.length
 · have hw:IntKind.i64.wrap ((k:Int)+1)=((k+1:Nat):Int):=by rw [wrap_i64 (by omega) (by omega)];omega
   have hz:decide ((k:Int)<l.length)=true:=by simp;omega
   have hd:l.drop k=l.getD k default::l.drop (k+1):=by rw [drop_cons h];simp
   have hk:=hn k h
   rw [Int.toNat_natCast]
   simp only [hz,hd,Jk,List.findIdx_cons]
   generalize l.getD k default=y at *
   cases hp:dw m y
   · simp [hw,hk]
     exact ⟨k+1,by omega,by omega,by grind⟩
   · simp [hk]
 · have hz:decide ((k:Int)<l.length)=false:=by simp;omega
   simp only [hz,jJ (Nat.le_of_not_lt h),Ot]
   simp
noncomputable def ahH (m:Nat) (bb:Bool) (l:List Con):aC Tryz.prog:=hh _ (nu 117 2 (eP (ahT m bb l) (fun _=>[]) [0] (ahO m l) ahS 0) bB) bA bq
def Y3 (m:Nat) (bb:Bool) (l:List Con):Prop :=
 (((bb=bb/\l.length=l.length/\ak l.length 2 (ah aJ l) (ah aJ l))/\(True/\(false=false/\1<=1/\eT 1 (Ax.get [AV.y (.int .u64 (IntKind.u64.wrap (m:Int)))]) (Ax.get [AV.y (.int .u64 (IntKind.u64.wrap (m:Int)))]))/\True)/\(0:Int)=0/\(l.length:Int)=(l.length:Int)/\(0:Int)=0/\True)/\True/\true=true)/\aQ Tryz.prog 117 2 (aS Tryz.prog 117 2) { t:=ahT m bb l 0,m:=[],mv:=[]:St } (T.map (bU [0] ahS) (ahO m l 0))/\(iY m (List.drop 0 l)=true->true=iY m l/\True)/\(iY m (List.drop 0 l)=false->false=iY m l/\True)
theorem Qb (m:Nat) (bb:Bool) (l:List Con):(aZ Tryz.prog (ahH m bb l) 49 [.ys bb 2 l.length (ah aJ l),Vx m] [] (bM (iY m l)))=Y3 m bb l:=by kernel_rfl
theorem ab7 (m:Nat) (bb:Bool) (l:List Con) (hl:l.length<=9223372036854775806) (hn:∀ k,k<l.length->(m<=9223372036854775806)):(bM (iY m l)).Sat (au Tryz.prog 49 [.ys bb 2 l.length (ah aJ l),Vx m] []):=by
 refine aR (ht:=ahH m bb l) Tryz.mixed rfl ?_
 rw [Qb m bb l]
 unfold Y3
 have:=YC m bb l hl hn 0
 simp [this]
noncomputable def af_ (m:Nat) (bb:Bool) (l:List Con):dO Tryz.prog:=⟨49,[.ys bb 2 l.length (ah aJ l),Vx m],[],.need (l.length<=9223372036854775806/\∀ k,k<l.length->(m<=9223372036854775806)) (bM (iY m l)),T.Sat.need fun h=>ab7 m bb l h.1 h.2⟩
def aX (p:Part):Bool:=(iG p.rng==0)&&(!(p.epoch==0)&&(dN p.recs&&(P.cK p.prods&&(dJ p.cons&&(bO p 0&&(!p.prods.any (dB p)&&!p.cons.any (dw p.recs.length)))))))
def G7 (b:Bool) (e:Int):T An:=.ite b (.ret (.s (.int .i64 0),[],[])) (.ret (.s (.int .i64 e),[],[]))
noncomputable def pcH (b:Bool) (p:Part):aC Tryz.prog:=hh _ bB
 (cs1 14 4 2 (ael p.rng) (cs1 14 6 2 (lgC b p.recs) (cs1 14 7 2 (P.ag1 b p.prods) (cs1 14 8 2 (coC b p.cons)
 (cs1 14 10 1 (orC b p) (cs1 14 11 3 (afZ b p b p.prods) (cs1 14 12 3 (af_ p.recs.length b p.cons) bA))))))) bq
def adx (b:Bool) (p:Part):Prop :=
 ((p.rng.lo=p.rng.lo/\p.rng.hi=p.rng.hi/\True)/\True)/\True/\((iG p.rng != 0)=true->(aX p=true->(165:Int)=0/\True)/\(aX p=false->(165:Int)=165/\True))/\((iG p.rng != 0)=false->((p.epoch==0)=true->(aX p=true->(165:Int)=0/\True)/\(aX p=false->(165:Int)=165/\True))/\((p.epoch==0)=false->((b=b/\p.recs.length=p.recs.length/\ak p.recs.length 5 (ah encR p.recs) (ah encR p.recs))/\True)/\True/\p.recs.length<=9223372036854775806/\((!dN p.recs)=true->(aX p=true->(165:Int)=0/\True)/\(aX p=false->(165:Int)=165/\True))/\((!dN p.recs)=false->((b=b/\p.prods.length=p.prods.length/\ak p.prods.length 4 (ah P.ay p.prods) (ah P.ay p.prods))/\True)/\True/\p.prods.length<=9223372036854775806/\((!P.cK p.prods)=true->(aX p=true->(165:Int)=0/\True)/\(aX p=false->(165:Int)=165/\True))/\((!P.cK p.prods)=false->((b=b/\p.cons.length=p.cons.length/\ak p.cons.length 2 (ah aJ p.cons) (ah aJ p.cons))/\True)/\True/\p.cons.length<=9223372036854775806/\((!dJ p.cons)=true->(aX p=true->(165:Int)=0/\True)/\(aX p=false->(165:Int)=165/\True))/\((!dJ p.cons)=false->((bE b b p p)/\True)/\True/\(p.prods.length<=9223372036854775806/\p.recs.length<=9223372036854775806)/\((!bO p 0)=true->(aX p=true->(165:Int)=0/\True)/\(aX p=false->(165:Int)=165/\True))/\((!bO p 0)=false->((b=b/\p.prods.length=p.prods.length/\ak p.prods.length 4 (ah P.ay p.prods) (ah P.ay p.prods))/\(True/\(false=false/\1<=1/\eT 1 (fun (j:Nat)=>Ax.get [AV.y (.int .u64 (IntKind.u64.wrap (p.recs.length:Int)))] (0+j)) (Ax.get [AV.y (.int .u64 (IntKind.u64.wrap (p.recs.length:Int)))]))/\(false=false/\7<=7/\eT 7 (fun (j:Nat)=>Ax.get [AV.y (.string p.rng.lo),AV.y (.string p.rng.hi),AV.y (.int .u64 p.epoch),AV.y (.int .u64 p.frozen),AV.ys b 5 p.recs.length (ah encR p.recs),AV.ys b 4 p.prods.length (ah P.ay p.prods),AV.ys b 2 p.cons.length (ah aJ p.cons)] (0+j)) (Ax.get [AV.y (.string p.rng.lo),AV.y (.string p.rng.hi),AV.y (.int .u64 p.epoch),AV.y (.int .u64 p.frozen),AV.ys b 5 p.recs.length (ah encR p.recs),AV.ys b 4 p.prods.length (ah P.ay p.prods),AV.ys b 2 p.cons.length (ah aJ p.cons)]))/\True)/\True)/\True/\(p.prods.length<=9223372036854775806/\∀ k,k<p.prods.length->p.recs.length<=9223372036854775806/\0<=(p.prods.getD k default).offset)/\true=true/\True/\(iV b p p.prods=true->(aX p=true->(165:Int)=0/\True)/\(aX p=false->(165:Int)=165/\True))/\(iV b p p.prods=false->((b=b/\p.cons.length=p.cons.length/\ak p.cons.length 2 (ah aJ p.cons) (ah aJ p.cons))/\(True/\(false=false/\1<=1/\eT 1 (fun (j:Nat)=>Ax.get [AV.y (.int .u64 (IntKind.u64.wrap (p.recs.length:Int)))] (0+j)) (Ax.get [AV.y (.int .u64 (IntKind.u64.wrap (p.recs.length:Int)))]))/\True)/\True)/\True/\(p.cons.length<=9223372036854775806/\∀ k,k<p.cons.length->p.recs.length<=9223372036854775806)/\true=true/\True/\(iY p.recs.length p.cons=true->(aX p=true->(165:Int)=0/\True)/\(aX p=false->(165:Int)=165/\True))/\(iY p.recs.length p.cons=false->(aX p=true->(0:Int)=0/\True)/\(aX p=false->(0:Int)=165/\True)))))))))
theorem Yd (b:Bool) (p:Part):(aZ Tryz.prog (pcH b p) 14 [.agg (aW b p)] [] (G7 (aX p) 165))=adx b p:=by kernel_rfl
structure eO (p:Part):Prop where
 rl:p.recs.length<=4611686018427387903
 pl:p.prods.length<=4611686018427387903
 cl:p.cons.length<=4611686018427387903
 po:∀ k,k<p.prods.length->0<=(p.prods.getD k default).offset
theorem agQ (b:Bool) (p:Part) (h:eO p):(G7 (aX p) 165).Sat (au Tryz.prog 14 [.agg (aW b p)] []):=by
 refine aR (ht:=pcH b p) Tryz.mixed rfl ?_
 rw [Yd b p]
 unfold adx
 obtain ⟨h1,h2,h3,h4⟩:=h
 have e1:iV b p p.prods=p.prods.any (dB p):=rfl
 have e2:iY p.recs.length p.cons=p.cons.any (dw p.recs.length):=rfl
 have hw:IntKind.u64.wrap (p.recs.length:Int)=p.recs.length:=wrap_u64 (by omega) (by omega)
 simp only [e1,e2,hw]
 unfold aX
 have g1:p.recs.length<=9223372036854775806:=by omega
 have g2:p.prods.length<=9223372036854775806:=by omega
 have g3:p.cons.length<=9223372036854775806:=by omega
 generalize bO p 0=a1
 generalize p.prods.any (dB p)=a2
 generalize p.cons.any (dw p.recs.length)=a3
 generalize dN p.recs=a4
 generalize P.cK p.prods=a5
 generalize dJ p.cons=a6
 by_cases c1:iG p.rng=0<;>by_cases c2:p.epoch=0<;>cases a1<;>cases a2<;>cases a3<;>cases a4<;>cases a5<;>cases a6<;>simp [c1,c2,g1,g2,g3]<;>exact h4
noncomputable def pcC (b:Bool) (p:Part):dO Tryz.prog:=⟨14,[.agg (aW b p)],[],.need (eO p) (G7 (aX p) 165),T.Sat.need fun h=>agQ b p h⟩
end
namespace R
structure bJ where
 kind:Int
 epoch:Int
 prod:Int
 seq:Int
 key:ByteArray
 val:List Int
 off:Int
 most:Int
 name:ByteArray
 plan:Int
instance:Inhabited bJ:=⟨⟨0,0,0,0,ByteArray.empty,[],0,0,ByteArray.empty,0⟩⟩
structure gJ where
 err:Int
 off:Int
 old:Bool
 recs:List Rec
instance:Inhabited gJ:=⟨⟨0,0,false,[]⟩⟩
def dV (c:bJ):List AV:=[.y (.int .i64 c.kind),.y (.int .u64 c.epoch),.y (.int .u64 c.prod),.y (.int .u64 c.seq),.y (.string c.key),bn true c.val,.y (.int .u64 c.off),.y (.int .i64 c.most),.y (.string c.name),.y (.int .u64 c.plan)]
def ow (c d:bJ):Prop:=c.kind=d.kind/\c.epoch=d.epoch/\c.prod=d.prod/\c.seq=d.seq/\c.key=d.key/\(true=true/\List.length c.val=List.length d.val/\ak (List.length c.val) (1:Nat) (ah aD c.val) (ah aD d.val))/\c.off=d.off/\c.most=d.most/\c.name=d.name/\c.plan=d.plan/\True
@[simp] theorem agn (c d:bJ):ow c d=(c.kind=d.kind/\c.epoch=d.epoch/\c.prod=d.prod/\c.seq=d.seq/\c.key=d.key/\(true=true/\List.length c.val=List.length d.val/\ak (List.length c.val) (1:Nat) (ah aD c.val) (ah aD d.val))/\c.off=d.off/\c.most=d.most/\c.name=d.name/\c.plan=d.plan/\True):=rfl
def oJ (x:gJ):List AV:=[.y (.int .i64 x.err),.y (.int .u64 x.off),.y (.bool x.old),bZ true x.recs]
structure Fb (l:List Rec):Prop where
 n:l.length<=4096
 o:∀ k,k<l.length->0<=(l.getD k default).off/\(l.getD k default).off<=9223372036854775807
 v:∀ k,k<l.length->(l.getD k default).val.length<=140737488355328
def owT (b:Bool) (l:List Rec) (k:Nat):List AV:=mkT 26 [(3,.own 0 5 0 (l.take k).length),(10,bZ b l),(11,.y (.int .i64 l.length)),(12,.y (.int .i64 k))]
def owM (l:List Rec) (k:Nat):List aH:=[yZ (l.take k)]
def owS (l:List Rec) (_:Unit):Exit×List AV×List aH:=(.exit 0,mkT 26 [(3,.own 0 5 0 l.length)],[yZ l])
noncomputable def owH (l:List Rec) (k:Nat):aC Tryz.prog:=hh _ bB (cs1 141 5 5 (afj (l.getD k default) (IntKind.i64.wrap (l.getD k default).off)) bA) bq
def Zm (b:Bool) (l:List Rec) (k:Nat):Prop :=
 (decide ((k:Int)<(l.length:Int))=true->(true&&decide ((k:Int)<(l.length:Int)))=true/\(((l.getD (Int.toNat (k:Int)) default).off=(l.getD k default).off/\(l.getD (Int.toNat (k:Int)) default).key=(l.getD k default).key/\(true=true/\(l.getD (Int.toNat (k:Int)) default).val.length=(l.getD k default).val.length/\ak (l.getD (Int.toNat (k:Int)) default).val.length 1 (ah aD (l.getD (Int.toNat (k:Int)) default).val) (ah aD (l.getD k default).val))/\(l.getD (Int.toNat (k:Int)) default).prod=(l.getD k default).prod/\(l.getD (Int.toNat (k:Int)) default).seq=(l.getD k default).seq/\True)/\IntKind.i64.wrap (l.getD (Int.toNat (k:Int)) default).off=IntKind.i64.wrap (l.getD k default).off/\True)/\True/\(l.getD k default).val.length<=140737488355328/\(decide ((List.take k l).length=(List.take k l).length)&&decide ((List.take k l).length+1<=9223372036854775807)&&decide (((List.take k l).length+1)*64<=140737488355328))=true/\∃ j:Nat,l.length - j<l.length - k/\(((0=0/\(List.take k l).length+1=(List.take j l).length)/\(b=b/\l.length=l.length/\ak l.length 5 (ah encR l) (ah encR l))/\(l.length:Int)=(l.length:Int)/\IntKind.i64.wrap ((k:Int)+1)=(j:Int)/\True)/\(((List.take k l).length+1=(List.take j l).length/\ak ((List.take k l).length+1) 5 (aL (List.take k l).length (ah encR (List.take k l)) fun (k_1 j:Nat)=>Ax.get [AV.y (.int .u64 (IntKind.u64.wrap (IntKind.i64.wrap (l.getD k default).off))),AV.y (.string (l.getD k default).key),AV.ys true 1 (l.getD k default).val.length (ah aD (l.getD k default).val),AV.y (.int .u64 (l.getD k default).prod),AV.y (.int .u64 (l.getD k default).seq)] (k_1*5+j)) (ah encR (List.take j l)))/\True)/\true=true)/\true=true/\()=())/\(decide ((k:Int)<(l.length:Int))=false->((0=0/\(List.take k l).length=l.length)/\True)/\(((List.take k l).length=l.length/\ak (List.take k l).length 5 (ah encR (List.take k l)) (ah encR l))/\True)/\true=true)
theorem Qj (b:Bool) (l:List Rec) (k:Nat):(cu Tryz.prog (owH l k) 141 3 (fun k=>l.length - k) (owT b l) (owM l) [0,1,2,3,4] (fun _=>.ret ()) (owS l) k)=Zm b l k:=by kernel_rfl
def owR (l:List Rec):T An:=.ret (.own 0 5 0 l.length,[yZ l],[])
noncomputable def afD (b:Bool) (l:List Rec):aC Tryz.prog:=hh _ (nu 141 3 (eP (owT b l) (owM l) [0,1,2,3,4] (fun _=>.ret ()) (owS l) 0) bB) bA bq
def ZC (b:Bool) (l:List Rec):Prop :=
 (0:Int)<=0/\0<=IntKind.i64.wrap ((l.length:Int)+1)/\64*IntKind.i64.wrap ((l.length:Int)+1)<=281474976710656/\IntKind.i64.wrap ((l.length:Int)+1)<=9223372036854775807/\(((0=0/\0=0)/\(b=b/\l.length=l.length/\ak l.length 5 (ah encR l) (ah encR l))/\(l.length:Int)=(l.length:Int)/\(0:Int)=0/\True)/\((0=0/\ak 0 5 (fun (x j:Nat)=>Ax.get [AV.s (.int .u64 0),AV.s (Value.string { data:=#[]:ByteArray }),AV.s (Value.slice none 0 0),AV.s (.int .u64 0),AV.s (.int .u64 0)] j) (ah encR []))/\True)/\true=true)/\aQ Tryz.prog 141 3 (aS Tryz.prog 141 3) { t:=owT b l 0,m:=owM l 0,mv:=[]:St } (T.map (bU [0,1,2,3,4] (owS l)) ((fun (x:Nat)=>T.ret ()) 0))/\(0=0/\l.length=l.length)/\(l.length=l.length/\ak l.length 5 (ah encR l) (ah encR l))/\True
theorem OY (b:Bool) (l:List Rec):(aZ Tryz.prog (afD b l) 141 [bZ b l] [] (owR l))=ZC b l:=by kernel_rfl
end R
namespace J
def eu (r:kW):List Int:=aA (aM (r.lo))++aA (aM (r.hi))
def g_ (x:Rec):List Int:=aj (x.off)++aA (aM (x.key))++aA (x.val)++aj (x.prod)++aj (x.seq)
def gy (l:List Rec):List Int:=aj (l.length:Int)++l.flatMap g_
noncomputable def wgH (r:kW) (l:List Int):aC Tryz.prog:=Lh (hh _ bB ((cs1 91 1 3 (wsC (r.lo) (l)) (cs1 91 2 3 (wsC (r.hi) (l++aA (aM (r.lo)))) bA))) bq)
def adX (r:kW) (l:List Int):Prop :=
 ((0=0/\0=0)/\r.lo=r.lo/\True)/\(fQ l l)/\yO r.lo l/\((0=0/\0=0)/\r.hi=r.hi/\True)/\(fQ (l++aA (aM r.lo)) (l++aA (aM r.lo)))/\yO r.hi (l++aA (aM r.lo))/\True/\((l++aA (aM r.lo)++aA (aM r.hi)).length=(l++eu r).length/\ak (l++aA (aM r.lo)++aA (aM r.hi)).length 1 (ah aD (l++aA (aM r.lo)++aA (aM r.hi))) (ah aD (l++eu r)))/\((0=0/\(l++aA (aM r.lo)++aA (aM r.hi)).length=(l++eu r).length)/\True)/\True
theorem Xi (r:kW) (l:List Int):(eU Tryz.prog (wgH r l) 91 [wP,.agg (nN r)] (wM l) (J5 (l++eu r)))=adX r l:=by kernel_rfl
noncomputable def wrH (x:Rec) (l:List Int):aC Tryz.prog:=Lh (hh _ bB ((cs1 130 1 3 (zq (x.off) (l)) (cs1 130 2 3 (wsC (x.key) (l++aj (x.off))) (cs1 130 3 3 (wyC true (x.val) (l++aj (x.off)++aA (aM (x.key)))) (cs1 130 4 3 (zq (x.prod) (l++aj (x.off)++aA (aM (x.key))++aA (x.val))) (cs1 130 5 3 (zq (x.seq) (l++aj (x.off)++aA (aM (x.key))++aA (x.val)++aj (x.prod))) bA)))))) bq)
def afU (x:Rec) (l:List Int):Prop :=
 ((0=0/\0=0)/\x.off=x.off/\True)/\(fQ l l)/\jv x.off l/\((0=0/\0=0)/\x.key=x.key/\True)/\(fQ (l++aj x.off) (l++aj x.off))/\yO x.key (l++aj x.off)/\((0=0/\0=0)/\(dI x.val x.val)/\True)/\(fQ (l++aj x.off++aA (aM x.key)) (l++aj x.off++aA (aM x.key)))/\QG x.val (l++aj x.off++aA (aM x.key))/\((0=0/\0=0)/\x.prod=x.prod/\True)/\(fQ (l++aj x.off++aA (aM x.key)++aA x.val) (l++aj x.off++aA (aM x.key)++aA x.val))/\jv x.prod (l++aj x.off++aA (aM x.key)++aA x.val)/\((0=0/\0=0)/\x.seq=x.seq/\True)/\(fQ (l++aj x.off++aA (aM x.key)++aA x.val++aj x.prod) (l++aj x.off++aA (aM x.key)++aA x.val++aj x.prod))/\jv x.seq (l++aj x.off++aA (aM x.key)++aA x.val++aj x.prod)/\True/\((l++aj x.off++aA (aM x.key)++aA x.val++aj x.prod++aj x.seq).length=(l++g_ x).length/\ak (l++aj x.off++aA (aM x.key)++aA x.val++aj x.prod++aj x.seq).length 1 (ah aD (l++aj x.off++aA (aM x.key)++aA x.val++aj x.prod++aj x.seq)) (ah aD (l++g_ x)))/\((0=0/\(l++aj x.off++aA (aM x.key)++aA x.val++aj x.prod++aj x.seq).length=(l++g_ x).length)/\True)/\True
theorem Vt (x:Rec) (l:List Int):(eU Tryz.prog (wrH x l) 130 [wP,.agg (encR x)] (wM l) (J5 (l++g_ x)))=afU x l:=by kernel_rfl
def adL (l:List Int):T An:=.ret (bn true l,wM l,[3])
def dnR (l:List Int):T An:=.ret (bn true l,wM l,[])
noncomputable def dnH (l:List Int):aC Tryz.prog:=Lh (dS (hh _ bB (cs1 80 1 4 (KQ false l.length (ah aD l)) bA) bq) (nk 80 1 5 779 noSh))
def acU (l:List Int):Prop :=
 ((false=false/\l.length=l.length/\ak l.length 1 (Ax.rowAt 0 (ah aD l)) (ah aD l))/\True)/\True/\l.length<=140737488355328/\true=true/\((∀ k,k<l.length->∀ j,j<1->dK (ah aD l k j)=true)/\True)/\(∀ k,k<l.length->∀ j,j<1->dK (ah aD l k j)=true)/\(true=true/\l.length=l.length/\ak l.length 1 (Ax.rowAt 0 (ah aD l)) (ah aD l))/\(l.length=l.length/\ak l.length 1 (ah aD l) (ah aD l))/\((0=0/\l.length=l.length)/\True)/\True
theorem Yy (l:List Int):(eU Tryz.prog (dnH l) 80 [wP] (wM l) (adL l))=acU l:=by kernel_rfl
theorem bD (t:List Int):t.length<=(aA t).length/\(aA t).length<=t.length+11:=by
 have:=aG (t.length:Int)
 unfold aA
 rw [List.length_append]
 omega
theorem kQ (s:ByteArray):s.size<=(aA (aM s)).length/\(aA (aM s)).length<=s.size+11:=by
 have:=bD (aM s)
 rw [dF] at this
 exact this
structure nO (v:Int):Prop where
 lo:0<=v
 hi:v<18446744073709551616
structure jC (v:Int):Prop where
 lo:-9223372036854775808<=v
 hi:v<9223372036854775808
structure DC (n:Nat):Prop where
 h:n+200<=140737488355327
structure FL (x:Rec):Prop where
 off:nO x.off
 prod:nO x.prod
 seq:nO x.seq
theorem vC {v:Int} {l:List Int} (h:nO v) (n:l.length+20<=140737488355327):jv v l:=⟨h.lo,h.hi,n⟩
theorem IL {v:Int} {l:List Int} (h:jC v) (n:l.length+20<=140737488355327):Nl v l:=⟨h.lo,h.hi,n⟩
theorem agu (r:kW) (l:List Int) (h:DC (l++eu r).length):(J5 (l++eu r)).Sat (au Tryz.prog 91 [wP,.agg (nN r)] (wM l)):=by
 refine dG (ht:=wgH r l) Tryz.mixed rfl ?_
 rw [Xi r l]
 unfold adX
 have h1:=h.h
 have a1:=kQ r.lo
 have a2:=kQ r.hi
 simp only [eu,List.length_append] at h1
 have b1:yO r.lo l:=⟨by omega⟩
 have b2:yO r.hi (l++aA (aM r.lo)):=⟨by rw [List.length_append];omega⟩
 simp [eu,b1,b2]
noncomputable def wgC (r:kW) (l:List Int):dO Tryz.prog:=⟨91,[wP,.agg (nN r)],wM l,.need (DC (l++eu r).length) (J5 (l++eu r)),T.Sat.need fun h=>agu r l h⟩
theorem ah7 (x:Rec) (l:List Int) (hx:FL x) (h:DC (l++g_ x).length):(J5 (l++g_ x)).Sat (au Tryz.prog 130 [wP,.agg (encR x)] (wM l)):=by
 refine dG (ht:=wrH x l) Tryz.mixed rfl ?_
 rw [Vt x l]
 unfold afU
 have h1:=h.h
 have a2:=kQ x.key
 have a3:=bD x.val
 simp only [g_,List.length_append] at h1
 have b1:jv x.off l:=vC hx.off (by omega)
 have b2:yO x.key (l++aj x.off):=⟨by simp only [List.length_append];omega⟩
 have b3:QG x.val (l++aj x.off++aA (aM x.key)):=⟨by simp only [List.length_append];omega⟩
 have b4:jv x.prod (l++aj x.off++aA (aM x.key)++aA x.val):=vC hx.prod (by simp only [List.length_append];omega)
 have b5:jv x.seq (l++aj x.off++aA (aM x.key)++aA x.val++aj x.prod):=vC hx.seq (by simp only [List.length_append];omega)
 simp only [List.append_assoc] at b3 b4 b5
 simp [g_,b1,b2,b3,b4,b5]
structure acw (x:Rec) (l:List Int):Prop where
 u:FL x
 n:DC (l++g_ x).length
noncomputable def wrC (x:Rec) (l:List Int):dO Tryz.prog:=⟨130,[wP,.agg (encR x)],wM l,.need (acw x l) (J5 (l++g_ x)),T.Sat.need fun h=>ah7 x l h.u h.n⟩
theorem agS (l:List Int) (h:DC l.length):(dnR l).Sat (au Tryz.prog 80 [wP] (wM l)):=by
 have h3:(adL l).Sat (au Tryz.prog 80 [wP] (wM l)):=by
  refine dG (ht:=dnH l) Tryz.mixed rfl ?_
  rw [Yy l]
  unfold acU
  have h1:=h.h
  have ht:∀ k,k<l.length->∀ j,j<1->dK (ah aD l k j)=true:=by
   intro k hk j hj
   obtain rfl:j=0:=by omega
   rfl
  have hr:ak l.length 1 (Ax.rowAt 0 (ah aD l)) (ah aD l):=by
   intro k hk j hj
   exact bN _
  simp [hr]
  exact ⟨by omega,fun k hk=>ht k hk 0 (by decide)⟩
 have h1:au Tryz.prog 80 [wP] (wM l) (bn true l,wM l,[3]):=jN h3
 have h2:au Tryz.prog 80 [wP] (wM l) (bn true l,wM l,[]):=lI h1 fun i hi=>by
  obtain rfl:=List.mem_singleton.1 hi
  exact .inr rfl
 exact T.Sat.ret h2
noncomputable def Ze (l:List Int):dO Tryz.prog:=⟨80,[wP],wM l,.need (DC l.length) (dnR l),T.Sat.need fun h=>agS l h⟩
def vE (recs:List Rec) (l:List Int) (k:Nat):List Int:=l++aj (recs.length:Int)++(recs.take k).flatMap g_
def wlT (f:Bool) (recs:List Rec) (k:Nat):List AV:=mkT 21 [(0,wP),(11,bZ f recs),(12,.y (.int .i64 recs.length)),(13,.y (.int .i64 k))]
def wlS (f:Bool) (recs:List Rec) (l:List Int) (_:Unit):Exit×List AV×List aH:=(.exit 0,wlT f recs recs.length,wM (vE recs l recs.length))
abbrev Up (n:Nat):={k:Nat // k<=n}
noncomputable def wlH (recs:List Rec) (l:List Int) (k:Nat):aC Tryz.prog:=Lh (hh _ bB (cs1 92 4 2 (wrC (recs.getD k default) (vE recs l k)) bA) bq)
def ZG (f:Bool) (recs:List Rec) (l:List Int) (k:Up recs.length):Prop :=
 (decide ((k.val:Int)<(recs.length:Int))=true->(true&&decide ((k.val:Int)<(recs.length:Int)))=true/\((0=0/\0=0)/\((recs.getD (Int.toNat (k.val:Int)) default).off=(recs.getD k.val default).off/\(recs.getD (Int.toNat (k.val:Int)) default).key=(recs.getD k.val default).key/\(true=true/\(recs.getD (Int.toNat (k.val:Int)) default).val.length=(recs.getD k.val default).val.length/\ak (recs.getD (Int.toNat (k.val:Int)) default).val.length 1 (ah aD (recs.getD (Int.toNat (k.val:Int)) default).val) (ah aD (recs.getD k.val default).val))/\(recs.getD (Int.toNat (k.val:Int)) default).prod=(recs.getD k.val default).prod/\(recs.getD (Int.toNat (k.val:Int)) default).seq=(recs.getD k.val default).seq/\True)/\True)/\(fQ (vE recs l k.val) (vE recs l k.val))/\acw (recs.getD k.val default) (vE recs l k.val)/\∃ (j:Up recs.length),recs.length - j.val<recs.length - k.val/\(((0=0/\0=0)/\(f=f/\recs.length=recs.length/\ak recs.length 5 (ah encR recs) (ah encR recs))/\(recs.length:Int)=(recs.length:Int)/\IntKind.i64.wrap ((k.val:Int)+1)=(j.val:Int)/\True)/\(fQ (vE recs l k.val++g_ (recs.getD k.val default)) (vE recs l j.val))/\true=true)/\true=true/\()=())/\(decide ((k.val:Int)<(recs.length:Int))=false->((0=0/\0=0)/\(f=f/\recs.length=recs.length/\ak recs.length 5 (ah encR recs) (ah encR recs))/\(recs.length:Int)=(recs.length:Int)/\(k.val:Int)=(recs.length:Int)/\True)/\(fQ (vE recs l k.val) (vE recs l recs.length))/\true=true)
theorem O9 (f:Bool) (recs:List Rec) (l:List Int) (k:Up recs.length):(cu Tryz.prog (wlH recs l k.1) 92 2 (fun k:Up recs.length=>recs.length - k.1) (fun k=>wlT f recs k.1) (fun k=>wM (vE recs l k.1)) [1,3] (fun _=>.ret ()) (wlS f recs l) k)=ZG f recs l k:=by kernel_rfl
noncomputable def QZ (f:Bool) (recs:List Rec) (l:List Int):aC Tryz.prog:=Lh (hh _ (nu 92 2 (eP (fun k:Up recs.length=>wlT f recs k.1) (fun k=>wM (vE recs l k.1)) [1,3] (fun _=>.ret ()) (wlS f recs l) ⟨0,Nat.zero_le _⟩) bB) (cs1 92 0 4 (zq (recs.length:Int) l) bA) bq)
def ac5 (f:Bool) (recs:List Rec) (l:List Int):Prop :=
 ((0=0/\0=0)/\IntKind.u64.wrap (recs.length:Int)=(recs.length:Int)/\True)/\(fQ l l)/\jv (recs.length:Int) l/\(((0=0/\0=0)/\(f=f/\recs.length=recs.length/\ak recs.length 5 (ah encR recs) (ah encR recs))/\(recs.length:Int)=(recs.length:Int)/\(0:Int)=0/\True)/\(fQ (l++aj (recs.length:Int)) (vE recs l 0))/\true=true)/\aQ Tryz.prog 92 2 (aS Tryz.prog 92 2) { t:=wlT f recs (⟨0,QZ._proof_1 recs⟩:{ k:Nat // k<=recs.length }).val,m:=wM (vE recs l (⟨0,QZ._proof_1 recs⟩:{ k:Nat // k<=recs.length }).val),mv:=[]:St } (T.map (bU [1,3] (wlS f recs l)) ((fun (x:Up recs.length)=>T.ret ()) (⟨0,QZ._proof_1 recs⟩:{ k:Nat // k<=recs.length })))/\True/\((vE recs l recs.length).length=(l++gy recs).length/\ak (vE recs l recs.length).length 1 (ah aD (vE recs l recs.length)) (ah aD (l++gy recs)))/\((0=0/\(vE recs l recs.length).length=(l++gy recs).length)/\True)/\True
theorem XF (f:Bool) (recs:List Rec) (l:List Int):(eU Tryz.prog (QZ f recs l) 92 [wP,bZ f recs] (wM l) (wR (l++gy recs)))=ac5 f recs l:=by kernel_rfl
def gT (c:R.bJ):List Int :=
 if c.kind=1 then []++aF (c.kind)++aj (c.epoch)++aj (c.prod)++aj (c.seq)++aA (aM (c.key))++aA (c.val) else if c.kind=2 then []++aF (c.kind)++aj (c.epoch)++aj (c.off)++aF (c.most) else if c.kind=3 then []++aF (c.kind)++aj (c.epoch)++aj (c.prod)++aj (c.seq)++aA (aM (c.name))++aj (c.off) else if c.kind=4 then []++aF (c.kind)++aj (c.epoch)++aA (aM (c.name)) else if c.kind=5∨c.kind=6 then []++aF (c.kind)++aj (c.epoch)++aj (c.plan) else []
def cab {P:Program} (f r p:Nat) (i:Nat) (C:dO P) (els:List AV->FuncId->Nat->Nat->Option (dO P)):List AV->FuncId->Nat->Nat->Option (dO P) :=
 fun ts f' r' p'=>match Nat.beq f f'&&Nat.beq r r'&&Nat.beq p p' with
  | true=>(match get ts i with
    | .s (.bool true)=>some C
    | _=>els ts f' r' p')
  | false=>els ts f' r' p'
noncomputable def wcH (c:R.bJ):aC Tryz.prog:=KI (Lh (dS (hh _ bB ((cs1 23 2 3 (wiC (c.kind) ([])) (cs1 23 3 3 (zq (c.epoch) ([]++aF (c.kind))) (cs1 23 11 3 (zq (c.prod) ([]++aF (c.kind)++aj (c.epoch))) (cs1 23 12 3 (zq (c.seq) ([]++aF (c.kind)++aj (c.epoch)++aj (c.prod))) (cs1 23 13 3 (wsC (c.key) ([]++aF (c.kind)++aj (c.epoch)++aj (c.prod)++aj (c.seq))) (cs1 23 14 3 (wyC true (c.val) ([]++aF (c.kind)++aj (c.epoch)++aj (c.prod)++aj (c.seq)++aA (aM (c.key)))) (cs1 23 15 3 (zq (c.off) ([]++aF (c.kind)++aj (c.epoch))) (cs1 23 16 3 (wiC (c.most) ([]++aF (c.kind)++aj (c.epoch)++aj (c.off))) (cs1 23 17 3 (zq (c.prod) ([]++aF (c.kind)++aj (c.epoch))) (cs1 23 18 3 (zq (c.seq) ([]++aF (c.kind)++aj (c.epoch)++aj (c.prod))) (cs1 23 19 3 (wsC (c.name) ([]++aF (c.kind)++aj (c.epoch)++aj (c.prod)++aj (c.seq))) (cs1 23 20 3 (zq (c.off) ([]++aF (c.kind)++aj (c.epoch)++aj (c.prod)++aj (c.seq)++aA (aM (c.name)))) (cs1 23 21 3 (wsC (c.name) ([]++aF (c.kind)++aj (c.epoch))) (cs1 23 22 3 (zq (c.plan) ([]++aF (c.kind)++aj (c.epoch))) bA))))))))))))))) bq) (nk 23 1 0 1001 noSh))) ((cab 23 24 1 16 (Ze ([]++aF (c.kind)++aj (c.epoch)++aj (c.prod)++aj (c.seq)++aA (aM (c.key))++aA (c.val))) (cab 23 24 1 18 (Ze ([]++aF (c.kind)++aj (c.epoch)++aj (c.off)++aF (c.most))) (cab 23 24 1 20 (Ze ([]++aF (c.kind)++aj (c.epoch)++aj (c.prod)++aj (c.seq)++aA (aM (c.name))++aj (c.off))) (cab 23 24 1 22 (Ze ([]++aF (c.kind)++aj (c.epoch)++aA (aM (c.name)))) (cab 23 24 1 24 (Ze ([]++aF (c.kind)++aj (c.epoch)++aj (c.plan))) (cab 23 24 1 26 (Ze ([]++aF (c.kind)++aj (c.epoch)++aj (c.plan))) abl)))))))
def adl (c:R.bJ):Prop :=
 (((0:Nat)=(0:Nat)/\(0:Nat)=(0:Nat))/\c.kind=c.kind/\True)/\(((0:Nat)=(0:Nat)/\ak (0:Nat) (1:Nat) (fun (x x_1:Nat)=>AV.junk) (ah aD []))/\(((0:Nat)=(0:Nat)/\(0:Nat)=(0:Nat))/\True)/\True)/\Nl c.kind []/\(((0:Nat)=(0:Nat)/\(0:Nat)=(0:Nat))/\c.epoch=c.epoch/\True)/\(fQ ([]++aF c.kind) ([]++aF c.kind))/\jv c.epoch ([]++aF c.kind)/\((c.kind==(1:Int))=true->(((0:Nat)=(0:Nat)/\(0:Nat)=(0:Nat))/\c.prod=c.prod/\True)/\(fQ ([]++aF c.kind++aj c.epoch) ([]++aF c.kind++aj c.epoch))/\jv c.prod ([]++aF c.kind++aj c.epoch)/\(((0:Nat)=(0:Nat)/\(0:Nat)=(0:Nat))/\c.seq=c.seq/\True)/\(fQ ([]++aF c.kind++aj c.epoch++aj c.prod) ([]++aF c.kind++aj c.epoch++aj c.prod))/\jv c.seq ([]++aF c.kind++aj c.epoch++aj c.prod)/\(((0:Nat)=(0:Nat)/\(0:Nat)=(0:Nat))/\c.key=c.key/\True)/\(fQ ([]++aF c.kind++aj c.epoch++aj c.prod++aj c.seq) ([]++aF c.kind++aj c.epoch++aj c.prod++aj c.seq))/\yO c.key ([]++aF c.kind++aj c.epoch++aj c.prod++aj c.seq)/\(((0:Nat)=(0:Nat)/\(0:Nat)=(0:Nat))/\(dI c.val c.val)/\True)/\(fQ ([]++aF c.kind++aj c.epoch++aj c.prod++aj c.seq++aA (aM c.key)) ([]++aF c.kind++aj c.epoch++aj c.prod++aj c.seq++aA (aM c.key)))/\QG c.val ([]++aF c.kind++aj c.epoch++aj c.prod++aj c.seq++aA (aM c.key))/\(((0:Nat)=(0:Nat)/\(0:Nat)=(0:Nat))/\True)/\(fQ ([]++aF c.kind++aj c.epoch++aj c.prod++aj c.seq++aA (aM c.key)++aA c.val) ([]++aF c.kind++aj c.epoch++aj c.prod++aj c.seq++aA (aM c.key)++aA c.val))/\DC (List.length ([]++aF c.kind++aj c.epoch++aj c.prod++aj c.seq++aA (aM c.key)++aA c.val))/\(dI ([]++aF c.kind++aj c.epoch++aj c.prod++aj c.seq++aA (aM c.key)++aA c.val) (gT c))/\True)/\((c.kind==(1:Int))=false->((c.kind==(2:Int))=true->(((0:Nat)=(0:Nat)/\(0:Nat)=(0:Nat))/\c.off=c.off/\True)/\(fQ ([]++aF c.kind++aj c.epoch) ([]++aF c.kind++aj c.epoch))/\jv c.off ([]++aF c.kind++aj c.epoch)/\(((0:Nat)=(0:Nat)/\(0:Nat)=(0:Nat))/\c.most=c.most/\True)/\(fQ ([]++aF c.kind++aj c.epoch++aj c.off) ([]++aF c.kind++aj c.epoch++aj c.off))/\Nl c.most ([]++aF c.kind++aj c.epoch++aj c.off)/\(((0:Nat)=(0:Nat)/\(0:Nat)=(0:Nat))/\True)/\(fQ ([]++aF c.kind++aj c.epoch++aj c.off++aF c.most) ([]++aF c.kind++aj c.epoch++aj c.off++aF c.most))/\DC (List.length ([]++aF c.kind++aj c.epoch++aj c.off++aF c.most))/\(dI ([]++aF c.kind++aj c.epoch++aj c.off++aF c.most) (gT c))/\True)/\((c.kind==(2:Int))=false->((c.kind==(3:Int))=true->(((0:Nat)=(0:Nat)/\(0:Nat)=(0:Nat))/\c.prod=c.prod/\True)/\(fQ ([]++aF c.kind++aj c.epoch) ([]++aF c.kind++aj c.epoch))/\jv c.prod ([]++aF c.kind++aj c.epoch)/\(((0:Nat)=(0:Nat)/\(0:Nat)=(0:Nat))/\c.seq=c.seq/\True)/\(fQ ([]++aF c.kind++aj c.epoch++aj c.prod) ([]++aF c.kind++aj c.epoch++aj c.prod))/\jv c.seq ([]++aF c.kind++aj c.epoch++aj c.prod)/\(((0:Nat)=(0:Nat)/\(0:Nat)=(0:Nat))/\c.name=c.name/\True)/\(fQ ([]++aF c.kind++aj c.epoch++aj c.prod++aj c.seq) ([]++aF c.kind++aj c.epoch++aj c.prod++aj c.seq))/\yO c.name ([]++aF c.kind++aj c.epoch++aj c.prod++aj c.seq)/\(((0:Nat)=(0:Nat)/\(0:Nat)=(0:Nat))/\c.off=c.off/\True)/\(fQ ([]++aF c.kind++aj c.epoch++aj c.prod++aj c.seq++aA (aM c.name)) ([]++aF c.kind++aj c.epoch++aj c.prod++aj c.seq++aA (aM c.name)))/\jv c.off ([]++aF c.kind++aj c.epoch++aj c.prod++aj c.seq++aA (aM c.name))/\(((0:Nat)=(0:Nat)/\(0:Nat)=(0:Nat))/\True)/\(fQ ([]++aF c.kind++aj c.epoch++aj c.prod++aj c.seq++aA (aM c.name)++aj c.off) ([]++aF c.kind++aj c.epoch++aj c.prod++aj c.seq++aA (aM c.name)++aj c.off))/\DC (List.length ([]++aF c.kind++aj c.epoch++aj c.prod++aj c.seq++aA (aM c.name)++aj c.off))/\(dI ([]++aF c.kind++aj c.epoch++aj c.prod++aj c.seq++aA (aM c.name)++aj c.off) (gT c))/\True)/\((c.kind==(3:Int))=false->((c.kind==(4:Int))=true->(((0:Nat)=(0:Nat)/\(0:Nat)=(0:Nat))/\c.name=c.name/\True)/\(fQ ([]++aF c.kind++aj c.epoch) ([]++aF c.kind++aj c.epoch))/\yO c.name ([]++aF c.kind++aj c.epoch)/\(((0:Nat)=(0:Nat)/\(0:Nat)=(0:Nat))/\True)/\(fQ ([]++aF c.kind++aj c.epoch++aA (aM c.name)) ([]++aF c.kind++aj c.epoch++aA (aM c.name)))/\DC (List.length ([]++aF c.kind++aj c.epoch++aA (aM c.name)))/\(dI ([]++aF c.kind++aj c.epoch++aA (aM c.name)) (gT c))/\True)/\((c.kind==(4:Int))=false->((c.kind==(5:Int))=true->(((0:Nat)=(0:Nat)/\(0:Nat)=(0:Nat))/\c.plan=c.plan/\True)/\(fQ ([]++aF c.kind++aj c.epoch) ([]++aF c.kind++aj c.epoch))/\jv c.plan ([]++aF c.kind++aj c.epoch)/\(((0:Nat)=(0:Nat)/\(0:Nat)=(0:Nat))/\True)/\(fQ ([]++aF c.kind++aj c.epoch++aj c.plan) ([]++aF c.kind++aj c.epoch++aj c.plan))/\DC (List.length ([]++aF c.kind++aj c.epoch++aj c.plan))/\(dI ([]++aF c.kind++aj c.epoch++aj c.plan) (gT c))/\True)/\((c.kind==(5:Int))=false->((c.kind==(6:Int))=true->(((0:Nat)=(0:Nat)/\(0:Nat)=(0:Nat))/\c.plan=c.plan/\True)/\(fQ ([]++aF c.kind++aj c.epoch) ([]++aF c.kind++aj c.epoch))/\jv c.plan ([]++aF c.kind++aj c.epoch)/\(((0:Nat)=(0:Nat)/\(0:Nat)=(0:Nat))/\True)/\(fQ ([]++aF c.kind++aj c.epoch++aj c.plan) ([]++aF c.kind++aj c.epoch++aj c.plan))/\DC (List.length ([]++aF c.kind++aj c.epoch++aj c.plan))/\(dI ([]++aF c.kind++aj c.epoch++aj c.plan) (gT c))/\True)/\((c.kind==(6:Int))=false->List.length (gT c)=(0:Nat)/\True))))))
theorem Xc (c:R.bJ):(aZ Tryz.prog (wcH c) 23 [.agg (R.dV c)] [] (.ret (bn true (gT c),[],[])))=adl c:=by kernel_rfl
end J
end Go.Proofs.YtnbhdjadlbhknaaGreatDoor
