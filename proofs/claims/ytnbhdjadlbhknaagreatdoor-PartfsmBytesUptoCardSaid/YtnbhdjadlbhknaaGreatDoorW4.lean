import Derived.Test.YtnbhdjadlbhknaaGreatDoorE11
import Derived.Test.YtnbhdjadlbhknaaGreatDoorW1
import Derived.Test.YtnbhdjadlbhknaaGreatDoorW2
import Derived.Test.YtnbhdjadlbhknaaGreatDoorW3
set_option linter.unusedVariables false
set_option linter.unusedSimpArgs false
namespace Go.Proofs.YtnbhdjadlbhknaaGreatDoor.P
open Go.Ax
set_option maxRecDepth 1000000
noncomputable def YZ (b:Bool) (l:List Producer) (x:Producer):aC Tryz.prog :=
 hh _ (ni 145 4 (eP (VY b l x) (y9 l x) [1,2,3,4,5] (fun _=>.ret ()) (mo l x) 0) bB) bq (op1 145 1 0 (.row 80 4) bA)
def RZ (l:List Producer) (x:Producer):T An:=.ret (.own 0 4 0 (l7 l x).length,[.row 80 4 (l7 l x).length none (ah ay (l7 l x))],[])
def Ip (b:Bool) (l:List Producer) (x:Producer):Prop :=
 (((b=b/\l.length=l.length/\ak l.length 4 (ah ay l) (ah ay l))/\(0=0/\0=0)/\(0=0/\0=0)/\false=false/\(0:Int)=0/\True)/\((x.id=x.id/\x.seq=x.seq/\x.here=x.here/\x.offset=x.offset/\True)/\(0=0/\ak 0 4 (fun (x x_1:Nat)=>AV.junk) (ah ay []))/\True)/\true=true)/\aQ Tryz.prog 145 4 (aS Tryz.prog 145 4) { t:=VY b l x 0,m:=y9 l x 0,mv:=[]:St } (T.map (bV [1,2,3,4,5] (mo l x)) ((fun (x:Nat)=>T.ret ()) 0))/\((!(bI l x l.length).fst)=true->(decide ((bI l x l.length).snd.length=(bI l x l.length).snd.length)&&decide ((bI l x l.length).snd.length+1<=9223372036854775807)&&decide (((bI l x l.length).snd.length+1)*32<=140737488355328))=true/\(0=0/\(bI l x l.length).snd.length+1=(l7 l x).length)/\((bI l x l.length).snd.length+1=(l7 l x).length/\ak ((bI l x l.length).snd.length+1) 4 (aL (bI l x l.length).snd.length (ah ay (bI l x l.length).snd) fun (k j:Nat)=>Ax.get [AV.y (.int .u64 x.id),AV.y (.int .u64 x.seq),AV.y (.bool x.here),AV.y (.int .u64 x.offset)] (k*4+j)) (ah ay (l7 l x)))/\True)/\((!(bI l x l.length).fst)=false->(0=0/\(bI l x l.length).snd.length=(l7 l x).length)/\((bI l x l.length).snd.length=(l7 l x).length/\ak (bI l x l.length).snd.length 4 (ah ay (bI l x l.length).snd) (ah ay (l7 l x)))/\True)
theorem wm (b:Bool) (l:List Producer) (x:Producer):(aZ Tryz.prog (YZ b l x) 145 [bG b l,.agg (ay x)] [] (RZ l x))=Ip b l x:=by kernel_rfl
theorem Js (b:Bool) (l:List Producer) (x:Producer) (hl:l.length*32<=140737488355200):(RZ l x).Sat (au Tryz.prog 145 [bG b l,.agg (ay x)] []):=by
 refine aR (ht:=YZ b l x) Tryz.mixed rfl ?_
 rw [wm b l x]
 unfold Ip
 have hL:=DU b l x hl 0 (Nat.zero_le _)
 have hlen:=wI l x l.length
 have hc:∀ y:Producer,∀ j,j<4->rG (Ax.get [.y (.int .u64 y.id),.y (.int .u64 y.seq),.y (.bool y.here),.y (.int .u64 y.offset)] j) (Ax.get (ay y) j):=fun y j hj=>by
  match j,hj with
  | 0,_=>simp [ay]
  | 1,_=>simp [ay]
  | 2,_=>simp [ay]
  | 3,_=>simp [ay]
 rcases hs:bI l x l.length with ⟨d,o⟩
 rw [hs] at hlen
 cases d<;>simp [l7,hs,hL] at hlen ⊢
 all_goals exact ⟨⟨by omega,by omega⟩,pV (aO _ _ _) rfl (hc x)⟩
theorem lJ (y:Producer) (t:List Producer) (x:Producer):iA (y::t) x=if y.id=x.id then iA t x else y::iA t x:=by
 by_cases h:y.id=x.id
 · rw [if_pos h];unfold iA;rw [List.filter_cons_of_neg (by simp [keep,h])]
 · rw [if_neg h];unfold iA;rw [List.filter_cons_of_pos (by simp [keep,h])]
theorem nV (x:Producer):∀ (l o:List Producer),l.foldl (pU x) (true,o)=(true,o++iA l x):=by
 intro l
 induction l with
 | nil=>intro o;simp [iA]
 | cons y t ih =>
   intro o
   by_cases h:y.id=x.id
   · simp [pU,h,ih,lJ]
   · simp [pU,h,ih,lJ]
theorem Er {y:Producer} {t:List Producer} {x:Producer} (h:y.id<x.id):aN (y::t) x=y::aN t x:=by
 have h':¬ y.id=x.id:=by omega
 simp [aN,lJ,below,h,h']
theorem Vo {y:Producer} {t:List Producer} {x:Producer} (h:x.id<=y.id) (ht:∀ z∈t,y.id<z.id):aN (y::t) x=x::iA (y::t) x:=by
 have:below (iA (y::t) x) x.id=0:=by
  unfold below
  rw [List.length_eq_zero_iff]
  cases hd:iA (y::t) x with
  | nil=>rfl
  | cons z r =>
    have hz:z∈iA (y::t) x:=by rw [hd];exact List.mem_cons_self
    have hz':z∈y::t:=(List.mem_filter.1 hz).1
    have hlt:¬ z.id<x.id:=by
     rcases List.mem_cons.1 hz' with h1 | h1
     · rw [h1];omega
     · have:=ht z h1;omega
    rw [List.takeWhile_cons_of_neg]
    simpa using hlt
 rw [aN,this];rfl
theorem Aq (x:Producer):∀ (l o:List Producer),l.Pairwise (fun a b=>a.id<b.id)->(if (l.foldl (pU x) (false,o)).1 then (l.foldl (pU x) (false,o)).2 else (l.foldl (pU x) (false,o)).2++[x])=o++aN l x:=by
 intro l
 induction l with
 | nil=>intro o _;simp [aN,iA,below]
 | cons y t ih =>
   intro o hp
   rw [List.pairwise_cons] at hp
   by_cases h:x.id<=y.id
   · rw [Vo h hp.1]
     by_cases h2:y.id=x.id
     · simp [pU,h2,nV,lJ]
     · simp [pU,h,h2,nV,lJ]
   · have h2:¬ y.id=x.id:=by omega
     have:=ih (o++[y]) hp.2
     rw [Er (by omega)]
     simp only [List.foldl_cons,pU,h,h2,decide_false,Bool.false_and,Bool.false_eq_true,if_false]
     rw [this];simp
theorem NW (r:List Producer):rising r↔r.Pairwise (fun a b=>a.id<b.id):=by
 rw [List.pairwise_iff_getElem]
 constructor
 · intro h i j hi hj hij
   have:=h i j hij hj
   simpa [hi,hj] using this
 · intro h i j hij hj
   have:=h i j (by omega) hj hij
   simpa [show i<r.length by omega,hj] using this
theorem wK {l:List Producer} {x:Producer} (h:rising l):l7 l x=aN l x:=by
 have:=Aq x l [] ((NW l).1 h)
 simpa [l7,bI] using this
noncomputable def YJ (b:Bool) (l:List Producer) (x:Producer):dO Tryz.prog:=⟨145,[bG b l,.agg (ay x)],[],.need (l.length*32<=140737488355200/\rising l) (XR l x),T.Sat.need fun h=>by
 have:=Js b l x h.1
 rw [RZ,wK h.2] at this
 exact this⟩
noncomputable def ZA (b:Bool) (l:List Producer) (x:Producer) (hl:l.length<=9223372036854775806):aC Tryz.prog :=
 hh _ bB (cs1 122 1 1 (adY b l hl) (cs1 122 2 3 (MG b l x.id x.seq hl) (cs1 122 9 6 (aew b l x.id hl) (cs1 122 11 5 (YJ b l x) bq)))) bA
def QW (b:Bool) (l:List Producer) (id:Int) (seq:Int) (o:Int) (hl:l.length<=9223372036854775806):Prop :=
 ((b=b/\l.length=l.length/\ak l.length 4 (ah ay l) (ah ay l))/\True)/\True/\((b=b/\l.length=l.length/\ak l.length 4 (ah ay l) (ah ay l))/\id=id/\seq=seq/\True)/\True/\((!cK l)=true->((aP l (bY id seq true o)==0)=true->(False/\(1:Int)=0/\True)/\False)/\((aP l (bY id seq true o)==0)=false->(True/\1=aP l (bY id seq true o)/\True)/\True))/\((!cK l)=false->((bf l id seq==4)=true->((aP l (bY id seq true o)==0)=true->(False/\(151:Int)=0/\True)/\False)/\((aP l (bY id seq true o)==0)=false->(True/\151=aP l (bY id seq true o)/\True)/\True))/\((bf l id seq==4)=false->((bf l id seq != 1)=true->((aP l (bY id seq true o)==0)=true->(False/\(152:Int)=0/\True)/\False)/\((aP l (bY id seq true o)==0)=false->(True/\152=aP l (bY id seq true o)/\True)/\True))/\((bf l id seq != 1)=false->(decide (256<=(l.length:Int))=true->((b=b/\l.length=l.length/\ak l.length 4 (ah ay l) (ah ay l))/\id=id/\True)/\True/\(decide (h_ l id<0)=true->((aP l (bY id seq true o)==0)=true->(False/\(153:Int)=0/\True)/\False)/\((aP l (bY id seq true o)==0)=false->(True/\153=aP l (bY id seq true o)/\True)/\True))/\(decide (h_ l id<0)=false->((b=b/\l.length=l.length/\ak l.length 4 (ah ay l) (ah ay l))/\(id=id/\seq=seq/\true=true/\o=o/\True)/\True)/\True/\(l.length*32<=140737488355200/\∀ (i j:Nat),i<j->j<l.length->(l.getD i default).id<(l.getD j default).id)/\((aP l (bY id seq true o)==0)=true->((0=0/\(aN l (bY id seq true o)).length=(aN l (bY id seq true o)).length)/\(0:Int)=0/\True)/\((aN l (bY id seq true o)).length=(aN l (bY id seq true o)).length/\ak (aN l (bY id seq true o)).length 4 (ah ay (aN l (bY id seq true o))) (ah ay (aN l (bY id seq true o))))/\True)/\((aP l (bY id seq true o)==0)=false->False)))/\(decide (256<=(l.length:Int))=false->((b=b/\l.length=l.length/\ak l.length 4 (ah ay l) (ah ay l))/\(id=id/\seq=seq/\true=true/\o=o/\True)/\True)/\True/\(l.length*32<=140737488355200/\∀ (i j:Nat),i<j->j<l.length->(l.getD i default).id<(l.getD j default).id)/\((aP l (bY id seq true o)==0)=true->((0=0/\(aN l (bY id seq true o)).length=(aN l (bY id seq true o)).length)/\(0:Int)=0/\True)/\((aN l (bY id seq true o)).length=(aN l (bY id seq true o)).length/\ak (aN l (bY id seq true o)).length 4 (ah ay (aN l (bY id seq true o))) (ah ay (aN l (bY id seq true o))))/\True)/\((aP l (bY id seq true o)==0)=false->False)))))
theorem Nn (b:Bool) (l:List Producer) (id:Int) (seq:Int) (o:Int) (hl:l.length<=9223372036854775806):(aZ Tryz.prog (ZA b l (bY id seq true o) hl) 122 [bG b l,.y (.int .u64 id),.y (.int .u64 seq),.y (.int .u64 o)] [] (lT l (bY id seq true o)))=QW b l id seq o hl:=by kernel_rfl
theorem TT (b:Bool) (l:List Producer) (id seq o:Int) (hl:l.length<=9223372036854775806):(lT l (bY id seq true o)).Sat (au Tryz.prog 122 [bG b l,.y (.int .u64 id),.y (.int .u64 seq),.y (.int .u64 o)] []):=by
 refine aR (ht:=ZA b l (bY id seq true o) hl) Tryz.mixed rfl ?_
 rw [Nn b l id seq o hl]
 unfold QW
 have h1:cK l=true->l.length<=256:=by unfold cK;simp
 by_cases ht:cK l=true
 · have h2:=h1 ht
   have h3:=kE ht
   by_cases h4:bf l id seq=4
   · simp [aP,bY,ht,h4]
   · by_cases h5:bf l id seq=1
     · cases hf:bT l id
       · by_cases hn:l.length=256
         · simp [aP,bY,ht,h5,hf,hn,h_]
         · have hn':¬ ((256:Int)<=l.length):=by omega
           simp [aP,bY,ht,h5,hf,hn,hn',h_]
           exact ⟨by omega,h3⟩
       · have hz:¬ (((l.findIdx (has id):Nat):Int)<0):=by omega
         by_cases hn:(256:Int)<=l.length
         · simp [aP,bY,ht,h5,hf,h_,hz,hn]
           exact ⟨by omega,h3⟩
         · simp [aP,bY,ht,h5,hf,h_,hn]
           exact ⟨by omega,h3⟩
     · simp [aP,bY,ht,h4,h5]
 · simp [aP,bY,ht]
noncomputable def afZ (b:Bool) (l:List Producer) (id seq o:Int) (hl:l.length<=9223372036854775806):dO Tryz.prog:=⟨122,[bG b l,.y (.int .u64 id),.y (.int .u64 seq),.y (.int .u64 o)],[],lT l (bY id seq true o),TT b l id seq o hl⟩
def encI (x:Int):List AV:=[.y (.int .u64 x)]
def Ij (b:Bool) (l:List Int):AV:=.ys b 1 l.length (ah encI l)
def yP (r:List Producer):T An:=.ret (.own 0 4 0 r.length,[.row 80 4 r.length none (ah ay r)],[])
def lat (x y:Producer):Bool:=decide (y.seq<x.seq)||(x.seq==y.seq&&(x.here&&!y.here))
def bM (b:Bool):T An:=.ret (.y (.bool b),[],[])
def bst (s:List Producer) (x:Producer):List Producer:=if !bT s x.id||lat x (findD s x.id) then aN s x else s
def both (s m:List Producer) (k:Nat):List Producer:=(m.take k).foldl bst s
theorem PS {l:List Producer} {x z:Producer} (h:z∈aN l x):z=x∨z∈l:=by
 unfold aN at h
 rw [List.mem_append,List.mem_cons] at h
 rcases h with h | h | h
 · exact Or.inr (List.mem_filter.1 (List.mem_of_mem_take h)).1
 · exact Or.inl h
 · exact Or.inr (List.mem_filter.1 (List.mem_of_mem_drop h)).1
noncomputable def agO (b:Bool) (l:List Producer):dO Tryz.prog:=⟨45,[bG b l],[],.need (l.length<=9223372036854775806) (FY l),T.Sat.need fun h=>LZ b l h⟩
noncomputable def afD (b:Bool) (l:List Producer):dO Tryz.prog:=⟨51,[bG b l],[],.need (l.length<=9223372036854775806) (FY l),T.Sat.need fun h=>Ik b l h⟩
end Go.Proofs.YtnbhdjadlbhknaaGreatDoor.P

namespace Go.Proofs.YtnbhdjadlbhknaaGreatDoor
open Go.Ax
set_option maxRecDepth 1000000
structure Part where
 rng:kT
 epoch:Int
 frozen:Int
 recs:List Rec
 prods:List P.Producer
 cons:List Con
instance:Inhabited Part:=⟨⟨default,0,0,[],[],[]⟩⟩
def aU (b:Bool) (p:Part):List AV:=[.y (.string p.rng.lo),.y (.string p.rng.hi),.y (.int .u64 p.epoch),.y (.int .u64 p.frozen),bZ b p.recs,P.bG b p.prods,dP b p.cons]
def bE (x y:Bool) (p q:Part):Prop:=p.rng.lo=q.rng.lo/\p.rng.hi=q.rng.hi/\p.epoch=q.epoch/\p.frozen=q.frozen/\(x=y/\List.length p.recs=List.length q.recs/\ak (List.length p.recs) (5:Nat) (ah encR p.recs) (ah encR q.recs))/\(x=y/\List.length p.prods=List.length q.prods/\ak (List.length p.prods) (4:Nat) (ah P.ay p.prods) (ah P.ay q.prods))/\(x=y/\List.length p.cons=List.length q.cons/\ak (List.length p.cons) (2:Nat) (ah aJ p.cons) (ah aJ q.cons))/\True
@[simp] theorem agn (x y:Bool) (p q:Part):bE x y p q=(p.rng.lo=q.rng.lo/\p.rng.hi=q.rng.hi/\p.epoch=q.epoch/\p.frozen=q.frozen/\(x=y/\List.length p.recs=List.length q.recs/\ak (List.length p.recs) (5:Nat) (ah encR p.recs) (ah encR q.recs))/\(x=y/\List.length p.prods=List.length q.prods/\ak (List.length p.prods) (4:Nat) (ah P.ay p.prods) (ah P.ay q.prods))/\(x=y/\List.length p.cons=List.length q.cons/\ak (List.length p.cons) (2:Nat) (ah aJ p.cons) (ah aJ q.cons))/\True):=rfl
abbrev Kn:=(Int->Bool)×(Int->Int)
abbrev Kn.put (s:Kn) (a b:Int):Kn:=(kD s.1 a,yQ s.2 a b)
abbrev Kn.sel (s:Kn) (a:Int):Int:=A8 (s.1 a) (s.2 a)
def kn0:Kn:=(fun _=>false,fun _=>0)
def mW (l:List P.Producer):Kn:=l.foldl (fun s x=>s.put x.id x.seq) kn0
def lI (l:List Rec):Kn:=l.foldl (fun s x=>s.put x.prod x.seq) kn0
theorem Hy {l:List P.Producer} {k:Nat} (h:k<l.length):mW (l.take (k+1))=(mW (l.take k)).put (l.getD k default).id (l.getD k default).seq:=by
 unfold mW
 rw [List.take_add_one,List.foldl_append,List.getElem?_eq_getElem h]
 simp [List.getElem?_eq_getElem h]
theorem GL {l:List Rec} {k:Nat} (h:k<l.length):lI (l.take (k+1))=(lI (l.take k)).put (l.getD k default).prod (l.getD k default).seq:=by
 unfold lI
 rw [List.take_add_one,List.foldl_append,List.getElem?_eq_getElem h]
 simp [List.getElem?_eq_getElem h]
def aax (s:Kn):aH:=.mi .u64 .u64 s.1 s.2
def NM (b:Bool) (p:Part) (s:Kn):List aH:=[.box 30 (aU b p),aax s]
def SF (b:Bool) (p:Part) (k:Nat):List AV:=mkT 61 [(1,.ptr 0 0 0 0),(3,.mref 1),(11,P.bG b p.prods),(12,.y (.int .i64 p.prods.length)),(13,.y (.int .i64 k))]
def W_ (b:Bool) (p:Part) (_:Unit):Exit×List AV×List aH:=(.exit 0,mkT 61 [(1,.ptr 0 0 0 0),(3,.mref 1)],NM b p (mW p.prods))
def Cm:List Nat:=[0,1,2,3,4,5,6,7,8,9]
def aan (b:Bool) (p:Part) (k:Nat):Prop :=
 (decide ((k:Int)<(p.prods.length:Int))=true->(true&&decide ((k:Int)<(p.prods.length:Int)))=true/\∃ j:Nat,p.prods.length - j<p.prods.length - k/\(((0=0/\0=0)/\True/\(b=b/\p.prods.length=p.prods.length/\ak p.prods.length 4 (ah P.ay p.prods) (ah P.ay p.prods))/\(p.prods.length:Int)=(p.prods.length:Int)/\IntKind.i64.wrap ((k:Int)+1)=(j:Int)/\True)/\((bE b b p p)/\(IntKind.u64=IntKind.u64/\IntKind.u64=IntKind.u64/\∀ (x:Int),kD (mW (List.take k p.prods)).fst (p.prods.getD (Int.toNat (k:Int)) default).id x=(mW (List.take j p.prods)).fst x/\(kD (mW (List.take k p.prods)).fst (p.prods.getD (Int.toNat (k:Int)) default).id x=true->yQ (mW (List.take k p.prods)).snd (p.prods.getD (Int.toNat (k:Int)) default).id (p.prods.getD (Int.toNat (k:Int)) default).seq x=(mW (List.take j p.prods)).snd x))/\True)/\true=true)/\true=true/\()=())/\(decide ((k:Int)<(p.prods.length:Int))=false->((0=0/\0=0)/\True/\True)/\((bE b b p p)/\(IntKind.u64=IntKind.u64/\IntKind.u64=IntKind.u64/\∀ (x:Int),(mW (List.take k p.prods)).fst x=(mW p.prods).fst x/\((mW (List.take k p.prods)).fst x=true->(mW (List.take k p.prods)).snd x=(mW p.prods).snd x))/\True)/\true=true)
theorem Rm (b:Bool) (p:Part) (k:Nat):(cu Tryz.prog (hT _) 47 3 (fun k=>p.prods.length - k) (SF b p) (fun k=>NM b p (mW (p.prods.take k))) Cm (fun _=>.ret ()) (W_ b p) k)=aan b p k:=by kernel_rfl
def TM (b:Bool) (p:Part) (k:Nat):List aH:=[.box 30 (aU b p),aax (mW p.prods),aax (lI (p.recs.take k))]
def Sy (b:Bool) (p:Part) (k:Nat):List AV:=mkT 61 [(1,.ptr 0 0 0 0),(3,.mref 1),(6,.mref 2),(25,bZ b p.recs),(26,.y (.int .i64 p.recs.length)),(27,.y (.int .i64 k))]
def Vu (r:Bool):Exit×List AV×List aH:=match r with
 | true=>(.exit 2,mkT 61 [],[])
 | false=>(.ret,mkT 61 [(2,.s (.bool false))],[])
def okO (p:Part) (k:Nat):Bool :=
 let x:=p.recs.getD k default
 gZ p.rng x.key&&(!decide (x.seq<=(lI (p.recs.take k)).sel x.prod)&&!decide ((mW p.prods).sel x.prod<x.seq))
def bP (p:Part) (k:Nat):Bool:=(List.range' k (p.recs.length - k)).all fun j=>okO p j
theorem tY {p:Part} {k:Nat} (h:p.recs.length<=k):bP p k=true:=by
 unfold bP
 rw [show p.recs.length - k=0 by omega];rfl
theorem qK {p:Part} {k:Nat} (h:k<p.recs.length):bP p k=(okO p k&&bP p (k+1)):=by
 unfold bP
 rw [show p.recs.length - k=(p.recs.length - (k+1))+1 by omega,List.range'_succ];rfl
def T9 (p:Part) (k:Nat):T Bool:=.ite (bP p k) (.ret true) (.ret false)
noncomputable def ah3 (p:Part) (k:Nat):aC Tryz.prog:=hh _ bB (cs1 47 11 4 (afv p.rng (p.recs.getD k default).key) bq) bA
def aai (b:Bool) (p:Part) (k:Nat):Prop :=
 (decide ((k:Int)<(p.recs.length:Int))=true->(true&&decide ((k:Int)<(p.recs.length:Int)))=true/\((p.rng.lo=p.rng.lo/\p.rng.hi=p.rng.hi/\True)/\(p.recs.getD (Int.toNat (k:Int)) default).key=(p.recs.getD k default).key/\True)/\True/\((!gZ p.rng (p.recs.getD k default).key)=true->(bP p k=true->False)/\(bP p k=false->(false=false/\True)/\True/\true=true))/\((!gZ p.rng (p.recs.getD k default).key)=false->(decide ((p.recs.getD (Int.toNat (k:Int)) default).seq<=A8 ((lI (List.take k p.recs)).fst (p.recs.getD (Int.toNat (k:Int)) default).prod) ((lI (List.take k p.recs)).snd (p.recs.getD (Int.toNat (k:Int)) default).prod))=true->(bP p k=true->False)/\(bP p k=false->(false=false/\True)/\True/\true=true))/\(decide ((p.recs.getD (Int.toNat (k:Int)) default).seq<=A8 ((lI (List.take k p.recs)).fst (p.recs.getD (Int.toNat (k:Int)) default).prod) ((lI (List.take k p.recs)).snd (p.recs.getD (Int.toNat (k:Int)) default).prod))=false->(decide (A8 ((mW p.prods).fst (p.recs.getD (Int.toNat (k:Int)) default).prod) ((mW p.prods).snd (p.recs.getD (Int.toNat (k:Int)) default).prod)<(p.recs.getD (Int.toNat (k:Int)) default).seq)=true->(bP p k=true->False)/\(bP p k=false->(false=false/\True)/\True/\true=true))/\(decide (A8 ((mW p.prods).fst (p.recs.getD (Int.toNat (k:Int)) default).prod) ((mW p.prods).snd (p.recs.getD (Int.toNat (k:Int)) default).prod)<(p.recs.getD (Int.toNat (k:Int)) default).seq)=false->∃ j:Nat,p.recs.length - j<p.recs.length - k/\(((0=0/\0=0)/\True/\True/\(b=b/\p.recs.length=p.recs.length/\ak p.recs.length 5 (ah encR p.recs) (ah encR p.recs))/\(p.recs.length:Int)=(p.recs.length:Int)/\IntKind.i64.wrap ((k:Int)+1)=(j:Int)/\True)/\((bE b b p p)/\(IntKind.u64=IntKind.u64/\IntKind.u64=IntKind.u64/\∀ (x:Int),(mW p.prods).fst x=(mW p.prods).fst x/\((mW p.prods).fst x=true->(mW p.prods).snd x=(mW p.prods).snd x))/\(IntKind.u64=IntKind.u64/\IntKind.u64=IntKind.u64/\∀ (x:Int),kD (lI (List.take k p.recs)).fst (p.recs.getD (Int.toNat (k:Int)) default).prod x=(lI (List.take j p.recs)).fst x/\(kD (lI (List.take k p.recs)).fst (p.recs.getD (Int.toNat (k:Int)) default).prod x=true->yQ (lI (List.take k p.recs)).snd (p.recs.getD (Int.toNat (k:Int)) default).prod (p.recs.getD (Int.toNat (k:Int)) default).seq x=(lI (List.take j p.recs)).snd x))/\True)/\true=true)/\true=true/\(bP p j=true->(bP p k=true->true=true)/\(bP p k=false->true=false))/\(bP p j=false->(bP p k=true->false=true)/\(bP p k=false->false=false))))))/\(decide ((k:Int)<(p.recs.length:Int))=false->(bP p k=true->True/\True/\true=true)/\(bP p k=false->False))
theorem Q_ (b:Bool) (p:Part) (k:Nat):(cu Tryz.prog (ah3 p k) 47 9 (fun k=>p.recs.length - k) (Sy b p) (TM b p) Cm (T9 p) Vu k)=aai b p k:=by kernel_rfl
noncomputable def orH (b:Bool) (p:Part):aC Tryz.prog:=hh _ (ni 47 3 (eP (SF b p) (fun k=>NM b p (mW (p.prods.take k))) Cm (fun _=>.ret ()) (W_ b p) 0) (ni 47 9 (eP (Sy b p) (TM b p) Cm (T9 p) Vu 0) bB)) bq bA
def ad1 (b:Bool) (p:Part):Prop :=
 (((0=0/\0=0)/\True/\(b=b/\p.prods.length=p.prods.length/\ak p.prods.length 4 (ah P.ay p.prods) (ah P.ay p.prods))/\(p.prods.length:Int)=(p.prods.length:Int)/\(0:Int)=0/\True)/\((bE b b p p)/\(∀ (x:Int),false=false)/\True)/\true=true)/\aQ Tryz.prog 47 3 (aS Tryz.prog 47 3) { t:=SF b p 0,m:=NM b p (mW (List.take 0 p.prods)),mv:=[]:St } (T.map (bV Cm (W_ b p)) ((fun (x:Nat)=>T.ret ()) 0))/\(((0=0/\0=0)/\True/\True/\(b=b/\p.recs.length=p.recs.length/\ak p.recs.length 5 (ah encR p.recs) (ah encR p.recs))/\(p.recs.length:Int)=(p.recs.length:Int)/\(0:Int)=0/\True)/\((bE b b p p)/\(IntKind.u64=IntKind.u64/\IntKind.u64=IntKind.u64/\∀ (x:Int),(mW p.prods).fst x=(mW p.prods).fst x/\((mW p.prods).fst x=true->(mW p.prods).snd x=(mW p.prods).snd x))/\(∀ (x:Int),false=false)/\True)/\true=true)/\aQ Tryz.prog 47 9 (aS Tryz.prog 47 9) { t:=Sy b p 0,m:=TM b p 0,mv:=[]:St } (T.map (bV Cm Vu) (T9 p 0))/\(bP p 0=true->true=bP p 0/\True)/\(bP p 0=false->false=bP p 0/\True)
theorem WT (b:Bool) (p:Part):(aZ Tryz.prog (orH b p) 47 [.agg (aU b p)] [] (bM (bP p 0)))=ad1 b p:=by kernel_rfl
theorem QI (b:Bool) (p:Part) (hl:p.prods.length<=9223372036854775806) (k:Nat):aQ Tryz.prog 47 3 (aS Tryz.prog 47 3) ⟨SF b p k,NM b p (mW (p.prods.take k)),[]⟩ (T.map (bV Cm (W_ b p)) (.ret ())):=by
 refine fP (o:=fun _=>.ret ()) (rz:=fun k=>SF b p k) (stM:=fun k=>NM b p (mW (p.prods.take k))) Tryz.mixed (fun _=>rfl) (fun k=>(Rm b p k).mpr ?_) k
 unfold aan
 by_cases h:k<p.prods.length
 · have hw:IntKind.i64.wrap ((k:Int)+1)=((k+1:Nat):Int):=by rw [wrap_i64 (by omega) (by omega)];omega
   have hs:=Hy h
   have hz:decide ((k:Int)<p.prods.length)=true:=by simp;omega
   rw [Int.toNat_natCast]
   simp only [hz]
   generalize p.prods.getD k default=x at *
   generalize mW (p.prods.take k)=s at *
   simp
   refine Exists.intro (k+1) ?_
   rw [hs]
   refine ⟨by omega,hw,fun y=>⟨rfl,fun _=>rfl⟩⟩
 · have hz:decide ((k:Int)<p.prods.length)=false:=by simp;omega
   rw [List.take_of_length_le (by omega)]
   simp [hz]
   exact fun e=>absurd e h
theorem QX (b:Bool) (p:Part) (hl:p.recs.length<=9223372036854775806) (k:Nat):aQ Tryz.prog 47 9 (aS Tryz.prog 47 9) ⟨Sy b p k,TM b p k,[]⟩ ((T9 p k).map (bV Cm Vu)):=by
 refine dV (o:=T9 p) (rz:=Sy b p) (stM:=TM b p) Tryz.mixed (fun _=>rfl) (fun k=>(Q_ b p k).mpr ?_) k
 unfold aai
 by_cases h:k<p.recs.length
 · have hw:IntKind.i64.wrap ((k:Int)+1)=((k+1:Nat):Int):=by rw [wrap_i64 (by omega) (by omega)];omega
   have hs:=GL h
   have hf:=qK h
   have hz:decide ((k:Int)<p.recs.length)=true:=by simp;omega
   have ho:okO p k=(gZ p.rng (p.recs.getD k default).key&&(!decide ((p.recs.getD k default).seq<=(lI (p.recs.take k)).sel (p.recs.getD k default).prod)&&!decide ((mW p.prods).sel (p.recs.getD k default).prod<(p.recs.getD k default).seq))):=rfl
   rw [Int.toNat_natCast]
   simp only [hz,hf,ho]
   generalize p.recs.getD k default=x at *
   generalize lI (p.recs.take k)=s at *
   cases h1:gZ p.rng x.key
   · simp
   · by_cases h2:x.seq<=s.sel x.prod
     · simp [h2]
     · by_cases h3:(mW p.prods).sel x.prod<x.seq
       · simp [h2,h3]
       · simp [h2,h3]
         refine Exists.intro (k+1) ?_
         rw [hs]
         refine ⟨by omega,⟨hw,fun y=>⟨rfl,fun _=>rfl⟩⟩,?_⟩
         cases bP p (k+1)<;>simp
 · have hz:decide ((k:Int)<p.recs.length)=false:=by simp;omega
   simp only [hz,tY (p:=p) (k:=k) (by omega)]
   simp
theorem agD (b:Bool) (p:Part) (h1:p.prods.length<=9223372036854775806) (h2:p.recs.length<=9223372036854775806):(bM (bP p 0)).Sat (au Tryz.prog 47 [.agg (aU b p)] []):=by
 refine aR (ht:=orH b p) Tryz.mixed rfl ?_
 rw [WT b p]
 unfold ad1
 have l1:=QI b p h1 0
 have l2:=QX b p h2 0
 rw [List.take_zero] at l1
 simp [l1,l2]
noncomputable def orC (b:Bool) (p:Part):dO Tryz.prog:=⟨47,[.agg (aU b p)],[],.need (p.prods.length<=9223372036854775806/\p.recs.length<=9223372036854775806) (bM (bP p 0)),T.Sat.need fun h=>agD b p h.1 h.2⟩
def dB (p:Part) (x:P.Producer):Bool:=x.here&&(decide ((p.recs.length:Int)<=x.offset)||((p.recs.getD x.offset.toNat default).prod != x.id||(p.recs.getD x.offset.toNat default).seq != x.seq))
def Lm (b:Bool) (p:Part):List AV:=[.ip false 1 (get [.y (.int .u64 (IntKind.u64.wrap p.recs.length))]),.ip false 7 (get (aU b p))]
def Sv (b:Bool) (p:Part) (x:P.Producer):Prop :=
 (x.here=true->(decide (IntKind.u64.wrap (p.recs.length:Int)<=x.offset)=true->true=dB p x/\True)/\(decide (IntKind.u64.wrap (p.recs.length:Int)<=x.offset)=false->(decide (0<=x.offset)&&decide (x.offset<(p.recs.length:Int)))=true/\(((p.recs.getD (Int.toNat x.offset) default).prod != x.id)=true->true=dB p x/\True)/\(((p.recs.getD (Int.toNat x.offset) default).prod != x.id)=false->(decide (0<=x.offset)&&decide (x.offset<(p.recs.length:Int)))=true/\((p.recs.getD (Int.toNat x.offset) default).seq != x.seq)=dB p x/\True)))/\(x.here=false->false=dB p x/\True)
theorem M9 (b:Bool) (p:Part) (x:P.Producer):(aZ Tryz.prog (hT _) 42 ([.agg (P.ay x)]++Lm b p) [] (bM (dB p x)))=Sv b p x:=by kernel_rfl
def dh (n:Nat) (x:Con):Bool:=decide ((n:Int)<x.off)
def FK (n:Nat):List AV:=[.ip false 1 (get [.y (.int .u64 (IntKind.u64.wrap n))])]
def MR (n:Nat) (x:Con):Prop :=
 decide (IntKind.u64.wrap (n:Int)<x.off)=dh n x/\True
theorem JV (n:Nat) (x:Con):(aZ Tryz.prog (hT _) 43 ([.agg (aJ x)]++FK n) [] (bM (dh n x)))=MR n x:=by kernel_rfl
theorem abd (b:Bool) (p:Part) (x:P.Producer) (h1:p.recs.length<=9223372036854775806) (h2:0<=x.offset):(bM (dB p x)).Sat (au Tryz.prog 42 ([.agg (P.ay x)]++Lm b p) []):=by
 refine aR (ht:=hT _) Tryz.mixed rfl ?_
 rw [M9 b p x]
 unfold Sv
 have hw:IntKind.u64.wrap (p.recs.length:Int)=p.recs.length:=wrap_u64 (by omega) (by omega)
 simp only [hw]
 unfold dB
 generalize p.recs.getD x.offset.toNat default=y
 cases hh:x.here
 · simp
 · by_cases h3:(p.recs.length:Int)<=x.offset
   · simp [h3]
   · have h4:x.offset<p.recs.length:=by omega
     by_cases h5:y.prod=x.id<;>by_cases h6:y.seq=x.seq<;>simp [h3,h4,h2,h5,h6]
theorem Xu (n:Nat) (x:Con) (h1:n<=9223372036854775806):(bM (dh n x)).Sat (au Tryz.prog 43 ([.agg (aJ x)]++FK n) []):=by
 refine aR (ht:=hT _) Tryz.mixed rfl ?_
 rw [JV n x]
 unfold MR
 have hw:IntKind.u64.wrap (n:Int)=n:=wrap_u64 (by omega) (by omega)
 simp [hw,dh]
def WC (b:Bool) (p:Part):AV:=.fn (.func 42) [] (Lm b p)
def iP (b:Bool) (p:Part) (l:List P.Producer):Bool:=l.any (dB p)
theorem NJ (b:Bool) (p:Part):iP b p []=false:=rfl
theorem KF (b:Bool) (p:Part) (y:P.Producer) (l:List P.Producer):iP b p (y::l)=(dB p y||iP b p l):=rfl
noncomputable def loC (b:Bool) (p:Part) (x:P.Producer):dO Tryz.prog:=⟨42,[.agg (P.ay x)]++(Lm b p),[],.need (p.recs.length<=9223372036854775806/\0<=x.offset) (bM (dB p x)),T.Sat.need fun h=>abd b p x h.1 h.2⟩
def loT (b:Bool) (p:Part) (bb:Bool) (l:List P.Producer) (k:Nat):List AV:=mkT 19 [(0,.ys bb 4 l.length (ah P.ay l)),(1,WC b p),(4,.s (.int .i64 0)),(7,.y (.int .i64 l.length)),(8,.y (.int .i64 k))]
def loS (r:Bool×Nat):Exit×List AV×List aH:=match r.1 with
 | true=>(.ret,mkT 19 [(4,.y (.int .i64 r.2))],[])
 | false=>(.exit 0,mkT 19 [],[])
def loO (b:Bool) (p:Part) (l:List P.Producer) (k:Nat):T (Bool×Nat):=.ite (iP b p (l.drop k)) (.ret (true,k+(l.drop k).findIdx (dB p))) (.ret (false,0))
noncomputable def ad8 (b:Bool) (p:Part) (l:List P.Producer) (k:Nat):aC Tryz.prog:=hh _ bB (cs1 116 4 5 (loC b p (l.getD k default)) bq) bA
def ZK (b:Bool) (p:Part) (bb:Bool) (l:List P.Producer) (k:Nat):Prop :=
 (decide ((↑k:Int)<(↑(List.length l):Int))=true->(true&&decide ((↑k:Int)<(↑(List.length l):Int)))=true/\(((List.getD l (Int.toNat (↑k:Int)) (@default P.Producer P.instInhabitedProducer)).id=(List.getD l k (@default P.Producer P.instInhabitedProducer)).id/\(List.getD l (Int.toNat (↑k:Int)) (@default P.Producer P.instInhabitedProducer)).seq=(List.getD l k (@default P.Producer P.instInhabitedProducer)).seq/\(List.getD l (Int.toNat (↑k:Int)) (@default P.Producer P.instInhabitedProducer)).here=(List.getD l k (@default P.Producer P.instInhabitedProducer)).here/\(List.getD l (Int.toNat (↑k:Int)) (@default P.Producer P.instInhabitedProducer)).offset=(List.getD l k (@default P.Producer P.instInhabitedProducer)).offset/\True)/\(false=false/\(1:Nat)<=(1:Nat)/\eT (1:Nat) (Ax.get [AV.y (Value.int IntKind.u64 (IntKind.wrap IntKind.u64 (↑(List.length p.recs):Int)))]) (Ax.get [AV.y (Value.int IntKind.u64 (IntKind.wrap IntKind.u64 (↑(List.length p.recs):Int)))]))/\(false=false/\(7:Nat)<=(7:Nat)/\eT (7:Nat) (Ax.get [AV.y (Value.string p.rng.lo),AV.y (Value.string p.rng.hi),AV.y (Value.int IntKind.u64 p.epoch),AV.y (Value.int IntKind.u64 p.frozen),AV.ys b (5:Nat) (List.length p.recs) (ah encR p.recs),AV.ys b (4:Nat) (List.length p.prods) (ah P.ay p.prods),AV.ys b (2:Nat) (List.length p.cons) (ah aJ p.cons)]) (Ax.get [AV.y (Value.string p.rng.lo),AV.y (Value.string p.rng.hi),AV.y (Value.int IntKind.u64 p.epoch),AV.y (Value.int IntKind.u64 p.frozen),AV.ys b (5:Nat) (List.length p.recs) (ah encR p.recs),AV.ys b (4:Nat) (List.length p.prods) (ah P.ay p.prods),AV.ys b (2:Nat) (List.length p.cons) (ah aJ p.cons)]))/\True)/\True/\(List.length p.recs<=(9223372036854775806:Nat)/\(0:Int)<=(List.getD l k (@default P.Producer P.instInhabitedProducer)).offset)/\(dB p (List.getD l k (@default P.Producer P.instInhabitedProducer))=true->(iP b p (List.drop k l)=true->((↑k:Int)=(↑(k+List.findIdx (dB p) (List.drop k l)):Int)/\True)/\True/\true=true)/\(iP b p (List.drop k l)=false->False))/\(dB p (List.getD l k (@default P.Producer P.instInhabitedProducer))=false->∃ (j:Nat),List.length l - j<List.length l - k/\(((bb=bb/\List.length l=List.length l/\ak (List.length l) (4:Nat) (ah P.ay l) (ah P.ay l))/\(True/\(false=false/\(1:Nat)<=(1:Nat)/\eT (1:Nat) (Ax.get [AV.y (Value.int IntKind.u64 (IntKind.wrap IntKind.u64 (↑(List.length p.recs):Int)))]) (Ax.get [AV.y (Value.int IntKind.u64 (IntKind.wrap IntKind.u64 (↑(List.length p.recs):Int)))]))/\(false=false/\(7:Nat)<=(7:Nat)/\eT (7:Nat) (Ax.get [AV.y (Value.string p.rng.lo),AV.y (Value.string p.rng.hi),AV.y (Value.int IntKind.u64 p.epoch),AV.y (Value.int IntKind.u64 p.frozen),AV.ys b (5:Nat) (List.length p.recs) (ah encR p.recs),AV.ys b (4:Nat) (List.length p.prods) (ah P.ay p.prods),AV.ys b (2:Nat) (List.length p.cons) (ah aJ p.cons)]) (Ax.get [AV.y (Value.string p.rng.lo),AV.y (Value.string p.rng.hi),AV.y (Value.int IntKind.u64 p.epoch),AV.y (Value.int IntKind.u64 p.frozen),AV.ys b (5:Nat) (List.length p.recs) (ah encR p.recs),AV.ys b (4:Nat) (List.length p.prods) (ah P.ay p.prods),AV.ys b (2:Nat) (List.length p.cons) (ah aJ p.cons)]))/\True)/\(0:Int)=(0:Int)/\(↑(List.length l):Int)=(↑(List.length l):Int)/\IntKind.wrap IntKind.i64 ((↑k:Int)+(1:Int))=(↑j:Int)/\True)/\True/\true=true)/\true=true/\(iP b p (List.drop j l)=true->(iP b p (List.drop k l)=true->(true,j+List.findIdx (dB p) (List.drop j l))=(true,k+List.findIdx (dB p) (List.drop k l)))/\(iP b p (List.drop k l)=false->(true,j+List.findIdx (dB p) (List.drop j l))=(false,(0:Nat))))/\(iP b p (List.drop j l)=false->(iP b p (List.drop k l)=true->(false,(0:Nat))=(true,k+List.findIdx (dB p) (List.drop k l)))/\(iP b p (List.drop k l)=false->(false,(0:Nat))=(false,(0:Nat))))))/\(decide ((↑k:Int)<(↑(List.length l):Int))=false->(iP b p (List.drop k l)=true->False)/\(iP b p (List.drop k l)=false->True/\True/\true=true))
theorem OZ (b:Bool) (p:Part) (bb:Bool) (l:List P.Producer) (k:Nat):(cu Tryz.prog (ad8 b p l k) 116 2 (fun k=>l.length - k) (loT b p bb l) (fun _=>[]) [0] (loO b p l) loS k)=ZK b p bb l k:=by kernel_rfl
theorem Vr (b:Bool) (p:Part) (bb:Bool) (l:List P.Producer) (hl:l.length<=9223372036854775806) (hn:∀ k,k<l.length->(p.recs.length<=9223372036854775806/\0<=(l.getD k default).offset)) (k:Nat):aQ Tryz.prog 116 2 (aS Tryz.prog 116 2) ⟨loT b p bb l k,[],[]⟩ ((loO b p l k).map (bV [0] loS)):=by
 refine dV (ht:=fun k=>ad8 b p l k) Tryz.mixed (fun _=>rfl) (fun k=>(OZ b p bb l k).mpr ?_) k
 unfold ZK
 by_cases h:k<l.length
 · have hw:IntKind.i64.wrap ((k:Int)+1)=((k+1:Nat):Int):=by rw [wrap_i64 (by omega) (by omega)];omega
   have hz:decide ((k:Int)<l.length)=true:=by simp;omega
   have hd:l.drop k=l.getD k default::l.drop (k+1):=by rw [drop_cons h];simp
   have hk:=hn k h
   rw [Int.toNat_natCast]
   simp only [hz,hd,KF,List.findIdx_cons]
   generalize l.getD k default=y at *
   cases hp:dB p y
   · simp [hw,hk]
     exact ⟨k+1,by omega,by omega,by grind⟩
   · simp [hk]
 · have hz:decide ((k:Int)<l.length)=false:=by simp;omega
   simp only [hz,jC (Nat.le_of_not_lt h),NJ]
   simp
noncomputable def loH (b:Bool) (p:Part) (bb:Bool) (l:List P.Producer):aC Tryz.prog:=hh _ (ni 116 2 (eP (loT b p bb l) (fun _=>[]) [0] (loO b p l) loS 0) bB) bq bA
def ZL (b:Bool) (p:Part) (bb:Bool) (l:List P.Producer):Prop :=
 (((bb=bb/\l.length=l.length/\ak l.length 4 (ah P.ay l) (ah P.ay l))/\(True/\(false=false/\1<=1/\eT 1 (Ax.get [AV.y (.int .u64 (IntKind.u64.wrap (p.recs.length:Int)))]) (Ax.get [AV.y (.int .u64 (IntKind.u64.wrap (p.recs.length:Int)))]))/\(false=false/\7<=7/\eT 7 (Ax.get [AV.y (.string p.rng.lo),AV.y (.string p.rng.hi),AV.y (.int .u64 p.epoch),AV.y (.int .u64 p.frozen),AV.ys b 5 p.recs.length (ah encR p.recs),AV.ys b 4 p.prods.length (ah P.ay p.prods),AV.ys b 2 p.cons.length (ah aJ p.cons)]) (Ax.get [AV.y (.string p.rng.lo),AV.y (.string p.rng.hi),AV.y (.int .u64 p.epoch),AV.y (.int .u64 p.frozen),AV.ys b 5 p.recs.length (ah encR p.recs),AV.ys b 4 p.prods.length (ah P.ay p.prods),AV.ys b 2 p.cons.length (ah aJ p.cons)]))/\True)/\(0:Int)=0/\(l.length:Int)=(l.length:Int)/\(0:Int)=0/\True)/\True/\true=true)/\aQ Tryz.prog 116 2 (aS Tryz.prog 116 2) { t:=loT b p bb l 0,m:=[],mv:=[]:St } (T.map (bV [0] loS) (loO b p l 0))/\(iP b p (List.drop 0 l)=true->true=iP b p l/\True)/\(iP b p (List.drop 0 l)=false->false=iP b p l/\True)
theorem TQ (b:Bool) (p:Part) (bb:Bool) (l:List P.Producer):(aZ Tryz.prog (loH b p bb l) 48 [.ys bb 4 l.length (ah P.ay l),WC b p] [] (bM (iP b p l)))=ZL b p bb l:=by kernel_rfl
theorem ab7 (b:Bool) (p:Part) (bb:Bool) (l:List P.Producer) (hl:l.length<=9223372036854775806) (hn:∀ k,k<l.length->(p.recs.length<=9223372036854775806/\0<=(l.getD k default).offset)):(bM (iP b p l)).Sat (au Tryz.prog 48 [.ys bb 4 l.length (ah P.ay l),WC b p] []):=by
 refine aR (ht:=loH b p bb l) Tryz.mixed rfl ?_
 rw [TQ b p bb l]
 unfold ZL
 have:=Vr b p bb l hl hn 0
 simp [this]
noncomputable def aff (b:Bool) (p:Part) (bb:Bool) (l:List P.Producer):dO Tryz.prog:=⟨48,[.ys bb 4 l.length (ah P.ay l),WC b p],[],.need (l.length<=9223372036854775806/\∀ k,k<l.length->(p.recs.length<=9223372036854775806/\0<=(l.getD k default).offset)) (bM (iP b p l)),T.Sat.need fun h=>ab7 b p bb l h.1 h.2⟩
def YD (m:Nat):AV:=.fn (.func 43) [] (FK m)
def iV (m:Nat) (l:List Con):Bool:=l.any (dh m)
theorem Ni (m:Nat):iV m []=false:=rfl
theorem KS (m:Nat) (y:Con) (l:List Con):iV m (y::l)=(dh m y||iV m l):=rfl
noncomputable def ahC (m:Nat) (x:Con):dO Tryz.prog:=⟨43,[.agg (aJ x)]++(FK m),[],.need (m<=9223372036854775806) (bM (dh m x)),T.Sat.need fun h=>Xu m x h⟩
def ahT (m:Nat) (bb:Bool) (l:List Con) (k:Nat):List AV:=mkT 19 [(0,.ys bb 2 l.length (ah aJ l)),(1,YD m),(4,.s (.int .i64 0)),(7,.y (.int .i64 l.length)),(8,.y (.int .i64 k))]
def ahS (r:Bool×Nat):Exit×List AV×List aH:=match r.1 with
 | true=>(.ret,mkT 19 [(4,.y (.int .i64 r.2))],[])
 | false=>(.exit 0,mkT 19 [],[])
def ahO (m:Nat) (l:List Con) (k:Nat):T (Bool×Nat):=.ite (iV m (l.drop k)) (.ret (true,k+(l.drop k).findIdx (dh m))) (.ret (false,0))
noncomputable def ad3 (m:Nat) (l:List Con) (k:Nat):aC Tryz.prog:=hh _ bB (cs1 117 4 5 (ahC m (l.getD k default)) bq) bA
def YS (m:Nat) (bb:Bool) (l:List Con) (k:Nat):Prop :=
 (decide ((↑k:Int)<(↑(List.length l):Int))=true->(true&&decide ((↑k:Int)<(↑(List.length l):Int)))=true/\(((List.getD l (Int.toNat (↑k:Int)) (@default Con instInhabitedCon)).name=(List.getD l k (@default Con instInhabitedCon)).name/\(List.getD l (Int.toNat (↑k:Int)) (@default Con instInhabitedCon)).off=(List.getD l k (@default Con instInhabitedCon)).off/\True)/\(false=false/\(1:Nat)<=(1:Nat)/\eT (1:Nat) (Ax.get [AV.y (Value.int IntKind.u64 (IntKind.wrap IntKind.u64 (↑m:Int)))]) (Ax.get [AV.y (Value.int IntKind.u64 (IntKind.wrap IntKind.u64 (↑m:Int)))]))/\True)/\True/\m<=(9223372036854775806:Nat)/\(dh m (List.getD l k (@default Con instInhabitedCon))=true->(iV m (List.drop k l)=true->((↑k:Int)=(↑(k+List.findIdx (dh m) (List.drop k l)):Int)/\True)/\True/\true=true)/\(iV m (List.drop k l)=false->False))/\(dh m (List.getD l k (@default Con instInhabitedCon))=false->∃ (j:Nat),List.length l - j<List.length l - k/\(((bb=bb/\List.length l=List.length l/\ak (List.length l) (2:Nat) (ah aJ l) (ah aJ l))/\(True/\(false=false/\(1:Nat)<=(1:Nat)/\eT (1:Nat) (Ax.get [AV.y (Value.int IntKind.u64 (IntKind.wrap IntKind.u64 (↑m:Int)))]) (Ax.get [AV.y (Value.int IntKind.u64 (IntKind.wrap IntKind.u64 (↑m:Int)))]))/\True)/\(0:Int)=(0:Int)/\(↑(List.length l):Int)=(↑(List.length l):Int)/\IntKind.wrap IntKind.i64 ((↑k:Int)+(1:Int))=(↑j:Int)/\True)/\True/\true=true)/\true=true/\(iV m (List.drop j l)=true->(iV m (List.drop k l)=true->(true,j+List.findIdx (dh m) (List.drop j l))=(true,k+List.findIdx (dh m) (List.drop k l)))/\(iV m (List.drop k l)=false->(true,j+List.findIdx (dh m) (List.drop j l))=(false,(0:Nat))))/\(iV m (List.drop j l)=false->(iV m (List.drop k l)=true->(false,(0:Nat))=(true,k+List.findIdx (dh m) (List.drop k l)))/\(iV m (List.drop k l)=false->(false,(0:Nat))=(false,(0:Nat))))))/\(decide ((↑k:Int)<(↑(List.length l):Int))=false->(iV m (List.drop k l)=true->False)/\(iV m (List.drop k l)=false->True/\True/\true=true))
theorem Pb (m:Nat) (bb:Bool) (l:List Con) (k:Nat):(cu Tryz.prog (ad3 m l k) 117 2 (fun k=>l.length - k) (ahT m bb l) (fun _=>[]) [0] (ahO m l) ahS k)=YS m bb l k:=by kernel_rfl
theorem Ym (m:Nat) (bb:Bool) (l:List Con) (hl:l.length<=9223372036854775806) (hn:∀ k,k<l.length->(m<=9223372036854775806)) (k:Nat):aQ Tryz.prog 117 2 (aS Tryz.prog 117 2) ⟨ahT m bb l k,[],[]⟩ ((ahO m l k).map (bV [0] ahS)):=by
 refine dV (ht:=fun k=>ad3 m l k) Tryz.mixed (fun _=>rfl) (fun k=>(Pb m bb l k).mpr ?_) k
 unfold YS
 by_cases h:k<l.length
 · have hw:IntKind.i64.wrap ((k:Int)+1)=((k+1:Nat):Int):=by rw [wrap_i64 (by omega) (by omega)];omega
   have hz:decide ((k:Int)<l.length)=true:=by simp;omega
   have hd:l.drop k=l.getD k default::l.drop (k+1):=by rw [drop_cons h];simp
   have hk:=hn k h
   rw [Int.toNat_natCast]
   simp only [hz,hd,KS,List.findIdx_cons]
   generalize l.getD k default=y at *
   cases hp:dh m y
   · simp [hw,hk]
     exact ⟨k+1,by omega,by omega,by grind⟩
   · simp [hk]
 · have hz:decide ((k:Int)<l.length)=false:=by simp;omega
   simp only [hz,jC (Nat.le_of_not_lt h),Ni]
   simp
noncomputable def ahH (m:Nat) (bb:Bool) (l:List Con):aC Tryz.prog:=hh _ (ni 117 2 (eP (ahT m bb l) (fun _=>[]) [0] (ahO m l) ahS 0) bB) bq bA
def YN (m:Nat) (bb:Bool) (l:List Con):Prop :=
 (((bb=bb/\l.length=l.length/\ak l.length 2 (ah aJ l) (ah aJ l))/\(True/\(false=false/\1<=1/\eT 1 (Ax.get [AV.y (.int .u64 (IntKind.u64.wrap (m:Int)))]) (Ax.get [AV.y (.int .u64 (IntKind.u64.wrap (m:Int)))]))/\True)/\(0:Int)=0/\(l.length:Int)=(l.length:Int)/\(0:Int)=0/\True)/\True/\true=true)/\aQ Tryz.prog 117 2 (aS Tryz.prog 117 2) { t:=ahT m bb l 0,m:=[],mv:=[]:St } (T.map (bV [0] ahS) (ahO m l 0))/\(iV m (List.drop 0 l)=true->true=iV m l/\True)/\(iV m (List.drop 0 l)=false->false=iV m l/\True)
theorem Rz (m:Nat) (bb:Bool) (l:List Con):(aZ Tryz.prog (ahH m bb l) 49 [.ys bb 2 l.length (ah aJ l),YD m] [] (bM (iV m l)))=YN m bb l:=by kernel_rfl
theorem acB (m:Nat) (bb:Bool) (l:List Con) (hl:l.length<=9223372036854775806) (hn:∀ k,k<l.length->(m<=9223372036854775806)):(bM (iV m l)).Sat (au Tryz.prog 49 [.ys bb 2 l.length (ah aJ l),YD m] []):=by
 refine aR (ht:=ahH m bb l) Tryz.mixed rfl ?_
 rw [Rz m bb l]
 unfold YN
 have:=Ym m bb l hl hn 0
 simp [this]
noncomputable def acX (m:Nat) (bb:Bool) (l:List Con):dO Tryz.prog:=⟨49,[.ys bb 2 l.length (ah aJ l),YD m],[],.need (l.length<=9223372036854775806/\∀ k,k<l.length->(m<=9223372036854775806)) (bM (iV m l)),T.Sat.need fun h=>acB m bb l h.1 h.2⟩
def aW (p:Part):Bool:=(iF p.rng==0)&&(!(p.epoch==0)&&(dN p.recs&&(P.cK p.prods&&(dJ p.cons&&(bP p 0&&(!p.prods.any (dB p)&&!p.cons.any (dh p.recs.length)))))))
def IZ (b:Bool) (e:Int):T An:=.ite b (.ret (.s (.int .i64 0),[],[])) (.ret (.s (.int .i64 e),[],[]))
noncomputable def pcH (b:Bool) (p:Part):aC Tryz.prog:=hh _ bB
 (cs1 14 4 2 (ac4 p.rng) (cs1 14 6 2 (lgC b p.recs) (cs1 14 7 2 (P.agO b p.prods) (cs1 14 8 2 (coC b p.cons)
 (cs1 14 10 1 (orC b p) (cs1 14 11 3 (aff b p b p.prods) (cs1 14 12 3 (acX p.recs.length b p.cons) bq))))))) bA
def adz (b:Bool) (p:Part):Prop :=
 ((p.rng.lo=p.rng.lo/\p.rng.hi=p.rng.hi/\True)/\True)/\True/\((iF p.rng != 0)=true->(aW p=true->(165:Int)=0/\True)/\(aW p=false->(165:Int)=165/\True))/\((iF p.rng != 0)=false->((p.epoch==0)=true->(aW p=true->(165:Int)=0/\True)/\(aW p=false->(165:Int)=165/\True))/\((p.epoch==0)=false->((b=b/\p.recs.length=p.recs.length/\ak p.recs.length 5 (ah encR p.recs) (ah encR p.recs))/\True)/\True/\p.recs.length<=9223372036854775806/\((!dN p.recs)=true->(aW p=true->(165:Int)=0/\True)/\(aW p=false->(165:Int)=165/\True))/\((!dN p.recs)=false->((b=b/\p.prods.length=p.prods.length/\ak p.prods.length 4 (ah P.ay p.prods) (ah P.ay p.prods))/\True)/\True/\p.prods.length<=9223372036854775806/\((!P.cK p.prods)=true->(aW p=true->(165:Int)=0/\True)/\(aW p=false->(165:Int)=165/\True))/\((!P.cK p.prods)=false->((b=b/\p.cons.length=p.cons.length/\ak p.cons.length 2 (ah aJ p.cons) (ah aJ p.cons))/\True)/\True/\p.cons.length<=9223372036854775806/\((!dJ p.cons)=true->(aW p=true->(165:Int)=0/\True)/\(aW p=false->(165:Int)=165/\True))/\((!dJ p.cons)=false->((bE b b p p)/\True)/\True/\(p.prods.length<=9223372036854775806/\p.recs.length<=9223372036854775806)/\((!bP p 0)=true->(aW p=true->(165:Int)=0/\True)/\(aW p=false->(165:Int)=165/\True))/\((!bP p 0)=false->((b=b/\p.prods.length=p.prods.length/\ak p.prods.length 4 (ah P.ay p.prods) (ah P.ay p.prods))/\(True/\(false=false/\1<=1/\eT 1 (fun (j:Nat)=>Ax.get [AV.y (.int .u64 (IntKind.u64.wrap (p.recs.length:Int)))] (0+j)) (Ax.get [AV.y (.int .u64 (IntKind.u64.wrap (p.recs.length:Int)))]))/\(false=false/\7<=7/\eT 7 (fun (j:Nat)=>Ax.get [AV.y (.string p.rng.lo),AV.y (.string p.rng.hi),AV.y (.int .u64 p.epoch),AV.y (.int .u64 p.frozen),AV.ys b 5 p.recs.length (ah encR p.recs),AV.ys b 4 p.prods.length (ah P.ay p.prods),AV.ys b 2 p.cons.length (ah aJ p.cons)] (0+j)) (Ax.get [AV.y (.string p.rng.lo),AV.y (.string p.rng.hi),AV.y (.int .u64 p.epoch),AV.y (.int .u64 p.frozen),AV.ys b 5 p.recs.length (ah encR p.recs),AV.ys b 4 p.prods.length (ah P.ay p.prods),AV.ys b 2 p.cons.length (ah aJ p.cons)]))/\True)/\True)/\True/\(p.prods.length<=9223372036854775806/\∀ k,k<p.prods.length->p.recs.length<=9223372036854775806/\0<=(p.prods.getD k default).offset)/\true=true/\True/\(iP b p p.prods=true->(aW p=true->(165:Int)=0/\True)/\(aW p=false->(165:Int)=165/\True))/\(iP b p p.prods=false->((b=b/\p.cons.length=p.cons.length/\ak p.cons.length 2 (ah aJ p.cons) (ah aJ p.cons))/\(True/\(false=false/\1<=1/\eT 1 (fun (j:Nat)=>Ax.get [AV.y (.int .u64 (IntKind.u64.wrap (p.recs.length:Int)))] (0+j)) (Ax.get [AV.y (.int .u64 (IntKind.u64.wrap (p.recs.length:Int)))]))/\True)/\True)/\True/\(p.cons.length<=9223372036854775806/\∀ k,k<p.cons.length->p.recs.length<=9223372036854775806)/\true=true/\True/\(iV p.recs.length p.cons=true->(aW p=true->(165:Int)=0/\True)/\(aW p=false->(165:Int)=165/\True))/\(iV p.recs.length p.cons=false->(aW p=true->(0:Int)=0/\True)/\(aW p=false->(0:Int)=165/\True)))))))))
theorem Wq (b:Bool) (p:Part):(aZ Tryz.prog (pcH b p) 14 [.agg (aU b p)] [] (IZ (aW p) 165))=adz b p:=by kernel_rfl
structure eO (p:Part):Prop where
 rl:p.recs.length<=4611686018427387903
 pl:p.prods.length<=4611686018427387903
 cl:p.cons.length<=4611686018427387903
 po:∀ k,k<p.prods.length->0<=(p.prods.getD k default).offset
theorem ahx (b:Bool) (p:Part) (h:eO p):(IZ (aW p) 165).Sat (au Tryz.prog 14 [.agg (aU b p)] []):=by
 refine aR (ht:=pcH b p) Tryz.mixed rfl ?_
 rw [Wq b p]
 unfold adz
 obtain ⟨h1,h2,h3,h4⟩:=h
 have e1:iP b p p.prods=p.prods.any (dB p):=rfl
 have e2:iV p.recs.length p.cons=p.cons.any (dh p.recs.length):=rfl
 have hw:IntKind.u64.wrap (p.recs.length:Int)=p.recs.length:=wrap_u64 (by omega) (by omega)
 simp only [e1,e2,hw]
 unfold aW
 have g1:p.recs.length<=9223372036854775806:=by omega
 have g2:p.prods.length<=9223372036854775806:=by omega
 have g3:p.cons.length<=9223372036854775806:=by omega
 generalize bP p 0=a1
 generalize p.prods.any (dB p)=a2
 generalize p.cons.any (dh p.recs.length)=a3
 generalize dN p.recs=a4
 generalize P.cK p.prods=a5
 generalize dJ p.cons=a6
 by_cases c1:iF p.rng=0<;>by_cases c2:p.epoch=0<;>cases a1<;>cases a2<;>cases a3<;>cases a4<;>cases a5<;>cases a6<;>simp [c1,c2,g1,g2,g3]<;>exact h4
noncomputable def pcC (b:Bool) (p:Part):dO Tryz.prog:=⟨14,[.agg (aU b p)],[],.need (eO p) (IZ (aW p) 165),T.Sat.need fun h=>ahx b p h⟩
end Go.Proofs.YtnbhdjadlbhknaaGreatDoor

namespace Go.Proofs.YtnbhdjadlbhknaaGreatDoor.R
open Go.Ax
set_option maxRecDepth 1000000
structure bJ where
 kind:Int
 epoch:Int
 prod:Int
 seq:Int
 key:ByteArray
 val:List Int
 off:Int
 most:Int
 name:ByteArray
 plan:Int
instance:Inhabited bJ:=⟨⟨0,0,0,0,ByteArray.empty,[],0,0,ByteArray.empty,0⟩⟩
structure gI where
 err:Int
 off:Int
 old:Bool
 recs:List Rec
instance:Inhabited gI:=⟨⟨0,0,false,[]⟩⟩
def dR (c:bJ):List AV:=[.y (.int .i64 c.kind),.y (.int .u64 c.epoch),.y (.int .u64 c.prod),.y (.int .u64 c.seq),.y (.string c.key),bn true c.val,.y (.int .u64 c.off),.y (.int .i64 c.most),.y (.string c.name),.y (.int .u64 c.plan)]
def ow (c d:bJ):Prop:=c.kind=d.kind/\c.epoch=d.epoch/\c.prod=d.prod/\c.seq=d.seq/\c.key=d.key/\(true=true/\List.length c.val=List.length d.val/\ak (List.length c.val) (1:Nat) (ah aD c.val) (ah aD d.val))/\c.off=d.off/\c.most=d.most/\c.name=d.name/\c.plan=d.plan/\True
@[simp] theorem agl (c d:bJ):ow c d=(c.kind=d.kind/\c.epoch=d.epoch/\c.prod=d.prod/\c.seq=d.seq/\c.key=d.key/\(true=true/\List.length c.val=List.length d.val/\ak (List.length c.val) (1:Nat) (ah aD c.val) (ah aD d.val))/\c.off=d.off/\c.most=d.most/\c.name=d.name/\c.plan=d.plan/\True):=rfl
def oI (x:gI):List AV:=[.y (.int .i64 x.err),.y (.int .u64 x.off),.y (.bool x.old),bZ true x.recs]
structure Fx (l:List Rec):Prop where
 n:l.length<=4096
 o:∀ k,k<l.length->0<=(l.getD k default).off/\(l.getD k default).off<=9223372036854775807
 v:∀ k,k<l.length->(l.getD k default).val.length<=140737488355328
def owT (b:Bool) (l:List Rec) (k:Nat):List AV:=mkT 26 [(3,.own 0 5 0 (l.take k).length),(10,bZ b l),(11,.y (.int .i64 l.length)),(12,.y (.int .i64 k))]
def owM (l:List Rec) (k:Nat):List aH:=[yP (l.take k)]
def owS (l:List Rec) (_:Unit):Exit×List AV×List aH:=(.exit 0,mkT 26 [(3,.own 0 5 0 l.length)],[yP l])
noncomputable def owH (l:List Rec) (k:Nat):aC Tryz.prog:=hh _ bB (cs1 141 5 5 (aeV (l.getD k default) (IntKind.i64.wrap (l.getD k default).off)) bq) bA
def ZP (b:Bool) (l:List Rec) (k:Nat):Prop :=
 (decide ((k:Int)<(l.length:Int))=true->(true&&decide ((k:Int)<(l.length:Int)))=true/\(((l.getD (Int.toNat (k:Int)) default).off=(l.getD k default).off/\(l.getD (Int.toNat (k:Int)) default).key=(l.getD k default).key/\(true=true/\(l.getD (Int.toNat (k:Int)) default).val.length=(l.getD k default).val.length/\ak (l.getD (Int.toNat (k:Int)) default).val.length 1 (ah aD (l.getD (Int.toNat (k:Int)) default).val) (ah aD (l.getD k default).val))/\(l.getD (Int.toNat (k:Int)) default).prod=(l.getD k default).prod/\(l.getD (Int.toNat (k:Int)) default).seq=(l.getD k default).seq/\True)/\IntKind.i64.wrap (l.getD (Int.toNat (k:Int)) default).off=IntKind.i64.wrap (l.getD k default).off/\True)/\True/\(l.getD k default).val.length<=140737488355328/\(decide ((List.take k l).length=(List.take k l).length)&&decide ((List.take k l).length+1<=9223372036854775807)&&decide (((List.take k l).length+1)*64<=140737488355328))=true/\∃ j:Nat,l.length - j<l.length - k/\(((0=0/\(List.take k l).length+1=(List.take j l).length)/\(b=b/\l.length=l.length/\ak l.length 5 (ah encR l) (ah encR l))/\(l.length:Int)=(l.length:Int)/\IntKind.i64.wrap ((k:Int)+1)=(j:Int)/\True)/\(((List.take k l).length+1=(List.take j l).length/\ak ((List.take k l).length+1) 5 (aL (List.take k l).length (ah encR (List.take k l)) fun (k_1 j:Nat)=>Ax.get [AV.y (.int .u64 (IntKind.u64.wrap (IntKind.i64.wrap (l.getD k default).off))),AV.y (.string (l.getD k default).key),AV.ys true 1 (l.getD k default).val.length (ah aD (l.getD k default).val),AV.y (.int .u64 (l.getD k default).prod),AV.y (.int .u64 (l.getD k default).seq)] (k_1*5+j)) (ah encR (List.take j l)))/\True)/\true=true)/\true=true/\()=())/\(decide ((k:Int)<(l.length:Int))=false->((0=0/\(List.take k l).length=l.length)/\True)/\(((List.take k l).length=l.length/\ak (List.take k l).length 5 (ah encR (List.take k l)) (ah encR l))/\True)/\true=true)
theorem Py (b:Bool) (l:List Rec) (k:Nat):(cu Tryz.prog (owH l k) 141 3 (fun k=>l.length - k) (owT b l) (owM l) [0,1,2,3,4] (fun _=>.ret ()) (owS l) k)=ZP b l k:=by kernel_rfl
def owR (l:List Rec):T An:=.ret (.own 0 5 0 l.length,[yP l],[])
noncomputable def aeK (b:Bool) (l:List Rec):aC Tryz.prog:=hh _ (ni 141 3 (eP (owT b l) (owM l) [0,1,2,3,4] (fun _=>.ret ()) (owS l) 0) bB) bq bA
def ZQ (b:Bool) (l:List Rec):Prop :=
 (0:Int)<=0/\0<=IntKind.i64.wrap ((l.length:Int)+1)/\64*IntKind.i64.wrap ((l.length:Int)+1)<=281474976710656/\IntKind.i64.wrap ((l.length:Int)+1)<=9223372036854775807/\(((0=0/\0=0)/\(b=b/\l.length=l.length/\ak l.length 5 (ah encR l) (ah encR l))/\(l.length:Int)=(l.length:Int)/\(0:Int)=0/\True)/\((0=0/\ak 0 5 (fun (x j:Nat)=>Ax.get [AV.s (.int .u64 0),AV.s (Value.string { data:=#[]:ByteArray }),AV.s (Value.slice none 0 0),AV.s (.int .u64 0),AV.s (.int .u64 0)] j) (ah encR []))/\True)/\true=true)/\aQ Tryz.prog 141 3 (aS Tryz.prog 141 3) { t:=owT b l 0,m:=owM l 0,mv:=[]:St } (T.map (bV [0,1,2,3,4] (owS l)) ((fun (x:Nat)=>T.ret ()) 0))/\(0=0/\l.length=l.length)/\(l.length=l.length/\ak l.length 5 (ah encR l) (ah encR l))/\True
theorem TL (b:Bool) (l:List Rec):(aZ Tryz.prog (aeK b l) 141 [bZ b l] [] (owR l))=ZQ b l:=by kernel_rfl
end Go.Proofs.YtnbhdjadlbhknaaGreatDoor.R

namespace Go.Proofs.YtnbhdjadlbhknaaGreatDoor.J
open Go.Ax
set_option maxRecDepth 1000000
def eu (r:kT):List Int:=aA (aM (r.lo))++aA (aM (r.hi))
def g_ (x:Rec):List Int:=aj (x.off)++aA (aM (x.key))++aA (x.val)++aj (x.prod)++aj (x.seq)
def gq (l:List Rec):List Int:=aj (l.length:Int)++l.flatMap g_
noncomputable def wgH (r:kT) (l:List Int):aC Tryz.prog:=Lj (hh _ bB ((cs1 91 1 3 (wsC (r.lo) (l)) (cs1 91 2 3 (wsC (r.hi) (l++aA (aM (r.lo)))) bq))) bA)
def ae3 (r:kT) (l:List Int):Prop :=
 ((0=0/\0=0)/\r.lo=r.lo/\True)/\(fO l l)/\yO r.lo l/\((0=0/\0=0)/\r.hi=r.hi/\True)/\(fO (l++aA (aM r.lo)) (l++aA (aM r.lo)))/\yO r.hi (l++aA (aM r.lo))/\True/\((l++aA (aM r.lo)++aA (aM r.hi)).length=(l++eu r).length/\ak (l++aA (aM r.lo)++aA (aM r.hi)).length 1 (ah aD (l++aA (aM r.lo)++aA (aM r.hi))) (ah aD (l++eu r)))/\((0=0/\(l++aA (aM r.lo)++aA (aM r.hi)).length=(l++eu r).length)/\True)/\True
theorem Wx (r:kT) (l:List Int):(eU Tryz.prog (wgH r l) 91 [wP,.agg (nO r)] (wM l) (JB (l++eu r)))=ae3 r l:=by kernel_rfl
noncomputable def wrH (x:Rec) (l:List Int):aC Tryz.prog:=Lj (hh _ bB ((cs1 130 1 3 (zm (x.off) (l)) (cs1 130 2 3 (wsC (x.key) (l++aj (x.off))) (cs1 130 3 3 (wyC true (x.val) (l++aj (x.off)++aA (aM (x.key)))) (cs1 130 4 3 (zm (x.prod) (l++aj (x.off)++aA (aM (x.key))++aA (x.val))) (cs1 130 5 3 (zm (x.seq) (l++aj (x.off)++aA (aM (x.key))++aA (x.val)++aj (x.prod))) bq)))))) bA)
def aeX (x:Rec) (l:List Int):Prop :=
 ((0=0/\0=0)/\x.off=x.off/\True)/\(fO l l)/\jo x.off l/\((0=0/\0=0)/\x.key=x.key/\True)/\(fO (l++aj x.off) (l++aj x.off))/\yO x.key (l++aj x.off)/\((0=0/\0=0)/\(dI x.val x.val)/\True)/\(fO (l++aj x.off++aA (aM x.key)) (l++aj x.off++aA (aM x.key)))/\Q6 x.val (l++aj x.off++aA (aM x.key))/\((0=0/\0=0)/\x.prod=x.prod/\True)/\(fO (l++aj x.off++aA (aM x.key)++aA x.val) (l++aj x.off++aA (aM x.key)++aA x.val))/\jo x.prod (l++aj x.off++aA (aM x.key)++aA x.val)/\((0=0/\0=0)/\x.seq=x.seq/\True)/\(fO (l++aj x.off++aA (aM x.key)++aA x.val++aj x.prod) (l++aj x.off++aA (aM x.key)++aA x.val++aj x.prod))/\jo x.seq (l++aj x.off++aA (aM x.key)++aA x.val++aj x.prod)/\True/\((l++aj x.off++aA (aM x.key)++aA x.val++aj x.prod++aj x.seq).length=(l++g_ x).length/\ak (l++aj x.off++aA (aM x.key)++aA x.val++aj x.prod++aj x.seq).length 1 (ah aD (l++aj x.off++aA (aM x.key)++aA x.val++aj x.prod++aj x.seq)) (ah aD (l++g_ x)))/\((0=0/\(l++aj x.off++aA (aM x.key)++aA x.val++aj x.prod++aj x.seq).length=(l++g_ x).length)/\True)/\True
theorem Xd (x:Rec) (l:List Int):(eU Tryz.prog (wrH x l) 130 [wP,.agg (encR x)] (wM l) (JB (l++g_ x)))=aeX x l:=by kernel_rfl
def af3 (l:List Int):T An:=.ret (bn true l,wM l,[3])
def dnR (l:List Int):T An:=.ret (bn true l,wM l,[])
noncomputable def dnH (l:List Int):aC Tryz.prog:=Lj (dU (hh _ bB (cs1 80 1 4 (KJ false l.length (ah aD l)) bq) bA) (ng 80 1 5 779 noSh))
def aeI (l:List Int):Prop :=
 ((false=false/\l.length=l.length/\ak l.length 1 (Ax.rowAt 0 (ah aD l)) (ah aD l))/\True)/\True/\l.length<=140737488355328/\true=true/\((∀ k,k<l.length->∀ j,j<1->dL (ah aD l k j)=true)/\True)/\(∀ k,k<l.length->∀ j,j<1->dL (ah aD l k j)=true)/\(true=true/\l.length=l.length/\ak l.length 1 (Ax.rowAt 0 (ah aD l)) (ah aD l))/\(l.length=l.length/\ak l.length 1 (ah aD l) (ah aD l))/\((0=0/\l.length=l.length)/\True)/\True
theorem Vz (l:List Int):(eU Tryz.prog (dnH l) 80 [wP] (wM l) (af3 l))=aeI l:=by kernel_rfl
theorem bD (t:List Int):t.length<=(aA t).length/\(aA t).length<=t.length+11:=by
 have:=aG (t.length:Int)
 unfold aA
 rw [List.length_append]
 omega
theorem kN (s:ByteArray):s.size<=(aA (aM s)).length/\(aA (aM s)).length<=s.size+11:=by
 have:=bD (aM s)
 rw [dF] at this
 exact this
structure nR (v:Int):Prop where
 lo:0<=v
 hi:v<18446744073709551616
structure jB (v:Int):Prop where
 lo:-9223372036854775808<=v
 hi:v<9223372036854775808
structure Dn (n:Nat):Prop where
 h:n+200<=140737488355327
structure DX (x:Rec):Prop where
 off:nR x.off
 prod:nR x.prod
 seq:nR x.seq
theorem vL {v:Int} {l:List Int} (h:nR v) (n:l.length+20<=140737488355327):jo v l:=⟨h.lo,h.hi,n⟩
theorem H_ {v:Int} {l:List Int} (h:jB v) (n:l.length+20<=140737488355327):Ov v l:=⟨h.lo,h.hi,n⟩
theorem agK (r:kT) (l:List Int) (h:Dn (l++eu r).length):(JB (l++eu r)).Sat (au Tryz.prog 91 [wP,.agg (nO r)] (wM l)):=by
 refine dG (ht:=wgH r l) Tryz.mixed rfl ?_
 rw [Wx r l]
 unfold ae3
 have h1:=h.h
 have a1:=kN r.lo
 have a2:=kN r.hi
 simp only [eu,List.length_append] at h1
 have b1:yO r.lo l:=⟨by omega⟩
 have b2:yO r.hi (l++aA (aM r.lo)):=⟨by rw [List.length_append];omega⟩
 simp [eu,b1,b2]
noncomputable def wgC (r:kT) (l:List Int):dO Tryz.prog:=⟨91,[wP,.agg (nO r)],wM l,.need (Dn (l++eu r).length) (JB (l++eu r)),T.Sat.need fun h=>agK r l h⟩
theorem ahh (x:Rec) (l:List Int) (hx:DX x) (h:Dn (l++g_ x).length):(JB (l++g_ x)).Sat (au Tryz.prog 130 [wP,.agg (encR x)] (wM l)):=by
 refine dG (ht:=wrH x l) Tryz.mixed rfl ?_
 rw [Xd x l]
 unfold aeX
 have h1:=h.h
 have a2:=kN x.key
 have a3:=bD x.val
 simp only [g_,List.length_append] at h1
 have b1:jo x.off l:=vL hx.off (by omega)
 have b2:yO x.key (l++aj x.off):=⟨by simp only [List.length_append];omega⟩
 have b3:Q6 x.val (l++aj x.off++aA (aM x.key)):=⟨by simp only [List.length_append];omega⟩
 have b4:jo x.prod (l++aj x.off++aA (aM x.key)++aA x.val):=vL hx.prod (by simp only [List.length_append];omega)
 have b5:jo x.seq (l++aj x.off++aA (aM x.key)++aA x.val++aj x.prod):=vL hx.seq (by simp only [List.length_append];omega)
 simp only [List.append_assoc] at b3 b4 b5
 simp [g_,b1,b2,b3,b4,b5]
structure acG (x:Rec) (l:List Int):Prop where
 u:DX x
 n:Dn (l++g_ x).length
noncomputable def wrC (x:Rec) (l:List Int):dO Tryz.prog:=⟨130,[wP,.agg (encR x)],wM l,.need (acG x l) (JB (l++g_ x)),T.Sat.need fun h=>ahh x l h.u h.n⟩
theorem ah1 (l:List Int) (h:Dn l.length):(dnR l).Sat (au Tryz.prog 80 [wP] (wM l)):=by
 have h3:(af3 l).Sat (au Tryz.prog 80 [wP] (wM l)):=by
  refine dG (ht:=dnH l) Tryz.mixed rfl ?_
  rw [Vz l]
  unfold aeI
  have h1:=h.h
  have ht:∀ k,k<l.length->∀ j,j<1->dL (ah aD l k j)=true:=by
   intro k hk j hj
   obtain rfl:j=0:=by omega
   rfl
  have hr:ak l.length 1 (Ax.rowAt 0 (ah aD l)) (ah aD l):=by
   intro k hk j hj
   exact bN _
  simp [hr]
  exact ⟨by omega,fun k hk=>ht k hk 0 (by decide)⟩
 have h1:au Tryz.prog 80 [wP] (wM l) (bn true l,wM l,[3]):=jK h3
 have h2:au Tryz.prog 80 [wP] (wM l) (bn true l,wM l,[]):=kW h1 fun i hi=>by
  obtain rfl:=List.mem_singleton.1 hi
  exact .inr rfl
 exact T.Sat.ret h2
noncomputable def ZF (l:List Int):dO Tryz.prog:=⟨80,[wP],wM l,.need (Dn l.length) (dnR l),T.Sat.need fun h=>ah1 l h⟩
def uK (recs:List Rec) (l:List Int) (k:Nat):List Int:=l++aj (recs.length:Int)++(recs.take k).flatMap g_
def wlT (f:Bool) (recs:List Rec) (k:Nat):List AV:=mkT 21 [(0,wP),(11,bZ f recs),(12,.y (.int .i64 recs.length)),(13,.y (.int .i64 k))]
def wlS (f:Bool) (recs:List Rec) (l:List Int) (_:Unit):Exit×List AV×List aH:=(.exit 0,wlT f recs recs.length,wM (uK recs l recs.length))
abbrev Up (n:Nat):={k:Nat // k<=n}
noncomputable def wlH (recs:List Rec) (l:List Int) (k:Nat):aC Tryz.prog:=Lj (hh _ bB (cs1 92 4 2 (wrC (recs.getD k default) (uK recs l k)) bq) bA)
def aac (f:Bool) (recs:List Rec) (l:List Int) (k:Up recs.length):Prop :=
 (decide ((k.val:Int)<(recs.length:Int))=true->(true&&decide ((k.val:Int)<(recs.length:Int)))=true/\((0=0/\0=0)/\((recs.getD (Int.toNat (k.val:Int)) default).off=(recs.getD k.val default).off/\(recs.getD (Int.toNat (k.val:Int)) default).key=(recs.getD k.val default).key/\(true=true/\(recs.getD (Int.toNat (k.val:Int)) default).val.length=(recs.getD k.val default).val.length/\ak (recs.getD (Int.toNat (k.val:Int)) default).val.length 1 (ah aD (recs.getD (Int.toNat (k.val:Int)) default).val) (ah aD (recs.getD k.val default).val))/\(recs.getD (Int.toNat (k.val:Int)) default).prod=(recs.getD k.val default).prod/\(recs.getD (Int.toNat (k.val:Int)) default).seq=(recs.getD k.val default).seq/\True)/\True)/\(fO (uK recs l k.val) (uK recs l k.val))/\acG (recs.getD k.val default) (uK recs l k.val)/\∃ (j:Up recs.length),recs.length - j.val<recs.length - k.val/\(((0=0/\0=0)/\(f=f/\recs.length=recs.length/\ak recs.length 5 (ah encR recs) (ah encR recs))/\(recs.length:Int)=(recs.length:Int)/\IntKind.i64.wrap ((k.val:Int)+1)=(j.val:Int)/\True)/\(fO (uK recs l k.val++g_ (recs.getD k.val default)) (uK recs l j.val))/\true=true)/\true=true/\()=())/\(decide ((k.val:Int)<(recs.length:Int))=false->((0=0/\0=0)/\(f=f/\recs.length=recs.length/\ak recs.length 5 (ah encR recs) (ah encR recs))/\(recs.length:Int)=(recs.length:Int)/\(k.val:Int)=(recs.length:Int)/\True)/\(fO (uK recs l k.val) (uK recs l recs.length))/\true=true)
theorem QK (f:Bool) (recs:List Rec) (l:List Int) (k:Up recs.length):(cu Tryz.prog (wlH recs l k.1) 92 2 (fun k:Up recs.length=>recs.length - k.1) (fun k=>wlT f recs k.1) (fun k=>wM (uK recs l k.1)) [1,3] (fun _=>.ret ()) (wlS f recs l) k)=aac f recs l k:=by kernel_rfl
noncomputable def Si (f:Bool) (recs:List Rec) (l:List Int):aC Tryz.prog:=Lj (hh _ (ni 92 2 (eP (fun k:Up recs.length=>wlT f recs k.1) (fun k=>wM (uK recs l k.1)) [1,3] (fun _=>.ret ()) (wlS f recs l) ⟨0,Nat.zero_le _⟩) bB) (cs1 92 0 4 (zm (recs.length:Int) l) bq) bA)
def af9 (f:Bool) (recs:List Rec) (l:List Int):Prop :=
 ((0=0/\0=0)/\IntKind.u64.wrap (recs.length:Int)=(recs.length:Int)/\True)/\(fO l l)/\jo (recs.length:Int) l/\(((0=0/\0=0)/\(f=f/\recs.length=recs.length/\ak recs.length 5 (ah encR recs) (ah encR recs))/\(recs.length:Int)=(recs.length:Int)/\(0:Int)=0/\True)/\(fO (l++aj (recs.length:Int)) (uK recs l 0))/\true=true)/\aQ Tryz.prog 92 2 (aS Tryz.prog 92 2) { t:=wlT f recs (⟨0,Si._proof_1 recs⟩:{ k:Nat // k<=recs.length }).val,m:=wM (uK recs l (⟨0,Si._proof_1 recs⟩:{ k:Nat // k<=recs.length }).val),mv:=[]:St } (T.map (bV [1,3] (wlS f recs l)) ((fun (x:Up recs.length)=>T.ret ()) (⟨0,Si._proof_1 recs⟩:{ k:Nat // k<=recs.length })))/\True/\((uK recs l recs.length).length=(l++gq recs).length/\ak (uK recs l recs.length).length 1 (ah aD (uK recs l recs.length)) (ah aD (l++gq recs)))/\((0=0/\(uK recs l recs.length).length=(l++gq recs).length)/\True)/\True
theorem U_ (f:Bool) (recs:List Rec) (l:List Int):(eU Tryz.prog (Si f recs l) 92 [wP,bZ f recs] (wM l) (wR (l++gq recs)))=af9 f recs l:=by kernel_rfl
def gU (c:R.bJ):List Int :=
 if c.kind=1 then []++aF (c.kind)++aj (c.epoch)++aj (c.prod)++aj (c.seq)++aA (aM (c.key))++aA (c.val) else if c.kind=2 then []++aF (c.kind)++aj (c.epoch)++aj (c.off)++aF (c.most) else if c.kind=3 then []++aF (c.kind)++aj (c.epoch)++aj (c.prod)++aj (c.seq)++aA (aM (c.name))++aj (c.off) else if c.kind=4 then []++aF (c.kind)++aj (c.epoch)++aA (aM (c.name)) else if c.kind=5∨c.kind=6 then []++aF (c.kind)++aj (c.epoch)++aj (c.plan) else []
def cab {P:Program} (f r p:Nat) (i:Nat) (C:dO P) (els:List AV->FuncId->Nat->Nat->Option (dO P)):List AV->FuncId->Nat->Nat->Option (dO P) :=
 fun ts f' r' p'=>match Nat.beq f f'&&Nat.beq r r'&&Nat.beq p p' with
  | true=>(match get ts i with
    | .s (.bool true)=>some C
    | _=>els ts f' r' p')
  | false=>els ts f' r' p'
noncomputable def wcH (c:R.bJ):aC Tryz.prog:=Jm (Lj (dU (hh _ bB ((cs1 23 2 3 (wiC (c.kind) ([])) (cs1 23 3 3 (zm (c.epoch) ([]++aF (c.kind))) (cs1 23 11 3 (zm (c.prod) ([]++aF (c.kind)++aj (c.epoch))) (cs1 23 12 3 (zm (c.seq) ([]++aF (c.kind)++aj (c.epoch)++aj (c.prod))) (cs1 23 13 3 (wsC (c.key) ([]++aF (c.kind)++aj (c.epoch)++aj (c.prod)++aj (c.seq))) (cs1 23 14 3 (wyC true (c.val) ([]++aF (c.kind)++aj (c.epoch)++aj (c.prod)++aj (c.seq)++aA (aM (c.key)))) (cs1 23 15 3 (zm (c.off) ([]++aF (c.kind)++aj (c.epoch))) (cs1 23 16 3 (wiC (c.most) ([]++aF (c.kind)++aj (c.epoch)++aj (c.off))) (cs1 23 17 3 (zm (c.prod) ([]++aF (c.kind)++aj (c.epoch))) (cs1 23 18 3 (zm (c.seq) ([]++aF (c.kind)++aj (c.epoch)++aj (c.prod))) (cs1 23 19 3 (wsC (c.name) ([]++aF (c.kind)++aj (c.epoch)++aj (c.prod)++aj (c.seq))) (cs1 23 20 3 (zm (c.off) ([]++aF (c.kind)++aj (c.epoch)++aj (c.prod)++aj (c.seq)++aA (aM (c.name)))) (cs1 23 21 3 (wsC (c.name) ([]++aF (c.kind)++aj (c.epoch))) (cs1 23 22 3 (zm (c.plan) ([]++aF (c.kind)++aj (c.epoch))) bq))))))))))))))) bA) (ng 23 1 0 1001 noSh))) ((cab 23 24 1 16 (ZF ([]++aF (c.kind)++aj (c.epoch)++aj (c.prod)++aj (c.seq)++aA (aM (c.key))++aA (c.val))) (cab 23 24 1 18 (ZF ([]++aF (c.kind)++aj (c.epoch)++aj (c.off)++aF (c.most))) (cab 23 24 1 20 (ZF ([]++aF (c.kind)++aj (c.epoch)++aj (c.prod)++aj (c.seq)++aA (aM (c.name))++aj (c.off))) (cab 23 24 1 22 (ZF ([]++aF (c.kind)++aj (c.epoch)++aA (aM (c.name)))) (cab 23 24 1 24 (ZF ([]++aF (c.kind)++aj (c.epoch)++aj (c.plan))) (cab 23 24 1 26 (ZF ([]++aF (c.kind)++aj (c.epoch)++aj (c.plan))) aaK)))))))
def ad4 (c:R.bJ):Prop :=
 (((0:Nat)=(0:Nat)/\(0:Nat)=(0:Nat))/\c.kind=c.kind/\True)/\(((0:Nat)=(0:Nat)/\ak (0:Nat) (1:Nat) (fun (x x_1:Nat)=>AV.junk) (ah aD []))/\(((0:Nat)=(0:Nat)/\(0:Nat)=(0:Nat))/\True)/\True)/\Ov c.kind []/\(((0:Nat)=(0:Nat)/\(0:Nat)=(0:Nat))/\c.epoch=c.epoch/\True)/\(fO ([]++aF c.kind) ([]++aF c.kind))/\jo c.epoch ([]++aF c.kind)/\((c.kind==(1:Int))=true->(((0:Nat)=(0:Nat)/\(0:Nat)=(0:Nat))/\c.prod=c.prod/\True)/\(fO ([]++aF c.kind++aj c.epoch) ([]++aF c.kind++aj c.epoch))/\jo c.prod ([]++aF c.kind++aj c.epoch)/\(((0:Nat)=(0:Nat)/\(0:Nat)=(0:Nat))/\c.seq=c.seq/\True)/\(fO ([]++aF c.kind++aj c.epoch++aj c.prod) ([]++aF c.kind++aj c.epoch++aj c.prod))/\jo c.seq ([]++aF c.kind++aj c.epoch++aj c.prod)/\(((0:Nat)=(0:Nat)/\(0:Nat)=(0:Nat))/\c.key=c.key/\True)/\(fO ([]++aF c.kind++aj c.epoch++aj c.prod++aj c.seq) ([]++aF c.kind++aj c.epoch++aj c.prod++aj c.seq))/\yO c.key ([]++aF c.kind++aj c.epoch++aj c.prod++aj c.seq)/\(((0:Nat)=(0:Nat)/\(0:Nat)=(0:Nat))/\(dI c.val c.val)/\True)/\(fO ([]++aF c.kind++aj c.epoch++aj c.prod++aj c.seq++aA (aM c.key)) ([]++aF c.kind++aj c.epoch++aj c.prod++aj c.seq++aA (aM c.key)))/\Q6 c.val ([]++aF c.kind++aj c.epoch++aj c.prod++aj c.seq++aA (aM c.key))/\(((0:Nat)=(0:Nat)/\(0:Nat)=(0:Nat))/\True)/\(fO ([]++aF c.kind++aj c.epoch++aj c.prod++aj c.seq++aA (aM c.key)++aA c.val) ([]++aF c.kind++aj c.epoch++aj c.prod++aj c.seq++aA (aM c.key)++aA c.val))/\Dn (List.length ([]++aF c.kind++aj c.epoch++aj c.prod++aj c.seq++aA (aM c.key)++aA c.val))/\(dI ([]++aF c.kind++aj c.epoch++aj c.prod++aj c.seq++aA (aM c.key)++aA c.val) (gU c))/\True)/\((c.kind==(1:Int))=false->((c.kind==(2:Int))=true->(((0:Nat)=(0:Nat)/\(0:Nat)=(0:Nat))/\c.off=c.off/\True)/\(fO ([]++aF c.kind++aj c.epoch) ([]++aF c.kind++aj c.epoch))/\jo c.off ([]++aF c.kind++aj c.epoch)/\(((0:Nat)=(0:Nat)/\(0:Nat)=(0:Nat))/\c.most=c.most/\True)/\(fO ([]++aF c.kind++aj c.epoch++aj c.off) ([]++aF c.kind++aj c.epoch++aj c.off))/\Ov c.most ([]++aF c.kind++aj c.epoch++aj c.off)/\(((0:Nat)=(0:Nat)/\(0:Nat)=(0:Nat))/\True)/\(fO ([]++aF c.kind++aj c.epoch++aj c.off++aF c.most) ([]++aF c.kind++aj c.epoch++aj c.off++aF c.most))/\Dn (List.length ([]++aF c.kind++aj c.epoch++aj c.off++aF c.most))/\(dI ([]++aF c.kind++aj c.epoch++aj c.off++aF c.most) (gU c))/\True)/\((c.kind==(2:Int))=false->((c.kind==(3:Int))=true->(((0:Nat)=(0:Nat)/\(0:Nat)=(0:Nat))/\c.prod=c.prod/\True)/\(fO ([]++aF c.kind++aj c.epoch) ([]++aF c.kind++aj c.epoch))/\jo c.prod ([]++aF c.kind++aj c.epoch)/\(((0:Nat)=(0:Nat)/\(0:Nat)=(0:Nat))/\c.seq=c.seq/\True)/\(fO ([]++aF c.kind++aj c.epoch++aj c.prod) ([]++aF c.kind++aj c.epoch++aj c.prod))/\jo c.seq ([]++aF c.kind++aj c.epoch++aj c.prod)/\(((0:Nat)=(0:Nat)/\(0:Nat)=(0:Nat))/\c.name=c.name/\True)/\(fO ([]++aF c.kind++aj c.epoch++aj c.prod++aj c.seq) ([]++aF c.kind++aj c.epoch++aj c.prod++aj c.seq))/\yO c.name ([]++aF c.kind++aj c.epoch++aj c.prod++aj c.seq)/\(((0:Nat)=(0:Nat)/\(0:Nat)=(0:Nat))/\c.off=c.off/\True)/\(fO ([]++aF c.kind++aj c.epoch++aj c.prod++aj c.seq++aA (aM c.name)) ([]++aF c.kind++aj c.epoch++aj c.prod++aj c.seq++aA (aM c.name)))/\jo c.off ([]++aF c.kind++aj c.epoch++aj c.prod++aj c.seq++aA (aM c.name))/\(((0:Nat)=(0:Nat)/\(0:Nat)=(0:Nat))/\True)/\(fO ([]++aF c.kind++aj c.epoch++aj c.prod++aj c.seq++aA (aM c.name)++aj c.off) ([]++aF c.kind++aj c.epoch++aj c.prod++aj c.seq++aA (aM c.name)++aj c.off))/\Dn (List.length ([]++aF c.kind++aj c.epoch++aj c.prod++aj c.seq++aA (aM c.name)++aj c.off))/\(dI ([]++aF c.kind++aj c.epoch++aj c.prod++aj c.seq++aA (aM c.name)++aj c.off) (gU c))/\True)/\((c.kind==(3:Int))=false->((c.kind==(4:Int))=true->(((0:Nat)=(0:Nat)/\(0:Nat)=(0:Nat))/\c.name=c.name/\True)/\(fO ([]++aF c.kind++aj c.epoch) ([]++aF c.kind++aj c.epoch))/\yO c.name ([]++aF c.kind++aj c.epoch)/\(((0:Nat)=(0:Nat)/\(0:Nat)=(0:Nat))/\True)/\(fO ([]++aF c.kind++aj c.epoch++aA (aM c.name)) ([]++aF c.kind++aj c.epoch++aA (aM c.name)))/\Dn (List.length ([]++aF c.kind++aj c.epoch++aA (aM c.name)))/\(dI ([]++aF c.kind++aj c.epoch++aA (aM c.name)) (gU c))/\True)/\((c.kind==(4:Int))=false->((c.kind==(5:Int))=true->(((0:Nat)=(0:Nat)/\(0:Nat)=(0:Nat))/\c.plan=c.plan/\True)/\(fO ([]++aF c.kind++aj c.epoch) ([]++aF c.kind++aj c.epoch))/\jo c.plan ([]++aF c.kind++aj c.epoch)/\(((0:Nat)=(0:Nat)/\(0:Nat)=(0:Nat))/\True)/\(fO ([]++aF c.kind++aj c.epoch++aj c.plan) ([]++aF c.kind++aj c.epoch++aj c.plan))/\Dn (List.length ([]++aF c.kind++aj c.epoch++aj c.plan))/\(dI ([]++aF c.kind++aj c.epoch++aj c.plan) (gU c))/\True)/\((c.kind==(5:Int))=false->((c.kind==(6:Int))=true->(((0:Nat)=(0:Nat)/\(0:Nat)=(0:Nat))/\c.plan=c.plan/\True)/\(fO ([]++aF c.kind++aj c.epoch) ([]++aF c.kind++aj c.epoch))/\jo c.plan ([]++aF c.kind++aj c.epoch)/\(((0:Nat)=(0:Nat)/\(0:Nat)=(0:Nat))/\True)/\(fO ([]++aF c.kind++aj c.epoch++aj c.plan) ([]++aF c.kind++aj c.epoch++aj c.plan))/\Dn (List.length ([]++aF c.kind++aj c.epoch++aj c.plan))/\(dI ([]++aF c.kind++aj c.epoch++aj c.plan) (gU c))/\True)/\((c.kind==(6:Int))=false->List.length (gU c)=(0:Nat)/\True))))))
theorem X_ (c:R.bJ):(aZ Tryz.prog (wcH c) 23 [.agg (R.dR c)] [] (.ret (bn true (gU c),[],[])))=ad4 c:=by kernel_rfl
end Go.Proofs.YtnbhdjadlbhknaaGreatDoor.J
