import Derived.Test.YtckklclehofddaaGreatDoorE12
import Derived.Test.YtckklclehofddaaGreatDoorW1
import Derived.Test.YtckklclehofddaaGreatDoorW6
import Derived.Test.YtckklclehofddaaGreatDoorW7
set_option linter.unusedVariables false
set_option linter.unusedSimpArgs false
set_option linter.unusedSectionVars false
namespace Go.Proofs.YtckklclehofddaaGreatDoor.Q
open Go.Ax Go.Proofs.YtckklclehofddaaGreatDoor
set_option maxRecDepth 1000000
def prodAt (l:List P.Producer) (id:Int):Int:=match l.findIdx? (fun y=>y.id==id) with | some i=>(i:Nat) | none=>-1
def lastL (l:List P.Producer) (s:Kn):List Int:=l.map fun y=>s.sel y.id
theorem sel_put (s:Kn) (a b c:Int):(s.put a b).sel c=if a=c then b else s.sel c:=by
 unfold Kn.sel Kn.put updHas updC selI
 by_cases h:a=c
 · simp [h]
 · simp [h]
theorem lastL_len (l:List P.Producer) (s:Kn):(lastL l s).length=l.length:=by simp [lastL]
theorem lastL_at (l:List P.Producer) (s:Kn) {i:Nat} (h:i<l.length):(lastL l s).getD i 0=s.sel (l.getD i default).id:=by
 simp [lastL,h]
theorem lastL_put {l:List P.Producer} (hu:P.rising l) (s:Kn) {i:Nat} (h:i<l.length) (b:Int):(lastL l s).set i b=lastL l (s.put (l.getD i default).id b):=by
 refine List.ext_getElem? fun q=>?_
 unfold lastL
 rw [List.getElem?_set,List.getElem?_map,List.getElem?_map,List.length_map]
 by_cases hq:q<l.length
 · rw [List.getElem?_eq_getElem hq]
   have e1:l.getD q default=l[q]:=by simp [hq]
   have e2:l.getD i default=l[i]:=by simp [h]
   by_cases h1:i=q
   · subst h1
     simp only [h,if_true,Option.map_some,sel_put,e2]
   · have hne:¬ (l.getD i default).id=l[q].id:=by
      rw [<- e1]
      rcases Nat.lt_or_gt_of_ne h1 with h2 | h2
      · have:=hu i q h2 hq;omega
      · have:=hu q i h2 h;omega
     rw [if_neg h1]
     simp only [Option.map_some,sel_put,if_neg hne]
 · rw [List.getElem?_eq_none (by omega)]
   by_cases h1:i=q
   · omega
   · rw [if_neg h1]
     rfl
theorem prodAt_some {l:List P.Producer} {id:Int} {i:Nat} (h:prodAt l id=(i:Nat)):i<l.length/\(l.getD i default).id=id:=by
 unfold prodAt at h
 split at h
 · rename_i j hj
   obtain ⟨h1,h2,_⟩:=List.findIdx?_eq_some_iff_getElem.1 hj
   have:j=i:=by omega
   subst this
   exact ⟨h1,by simpa [h1] using h2⟩
 · omega
theorem prodAt_cases (l:List P.Producer) (id:Int):(prodAt l id=-1/\∀ y∈l,y.id≠id)∨∃ i:Nat,prodAt l id=(i:Nat)/\i<l.length:=by
 cases hf:l.findIdx? (fun y=>y.id==id) with
 | none =>
   refine .inl ⟨by simp [prodAt,hf],fun y hy e=>?_⟩
   have:=List.findIdx?_eq_none_iff.1 hf y hy
   simp [e] at this
 | some i =>
   have h:prodAt l id=(i:Nat):=by simp [prodAt,hf]
   exact .inr ⟨i,h,(prodAt_some h).1⟩
theorem knP_take {l:List P.Producer} (hu:P.rising l):∀ k,k<=l.length->∀ i,i<l.length->(knP (l.take k)).sel (l.getD i default).id=if i<k then (l.getD i default).seq else 0:=by
 intro k
 induction k with
 | zero=>intro _ i _;simp [knP,kn0,Kn.sel,selI]
 | succ k ih =>
   intro hk i hi
   rw [knP_step (by omega),sel_put]
   by_cases h1:k=i
   · subst h1;simp
   · have hne:¬ (l.getD k default).id=(l.getD i default).id:=by
      rcases Nat.lt_or_gt_of_ne h1 with h2 | h2
      · have:=hu k i h2 hi;omega
      · have:=hu i k h2 (by omega);omega
     rw [if_neg hne,ih (by omega) i hi]
     by_cases h2:i<k
     · rw [if_pos h2,if_pos (by omega)]
     · rw [if_neg h2,if_neg (by omega)]
theorem knP_at {l:List P.Producer} (hu:P.rising l) {i:Nat} (hi:i<l.length):(knP l).sel (l.getD i default).id=(l.getD i default).seq:=by
 have:=knP_take hu l.length (Nat.le_refl _) i hi
 rwa [List.take_length,if_pos hi] at this
theorem knP_no:∀ (l:List P.Producer) (id:Int),(∀ y∈l,y.id≠id)->(knP l).sel id=0:=by
 intro l id h
 unfold knP
 have key:∀ (l:List P.Producer) (s:Kn),s.sel id=0->(∀ y∈l,y.id≠id)->(l.foldl (fun s x=>s.put x.id x.seq) s).sel id=0:=by
  intro l
  induction l with
  | nil=>intro s h _;exact h
  | cons x r ih =>
    intro s hs hh
    refine ih _ ?_ fun y hy=>hh y (List.mem_cons_of_mem _ hy)
    rw [sel_put,if_neg (hh x (List.mem_cons_self))]
    exact hs
 exact key l kn0 (by simp [kn0,Kn.sel,selI]) h
theorem knR_pos:∀ (l:List Rec) (id:Int),(∀ y∈l,0<=y.seq)->0<=(knR l).sel id:=by
 intro l id h
 unfold knR
 have key:∀ (l:List Rec) (s:Kn),0<=s.sel id->(∀ y∈l,0<=y.seq)->0<=(l.foldl (fun s x=>s.put x.prod x.seq) s).sel id:=by
  intro l
  induction l with
  | nil=>intro s h _;exact h
  | cons x r ih =>
    intro s hs hh
    refine ih _ ?_ fun y hy=>hh y (List.mem_cons_of_mem _ hy)
    rw [sel_put]
    split
    · exact hh x (List.mem_cons_self)
    · exact hs
 exact key l kn0 (by simp [kn0,Kn.sel,selI]) h
def okD (p:Part) (k:Nat):Bool :=
 let x:=p.recs.getD k default
 let at_:=prodAt p.prods x.prod
 hasK p.rng x.key&&(!decide (at_<0)&&(!decide (x.seq<=(lastL p.prods (knR (p.recs.take k))).getD at_.toNat 0)&&!decide ((p.prods.getD at_.toNat default).seq<x.seq)))
theorem okD_eq {p:Part} (ht:P.isTable p.prods=true) (hs:∀ y∈p.recs,0<=y.seq) {k:Nat}:okD p k=okO p k:=by
 have hu:=P.table_rising ht
 unfold okD okO
 generalize p.recs.getD k default=x
 rcases prodAt_cases p.prods x.prod with ⟨h1,h2⟩ | ⟨i,h1,h2⟩
 · have e1:=knP_no _ _ h2
   have e2:=knR_pos (p.recs.take k) x.prod fun y hy=>hs y (List.mem_of_mem_take hy)
   simp only [h1,e1]
   by_cases h3:x.seq<=(knR (p.recs.take k)).sel x.prod
   · simp [h3]
   · have h4:(0:Int)<x.seq:=by omega
     simp [h3,h4]
 · obtain ⟨h3,h4⟩:=prodAt_some h1
   have e1:=knP_at hu h3
   have e2:=lastL_at p.prods (knR (p.recs.take k)) h3
   rw [h4] at e1 e2
   simp only [h1,Int.toNat_natCast,e1,e2]
   have h5:¬ ((i:Nat):Int)<0:=by omega
   simp [h5]
end Go.Proofs.YtckklclehofddaaGreatDoor.Q

namespace Go.Proofs.YtckklclehofddaaGreatDoor.Q
open Go.Ax Go.Proofs.YtckklclehofddaaGreatDoor Go.Proofs.YtckklclehofddaaGreatDoor.H Go.Proofs.YtckklclehofddaaGreatDoor.D
set_option maxRecDepth 1000000
def isP (id:Int) (y:P.Producer):Bool:=y.id==id
def pdT (b:Bool) (l:List P.Producer) (id:Int) (k:Nat):List AV:=mkT 20 [(0,P.encPs b l),(1,.y (.int .u64 id)),(5,.y (.int .i64 k))]
def pdS (r:Bool×Nat):Exit×List AV×List Blk:=match r.1 with
 | true=>(.ret,mkT 20 [(4,.y (.int .i64 r.2))],[])
 | false=>(.exit 0,mkT 20 [],[])
def pdO (l:List P.Producer) (id:Int) (k:Nat):T (Bool×Nat):=.ite ((l.drop k).any (isP id)) (.ret (true,k+(l.drop k).findIdx (isP id))) (.ret (false,0))
def vcPdL (b:Bool) (l:List P.Producer) (id:Int) (k:Nat):Prop :=
 (decide ((↑k:Int)<(↑(List.length l):Int))=true->(true&&decide ((↑k:Int)<(↑(List.length l):Int)))=true/\(((List.getD l (Int.toNat (↑k:Int)) (@default P.Producer P.instInhabitedProducer)).id==id)=true->(List.any (List.drop k l) (isP id)=true->((↑k:Int)=(↑(k+List.findIdx (isP id) (List.drop k l)):Int)/\True)/\True/\true=true)/\(List.any (List.drop k l) (isP id)=false->False))/\(((List.getD l (Int.toNat (↑k:Int)) (@default P.Producer P.instInhabitedProducer)).id==id)=false->∃ (j:Nat),List.length l - j<List.length l - k/\(((b=b/\List.length l=List.length l/\contLe (List.length l) (4:Nat) (cellsOf' P.encP l) (cellsOf' P.encP l))/\id=id/\IntKind.wrap IntKind.i64 ((↑k:Int)+(1:Int))=(↑j:Int)/\True)/\True/\true=true)/\true=true/\(List.any (List.drop j l) (isP id)=true->(List.any (List.drop k l) (isP id)=true->(true,j+List.findIdx (isP id) (List.drop j l))=(true,k+List.findIdx (isP id) (List.drop k l)))/\(List.any (List.drop k l) (isP id)=false->(true,j+List.findIdx (isP id) (List.drop j l))=(false,(0:Nat))))/\(List.any (List.drop j l) (isP id)=false->(List.any (List.drop k l) (isP id)=true->(false,(0:Nat))=(true,k+List.findIdx (isP id) (List.drop k l)))/\(List.any (List.drop k l) (isP id)=false->(false,(0:Nat))=(false,(0:Nat))))))/\(decide ((↑k:Int)<(↑(List.length l):Int))=false->(List.any (List.drop k l) (isP id)=true->False)/\(List.any (List.drop k l) (isP id)=false->True/\True/\true=true))
theorem vcPdL_eq (b:Bool) (l:List P.Producer) (id:Int) (k:Nat):(loopVC Tryz.prog (hT _) 69 2 (fun k=>l.length - k) (pdT b l id) (fun _=>[]) [0] (pdO l id) pdS k)=vcPdL b l id k:=by kernel_rfl
noncomputable def pdH (b:Bool) (l:List P.Producer) (id:Int):HintsT Tryz.prog:=hh _ (lp1 69 2 (jobOf (pdT b l id) (fun _=>[]) [0] (pdO l id) pdS 0) noLp) noCs noOp
def vcPd (b:Bool) (l:List P.Producer) (id:Int):Prop :=
 (((b=b/\List.length l=List.length l/\contLe (List.length l) (4:Nat) (cellsOf' P.encP l) (cellsOf' P.encP l))/\id=id/\(0:Int)=(0:Int)/\True)/\True/\true=true)/\LoopOk Tryz.prog (69:Nat) (2:Nat) (loopAt Tryz.prog (69:Nat) (2:Nat)) { t:=pdT b l id (0:Nat),m:=[],mv:=[]:St } (T.map (lout [(0:Nat)] pdS) (pdO l id (0:Nat)))/\(List.any (List.drop (0:Nat) l) (isP id)=true->(↑((0:Nat)+List.findIdx (isP id) (List.drop (0:Nat) l)):Int)=prodAt l id/\True)/\(List.any (List.drop (0:Nat) l) (isP id)=false->(-1:Int)=prodAt l id/\True)
theorem vcPd_eq (b:Bool) (l:List P.Producer) (id:Int):(ctrVC Tryz.prog (pdH b l id) 69 [P.encPs b l,.y (.int .u64 id)] [] (intR (prodAt l id)))=vcPd b l id:=by kernel_rfl
theorem prodAt_find (l:List P.Producer) (id:Int):prodAt l id=if l.any (isP id) then ((l.findIdx (isP id):Nat):Int) else -1:=by
 unfold prodAt isP
 cases hf:l.findIdx? (fun y=>y.id==id) with
 | none =>
   have:=List.findIdx?_eq_none_iff.1 hf
   have h:l.any (fun y=>y.id==id)=false:=by
    rw [List.any_eq_false]
    intro y hy
    simpa using this y hy
   simp [h]
 | some i =>
   obtain ⟨h1,h2,_⟩:=List.findIdx?_eq_some_iff_getElem.1 hf
   have h:l.any (fun y=>y.id==id)=true:=List.any_eq_true.2 ⟨l[i],List.getElem_mem h1,h2⟩
   rw [if_pos h]
   have:=List.findIdx?_eq_some_iff_findIdx_eq.1 hf
   rw [this.2]
theorem pd_loop (b:Bool) (l:List P.Producer) (id:Int) (hl:l.length<=9223372036854775806) (k:Nat):LoopOk Tryz.prog 69 2 (loopAt Tryz.prog 69 2) ⟨pdT b l id k,[],[]⟩ ((pdO l id k).map (lout [0] pdS)):=by
 refine loop_vc Tryz.mixed (fun _=>rfl) (fun k=>(vcPdL_eq b l id k).mpr ?_) k
 unfold vcPdL
 simp
 refine ⟨fun h=>?_,fun h=>by simp [drop_end h]⟩
 simp (disch:=omega) only [wrap_i64]
 rw [drop_cons h]
 simp only [List.any_cons,List.findIdx_cons]
 generalize l[k]?.getD default=y
 by_cases h1:y.id=id
 · simp [isP,h1,h]
 · simp [isP,h1,h,cast_succ_eq]
   exact ⟨k+1,by omega,rfl,by grind⟩
theorem pd_c (b:Bool) (l:List P.Producer) (id:Int) (hl:l.length<=9223372036854775806):(intR (prodAt l id)).Sat (ACall' Tryz.prog 69 [P.encPs b l,.y (.int .u64 id)] []):=by
 refine ctr_vc (ht:=pdH b l id) Tryz.mixed rfl ?_
 rw [vcPd_eq b l id]
 unfold vcPd
 have:=pd_loop b l id hl 0
 rw [prodAt_find]
 simp [this]
noncomputable def pdC (b:Bool) (l:List P.Producer) (id:Int):Ctr Tryz.prog:=⟨69,[P.encPs b l,.y (.int .u64 id)],[],.need (l.length<=9223372036854775806) (intR (prodAt l id)),T.Sat.need fun h=>pd_c b l id h⟩
def c1T (k:Nat) (n:Nat):List AV:=mkT 167 [(1,.ptr 0 0 0 0),(6,.own 1 1 0 n),(7,.y (.int .i64 k))]
def c1M (b:Bool) (p:Part) (k:Nat):List Blk:=[.box 30 (encPt b p),rowU (lastL p.prods (knR (p.recs.take k)))]
def cS (b:Bool) (p:Part) (e:Nat) (r:Bool):Exit×List AV×List Blk:=match r with
 | true=>(.exit e,mkT 167 [(1,.ptr 0 0 0 0)],[.box 30 (encPt b p)])
 | false=>(.ret,mkT 167 [(2,.s (.int .i64 165))],[])
noncomputable def c1H (b:Bool) (p:Part) (k:Nat):HintsT Tryz.prog:=hh _ noLp (cs1 34 11 4 (has2C p.rng (p.recs.getD k default).key) (cs1 34 12 4 (pdC b p.prods (p.recs.getD k default).prod) noCs)) noOp
def vcC1 (b:Bool) (p:Part) (k:Nat):Prop :=
 (decide ((k:Int)<(p.recs.length:Int))=true->(true&&decide ((k:Int)<(p.recs.length:Int)))=true/\((p.rng.lo=p.rng.lo/\p.rng.hi=p.rng.hi/\True)/\(p.recs.getD (Int.toNat (k:Int)) default).key=(p.recs.getD k default).key/\True)/\True/\((b=b/\p.prods.length=p.prods.length/\contLe p.prods.length 4 (cellsOf' P.encP p.prods) (cellsOf' P.encP p.prods))/\(p.recs.getD (Int.toNat (k:Int)) default).prod=(p.recs.getD k default).prod/\True)/\True/\p.prods.length<=9223372036854775806/\((!hasK p.rng (p.recs.getD k default).key)=true->(orFrom p k=true->False)/\(orFrom p k=false->((165:Int)=165/\True)/\True/\true=true))/\((!hasK p.rng (p.recs.getD k default).key)=false->(decide (prodAt p.prods (p.recs.getD k default).prod<0)=true->(orFrom p k=true->False)/\(orFrom p k=false->((165:Int)=165/\True)/\True/\true=true))/\(decide (prodAt p.prods (p.recs.getD k default).prod<0)=false->(decide (0<=prodAt p.prods (p.recs.getD k default).prod)&&decide (prodAt p.prods (p.recs.getD k default).prod<((lastL p.prods (knR (List.take k p.recs))).length:Int)))=true/\decide (0+Int.toNat (prodAt p.prods (p.recs.getD k default).prod)<(lastL p.prods (knR (List.take k p.recs))).length)=true/\(decide ((p.recs.getD (Int.toNat (k:Int)) default).seq<=(lastL p.prods (knR (List.take k p.recs))).getD (0+Int.toNat (prodAt p.prods (p.recs.getD k default).prod)) 0)=true->(orFrom p k=true->False)/\(orFrom p k=false->((165:Int)=165/\True)/\True/\true=true))/\(decide ((p.recs.getD (Int.toNat (k:Int)) default).seq<=(lastL p.prods (knR (List.take k p.recs))).getD (0+Int.toNat (prodAt p.prods (p.recs.getD k default).prod)) 0)=false->(decide (0<=prodAt p.prods (p.recs.getD k default).prod)&&decide (prodAt p.prods (p.recs.getD k default).prod<(p.prods.length:Int)))=true/\(decide ((p.prods.getD (Int.toNat (prodAt p.prods (p.recs.getD k default).prod)) default).seq<(p.recs.getD (Int.toNat (k:Int)) default).seq)=true->(orFrom p k=true->False)/\(orFrom p k=false->((165:Int)=165/\True)/\True/\true=true))/\(decide ((p.prods.getD (Int.toNat (prodAt p.prods (p.recs.getD k default).prod)) default).seq<(p.recs.getD (Int.toNat (k:Int)) default).seq)=false->(decide (0<=prodAt p.prods (p.recs.getD k default).prod)&&decide (prodAt p.prods (p.recs.getD k default).prod<((lastL p.prods (knR (List.take k p.recs))).length:Int)))=true/\decide (0+Int.toNat (prodAt p.prods (p.recs.getD k default).prod)<(lastL p.prods (knR (List.take k p.recs))).length)=true/\∃ j:Nat,p.recs.length - j<p.recs.length - k/\(((0=0/\0=0)/\(0=0/\(lastL p.prods (knR (List.take k p.recs))).length=(lastL p.prods (knR (List.take j p.recs))).length)/\IntKind.i64.wrap ((k:Int)+1)=(j:Int)/\True)/\((ptLe b b p p)/\((lastL p.prods (knR (List.take k p.recs))).length=(lastL p.prods (knR (List.take j p.recs))).length/\contLe (lastL p.prods (knR (List.take k p.recs))).length 1 (wrRow (cellsOf' encU (lastL p.prods (knR (List.take k p.recs)))) (0+Int.toNat (prodAt p.prods (p.recs.getD k default).prod)) 0 [AV.y (.int .u64 (p.recs.getD (Int.toNat (k:Int)) default).seq)]) (cellsOf' encU (lastL p.prods (knR (List.take j p.recs)))))/\True)/\true=true)/\true=true/\(orFrom p j=true->(orFrom p k=true->true=true)/\(orFrom p k=false->true=false))/\(orFrom p j=false->(orFrom p k=true->false=true)/\(orFrom p k=false->false=false)))))))/\(decide ((k:Int)<(p.recs.length:Int))=false->(orFrom p k=true->((0=0/\0=0)/\True)/\((ptLe b b p p)/\True)/\true=true)/\(orFrom p k=false->False))
theorem vcC1_eq (b:Bool) (p:Part) (k:Nat):(loopVC Tryz.prog (c1H b p k) 34 8 (fun k=>p.recs.length - k) (fun k=>c1T k (lastL p.prods (knR (p.recs.take k))).length) (c1M b p) jX9 (orO p) (cS b p 0) k)=vcC1 b p k:=by kernel_rfl
def c2T (k:Nat):List AV:=mkT 167 [(1,.ptr 0 0 0 0),(11,.y (.int .i64 k))]
def c2O (p:Part) (k:Nat):T Bool:=.ite ((p.prods.drop k).any (lostB p)) (.ret false) (.ret true)
def vcC2 (b:Bool) (p:Part) (k:Nat):Prop :=
 (decide ((k:Int)<(p.prods.length:Int))=true->(true&&decide ((k:Int)<(p.prods.length:Int)))=true/\((!(p.prods.getD (Int.toNat (k:Int)) default).here)=true->∃ j:Nat,p.prods.length - j<p.prods.length - k/\(((0=0/\0=0)/\IntKind.i64.wrap ((k:Int)+1)=(j:Int)/\True)/\((ptLe b b p p)/\True)/\true=true)/\true=true/\(List.any (List.drop j p.prods) (lostB p)=true->(List.any (List.drop k p.prods) (lostB p)=true->false=false)/\(List.any (List.drop k p.prods) (lostB p)=false->false=true))/\(List.any (List.drop j p.prods) (lostB p)=false->(List.any (List.drop k p.prods) (lostB p)=true->true=false)/\(List.any (List.drop k p.prods) (lostB p)=false->true=true)))/\((!(p.prods.getD (Int.toNat (k:Int)) default).here)=false->(decide (IntKind.u64.wrap (p.recs.length:Int)<=(p.prods.getD (Int.toNat (k:Int)) default).offset)=true->(List.any (List.drop k p.prods) (lostB p)=true->((165:Int)=165/\True)/\True/\true=true)/\(List.any (List.drop k p.prods) (lostB p)=false->False))/\(decide (IntKind.u64.wrap (p.recs.length:Int)<=(p.prods.getD (Int.toNat (k:Int)) default).offset)=false->(decide (0<=IntKind.i64.wrap (p.prods.getD (Int.toNat (k:Int)) default).offset)&&decide (IntKind.i64.wrap (p.prods.getD (Int.toNat (k:Int)) default).offset<(p.recs.length:Int)))=true/\(((p.recs.getD (Int.toNat (IntKind.i64.wrap (p.prods.getD (Int.toNat (k:Int)) default).offset)) default).prod != (p.prods.getD (Int.toNat (k:Int)) default).id)=true->(List.any (List.drop k p.prods) (lostB p)=true->((165:Int)=165/\True)/\True/\true=true)/\(List.any (List.drop k p.prods) (lostB p)=false->False))/\(((p.recs.getD (Int.toNat (IntKind.i64.wrap (p.prods.getD (Int.toNat (k:Int)) default).offset)) default).prod != (p.prods.getD (Int.toNat (k:Int)) default).id)=false->(decide (0<=IntKind.i64.wrap (p.prods.getD (Int.toNat (k:Int)) default).offset)&&decide (IntKind.i64.wrap (p.prods.getD (Int.toNat (k:Int)) default).offset<(p.recs.length:Int)))=true/\(((p.recs.getD (Int.toNat (IntKind.i64.wrap (p.prods.getD (Int.toNat (k:Int)) default).offset)) default).seq != (p.prods.getD (Int.toNat (k:Int)) default).seq)=true->(List.any (List.drop k p.prods) (lostB p)=true->((165:Int)=165/\True)/\True/\true=true)/\(List.any (List.drop k p.prods) (lostB p)=false->False))/\(((p.recs.getD (Int.toNat (IntKind.i64.wrap (p.prods.getD (Int.toNat (k:Int)) default).offset)) default).seq != (p.prods.getD (Int.toNat (k:Int)) default).seq)=false->∃ j:Nat,p.prods.length - j<p.prods.length - k/\(((0=0/\0=0)/\IntKind.i64.wrap ((k:Int)+1)=(j:Int)/\True)/\((ptLe b b p p)/\True)/\true=true)/\true=true/\(List.any (List.drop j p.prods) (lostB p)=true->(List.any (List.drop k p.prods) (lostB p)=true->false=false)/\(List.any (List.drop k p.prods) (lostB p)=false->false=true))/\(List.any (List.drop j p.prods) (lostB p)=false->(List.any (List.drop k p.prods) (lostB p)=true->true=false)/\(List.any (List.drop k p.prods) (lostB p)=false->true=true)))))))/\(decide ((k:Int)<(p.prods.length:Int))=false->(List.any (List.drop k p.prods) (lostB p)=true->False)/\(List.any (List.drop k p.prods) (lostB p)=false->((0=0/\0=0)/\True)/\((ptLe b b p p)/\True)/\true=true))
theorem vcC2_eq (b:Bool) (p:Part) (k:Nat):(loopVC Tryz.prog (hT _) 34 17 (fun k=>p.prods.length - k) c2T (fun _=>[.box 30 (encPt b p)]) jX9 (c2O p) (cS b p 2) k)=vcC2 b p k:=by kernel_rfl
def c3T (k:Nat):List AV:=mkT 167 [(1,.ptr 0 0 0 0),(13,.y (.int .i64 k))]
def c3O (p:Part) (k:Nat):T Bool:=.ite ((p.cons.drop k).any (aheadB p.recs.length)) (.ret false) (.ret true)
def vcC3 (b:Bool) (p:Part) (k:Nat):Prop :=
 (decide ((k:Int)<(p.cons.length:Int))=true->(true&&decide ((k:Int)<(p.cons.length:Int)))=true/\(decide (IntKind.u64.wrap (p.recs.length:Int)<(p.cons.getD (Int.toNat (k:Int)) default).off)=true->(List.any (List.drop k p.cons) (aheadB p.recs.length)=true->((165:Int)=165/\True)/\True/\true=true)/\(List.any (List.drop k p.cons) (aheadB p.recs.length)=false->False))/\(decide (IntKind.u64.wrap (p.recs.length:Int)<(p.cons.getD (Int.toNat (k:Int)) default).off)=false->∃ j:Nat,p.cons.length - j<p.cons.length - k/\(((0=0/\0=0)/\IntKind.i64.wrap ((k:Int)+1)=(j:Int)/\True)/\((ptLe b b p p)/\True)/\true=true)/\true=true/\(List.any (List.drop j p.cons) (aheadB p.recs.length)=true->(List.any (List.drop k p.cons) (aheadB p.recs.length)=true->false=false)/\(List.any (List.drop k p.cons) (aheadB p.recs.length)=false->false=true))/\(List.any (List.drop j p.cons) (aheadB p.recs.length)=false->(List.any (List.drop k p.cons) (aheadB p.recs.length)=true->true=false)/\(List.any (List.drop k p.cons) (aheadB p.recs.length)=false->true=true))))/\(decide ((k:Int)<(p.cons.length:Int))=false->(List.any (List.drop k p.cons) (aheadB p.recs.length)=true->False)/\(List.any (List.drop k p.cons) (aheadB p.recs.length)=false->((0=0/\0=0)/\True)/\((ptLe b b p p)/\True)/\true=true))
theorem vcC3_eq (b:Bool) (p:Part) (k:Nat):(loopVC Tryz.prog (hT _) 34 24 (fun k=>p.cons.length - k) c3T (fun _=>[.box 30 (encPt b p)]) jX9 (c3O p) (cS b p 4) k)=vcC3 b p k:=by kernel_rfl
noncomputable def ckH (b:Bool) (p:Part):HintsT Tryz.prog:=hh _ (lp1 34 8 (jobOf (fun k=>c1T k (lastL p.prods (knR (p.recs.take k))).length) (c1M b p) jX9 (orO p) (cS b p 0) 0) (lp1 34 17 (jobOf c2T (fun _=>[.box 30 (encPt b p)]) jX9 (c2O p) (cS b p 2) 0) (lp1 34 24 (jobOf c3T (fun _=>[.box 30 (encPt b p)]) jX9 (c3O p) (cS b p 4) 0) noLp)))
 (cs1 34 1 2 (lrC b p.recs) (cs1 34 2 2 (P.tabN2 b p.prods) (cs1 34 3 2 (crC b p.cons) (cs1 34 4 2 (chk2C p.rng) noCs)))) noOp
def vcCk (b:Bool) (p:Part):Prop :=
 ((b=b/\p.recs.length=p.recs.length/\contLe p.recs.length 5 (cellsOf' encR p.recs) (cellsOf' encR p.recs))/\True)/\True/\p.recs.length<=9223372036854775806/\((b=b/\p.prods.length=p.prods.length/\contLe p.prods.length 4 (cellsOf' P.encP p.prods) (cellsOf' P.encP p.prods))/\True)/\True/\p.prods.length<=9223372036854775806/\((b=b/\p.cons.length=p.cons.length/\contLe p.cons.length 2 (cellsOf' encC p.cons) (cellsOf' encC p.cons))/\True)/\True/\p.cons.length<=9223372036854775806/\((p.rng.lo=p.rng.lo/\p.rng.hi=p.rng.hi/\True)/\True)/\True/\((chkK p.rng != 0)=true->(partOk p=true->(165:Int)=0/\True)/\(partOk p=false->(165:Int)=165/\True))/\((chkK p.rng != 0)=false->((p.epoch==0)=true->(partOk p=true->(165:Int)=0/\True)/\(partOk p=false->(165:Int)=165/\True))/\((p.epoch==0)=false->((!isLog p.recs)=true->(partOk p=true->(165:Int)=0/\True)/\(partOk p=false->(165:Int)=165/\True))/\((!isLog p.recs)=false->((!P.isTable p.prods)=true->(partOk p=true->(165:Int)=0/\True)/\(partOk p=false->(165:Int)=165/\True))/\((!P.isTable p.prods)=false->((!isCons p.cons)=true->(partOk p=true->(165:Int)=0/\True)/\(partOk p=false->(165:Int)=165/\True))/\((!isCons p.cons)=false->0<=(p.prods.length:Int)/\(p.prods.length:Int)<=(p.prods.length:Int)/\8*(p.prods.length:Int)<=281474976710656/\(p.prods.length:Int)<=9223372036854775807/\(((0=0/\0=0)/\(0=0/\Int.toNat (p.prods.length:Int)=(lastL p.prods (fun (x:Int)=>false,fun (x:Int)=>0)).length)/\(0:Int)=0/\True)/\((ptLe b b p p)/\(Int.toNat (p.prods.length:Int)=(lastL p.prods (fun (x:Int)=>false,fun (x:Int)=>0)).length/\contLe (Int.toNat (p.prods.length:Int)) 1 (fun (x j:Nat)=>Ax.get [AV.s (.int .u64 0)] j) (cellsOf' encU (lastL p.prods (fun (x:Int)=>false,fun (x:Int)=>0))))/\True)/\true=true)/\LoopOk Tryz.prog 34 8 (loopAt Tryz.prog 34 8) { t:=c1T 0 (lastL p.prods (knR (List.take 0 p.recs))).length,m:=c1M b p 0,mv:=[]:St } (T.map (lout jX9 (cS b p 0)) (orO p 0))/\(orFrom p 0=true->(((0=0/\0=0)/\(0:Int)=0/\True)/\((ptLe b b p p)/\True)/\true=true)/\LoopOk Tryz.prog 34 17 (loopAt Tryz.prog 34 17) { t:=c2T 0,m:=[Blk.box (30:TypeId) (encPt b p)],mv:=[]:St } (T.map (lout jX9 (cS b p 2)) (c2O p 0))/\(List.any (List.drop 0 p.prods) (lostB p)=true->(partOk p=true->(165:Int)=0/\True)/\(partOk p=false->(165:Int)=165/\True))/\(List.any (List.drop 0 p.prods) (lostB p)=false->(((0=0/\0=0)/\(0:Int)=0/\True)/\((ptLe b b p p)/\True)/\true=true)/\LoopOk Tryz.prog 34 24 (loopAt Tryz.prog 34 24) { t:=c3T 0,m:=[Blk.box (30:TypeId) (encPt b p)],mv:=[]:St } (T.map (lout jX9 (cS b p 4)) (c3O p 0))/\(List.any (List.drop 0 p.cons) (aheadB p.recs.length)=true->(partOk p=true->(165:Int)=0/\True)/\(partOk p=false->(165:Int)=165/\True))/\(List.any (List.drop 0 p.cons) (aheadB p.recs.length)=false->(partOk p=true->(0:Int)=0/\True)/\(partOk p=false->(0:Int)=165/\True))))/\(orFrom p 0=false->(partOk p=true->(165:Int)=0/\True)/\(partOk p=false->(165:Int)=165/\True)))))))
theorem vcCk_eq (b:Bool) (p:Part):(ctrVC Tryz.prog (ckH b p) 34 [.agg (encPt b p)] [] (errR (partOk p) 165))=vcCk b p:=by kernel_rfl
end Go.Proofs.YtckklclehofddaaGreatDoor.Q

namespace Go.Proofs.YtckklclehofddaaGreatDoor.Q
open Go.Ax Go.Proofs.YtckklclehofddaaGreatDoor Go.Proofs.YtckklclehofddaaGreatDoor.H Go.Proofs.YtckklclehofddaaGreatDoor.D
set_option maxRecDepth 1000000
structure CkIn (p:Part):Prop where
 rl:p.recs.length<=4611686018427387903
 pl:p.prods.length<=4611686018427387903
 cl:p.cons.length<=4611686018427387903
 po:∀ x∈p.prods,0<=x.offset/\x.offset<18446744073709551616
 pn:p.prods.length<=35184372088832
 sq:∀ y∈p.recs,0<=y.seq
structure CkOk (p:Part):Prop where
 ty:PartTy p
 pn:p.prods.length<=35184372088832
 sq:∀ y∈p.recs,0<=y.seq
theorem CkOk.ins {p:Part} (h:CkOk p):CkIn p:=⟨h.ty.rl,h.ty.pl,h.ty.cl,h.ty.po,h.pn,h.sq⟩
theorem c1_loop (b:Bool) (p:Part) (h:CkIn p) (ht:P.isTable p.prods=true) (k:Nat):LoopOk Tryz.prog 34 8 (loopAt Tryz.prog 34 8) ⟨c1T k (lastL p.prods (knR (p.recs.take k))).length,c1M b p k,[]⟩ ((orO p k).map (lout jX9 (cS b p 0))):=by
 refine loop_vcH (o:=orO p) (stT:=fun k=>c1T k (lastL p.prods (knR (p.recs.take k))).length) (stM:=c1M b p) Tryz.mixed (fun _=>rfl) (fun k=>(vcC1_eq b p k).mpr ?_) k
 unfold vcC1
 have hr:=h.rl
 have hp:=h.pl
 have hu:=P.table_rising ht
 by_cases hk:k<p.recs.length
 · have hok:=okD_eq (k:=k) ht h.sq
   have hst:=knR_step hk
   have hof:=orFrom_step hk
   have hz:decide ((k:Int)<p.recs.length)=true:=by simp;omega
   have hw:IntKind.i64.wrap ((k:Int)+1)=((k+1:Nat):Int):=by rw [wrap_i64 (by omega) (by omega)];omega
   unfold okD at hok
   simp only [hz,Int.toNat_natCast,lastL_len] at *
   obtain ⟨x,hx⟩:∃ x,x=p.recs.getD k default:=⟨_,rfl⟩
   simp only [<- hx] at *
   rcases prodAt_cases p.prods x.prod with ⟨h1,h2⟩ | ⟨i,h1,h2⟩
   · rw [h1] at hok
     have ho:okO p k=false:=by rw [<- hok];simp
     rw [ho] at hof
     simp [h1,hof]
     omega
   · obtain ⟨h3,h4⟩:=prodAt_some h1
     have hi:¬ ((i:Nat):Int)<0:=by omega
     have hset:=lastL_put hu (knR (p.recs.take k)) h3 x.seq
     rw [h4] at hset
     have hwr:=wr_le (enc:=encU) (l:=lastL p.prods (knR (p.recs.take k))) (i:=i) (sz:=1) (n:=p.prods.length) (cs:=[AV.y (Value.int IntKind.u64 x.seq)]) (x:=x.seq) (by rw [lastL_len]) (by rw [lastL_len];exact h3) rfl (fun j hj=>by (obtain rfl:j=0:=by omega);exact le0_refl _)
     rw [hset] at hwr
     rw [h1,Int.toNat_natCast] at hok
     simp only [h1,Int.toNat_natCast,Nat.zero_add]
     obtain ⟨la,hla⟩:∃ la,la=(lastL p.prods (knR (p.recs.take k))).getD i 0:=⟨_,rfl⟩
     obtain ⟨pq,hpq⟩:∃ pq,pq=(p.prods.getD i default).seq:=⟨_,rfl⟩
     simp only [<- hla,<- hpq] at *
     cases hh:hasK p.rng x.key
     · have ho:okO p k=false:=by rw [<- hok];simp [hh]
       simp [hof,ho]
       try omega
     · by_cases h5:x.seq<=la
       · have ho:okO p k=false:=by rw [<- hok,hh];simp [h5]
         simp [hof,ho,h5,hi,h3]
         try omega
       · by_cases h6:pq<x.seq
         · have ho:okO p k=false:=by rw [<- hok,hh];simp [h5,h6]
           simp [hof,ho,h5,h6,hi,h3]
           try omega
         · have ho:okO p k=true:=by rw [<- hok,hh];simp [h5,h6,hi]
           simp [hof,ho,h5,h6,hi,h3]
           repeat' with_reducible apply And.intro
           all_goals first
            | omega
            | (refine Exists.intro (k+1) ?_
               rw [hst]
               repeat' with_reducible apply And.intro
               all_goals first
                | omega
                | exact hw
                | exact hwr
                | (simp [lastL_len];done)
                | (intro hq;simp [hq]))
 · have hz:decide ((k:Int)<p.recs.length)=false:=by simp;omega
   simp [hz,orFrom_end (show p.recs.length<=k by omega)]
   try exact fun e=>absurd e hk
theorem c2_loop (b:Bool) (p:Part) (h:CkIn p) (k:Nat):LoopOk Tryz.prog 34 17 (loopAt Tryz.prog 34 17) ⟨c2T k,[.box 30 (encPt b p)],[]⟩ ((c2O p k).map (lout jX9 (cS b p 2))):=by
 refine loop_vc (stM:=fun _=>[.box 30 (encPt b p)]) Tryz.mixed (fun _=>rfl) (fun k=>(vcC2_eq b p k).mpr ?_) k
 unfold vcC2
 have hr:=h.rl
 have hp:=h.pl
 by_cases hk:k<p.prods.length
 · have hz:decide ((k:Int)<p.prods.length)=true:=by simp;omega
   have hw:IntKind.i64.wrap ((k:Int)+1)=((k+1:Nat):Int):=by rw [wrap_i64 (by omega) (by omega)];omega
   have hwr:IntKind.u64.wrap (p.recs.length:Int)=p.recs.length:=wrap_u64 (by omega) (by omega)
   have hd:(p.prods.drop k).any (lostB p)=(lostB p (p.prods.getD k default)||(p.prods.drop (k+1)).any (lostB p)):=by
    rw [drop_cons hk,List.any_cons];simp
   have hpo:=h.po (p.prods.getD k default) (by simp [hk])
   simp only [hz,Int.toNat_natCast,hwr,hd]
   obtain ⟨x,hx⟩:∃ x,x=p.prods.getD k default:=⟨_,rfl⟩
   simp only [<- hx] at *
   have hwo:x.offset<(p.recs.length:Int)->IntKind.i64.wrap x.offset=x.offset:=fun h=>wrap_i64 (by omega) (by omega)
   have hex:∀ q:Nat->Prop,q (k+1)->∃ j,p.prods.length - j<p.prods.length - k/\q j:=fun q h=>⟨k+1,by omega,h⟩
   have hcl:contLe p.recs.length 5 (cellsOf' encR p.recs) (cellsOf' encR p.recs):=contLe_refl _ _ _
   obtain ⟨rest,hR⟩:∃ rest,rest=(p.prods.drop (k+1)).any (lostB p):=⟨_,rfl⟩
   have hexR:∀ q:Nat->Bool->Prop,q (k+1) rest->∃ j,p.prods.length - j<p.prods.length - k/\q j ((p.prods.drop j).any (lostB p)):=fun q h=>⟨k+1,by omega,by rw [<- hR];exact h⟩
   rw [<- hR]
   clear hd hR
   have hlo:lostB p x=(x.here&&(decide ((p.recs.length:Int)<=x.offset)||((p.recs.getD x.offset.toNat default).prod != x.id||(p.recs.getD x.offset.toNat default).seq != x.seq))):=rfl
   have fin:∀ q:Nat->Bool->Prop,q (k+1) rest->∃ j,p.prods.length - j<p.prods.length - k/\q j ((p.prods.drop j).any (lostB p)):=hexR
   cases hh:x.here
   · rw [hh] at hlo
     simp only [Bool.false_and] at hlo
     simp [hlo,hh,-List.any_eq_true,-List.any_eq_false]
     refine fin (fun j r=>_/\(r=true->rest=true)/\(r=false->rest=false)) ?_
     simp [hw]
   · by_cases h1:(p.recs.length:Int)<=x.offset
     · rw [hh] at hlo
       simp [h1] at hlo
       simp [hlo,hh,h1]
       try omega
     · have h1':x.offset<p.recs.length:=by omega
       rw [hwo h1']
       rw [hh] at hlo
       obtain ⟨a,ha⟩:∃ a,a=p.recs.getD x.offset.toNat default:=⟨_,rfl⟩
       simp only [<- ha] at *
       have h0:=hpo.1
       by_cases h2:a.prod=x.id
       · by_cases h3:a.seq=x.seq
         · simp [h1,h2,h3] at hlo
           simp [hlo,hh,h1,h2,h3,h1',h0,-List.any_eq_true,-List.any_eq_false]
           refine fin (fun j r=>_/\(r=true->rest=true)/\(r=false->rest=false)) ?_
           simp [hw]
         · simp [h1,h2,h3] at hlo
           simp [hlo,hh,h1,h2,h3,h1',h0]
       · simp [h1,h2] at hlo
         simp [hlo,hh,h1,h2,h1',h0]
 · have hz:decide ((k:Int)<p.prods.length)=false:=by simp;omega
   simp [hz,drop_end (show p.prods.length<=k by omega)]
   try exact fun e=>absurd e hk
theorem c3_loop (b:Bool) (p:Part) (h:CkIn p) (k:Nat):LoopOk Tryz.prog 34 24 (loopAt Tryz.prog 34 24) ⟨c3T k,[.box 30 (encPt b p)],[]⟩ ((c3O p k).map (lout jX9 (cS b p 4))):=by
 refine loop_vc (stM:=fun _=>[.box 30 (encPt b p)]) Tryz.mixed (fun _=>rfl) (fun k=>(vcC3_eq b p k).mpr ?_) k
 unfold vcC3
 have hr:=h.rl
 have hc:=h.cl
 by_cases hk:k<p.cons.length
 · have hz:decide ((k:Int)<p.cons.length)=true:=by simp;omega
   have hw:IntKind.i64.wrap ((k:Int)+1)=((k+1:Nat):Int):=by rw [wrap_i64 (by omega) (by omega)];omega
   have hwr:IntKind.u64.wrap (p.recs.length:Int)=p.recs.length:=wrap_u64 (by omega) (by omega)
   have hd:(p.cons.drop k).any (aheadB p.recs.length)=(aheadB p.recs.length (p.cons.getD k default)||(p.cons.drop (k+1)).any (aheadB p.recs.length)):=by
    rw [drop_cons hk,List.any_cons];simp
   simp only [hz,Int.toNat_natCast,hwr,hd]
   obtain ⟨x,hx⟩:∃ x,x=p.cons.getD k default:=⟨_,rfl⟩
   simp only [<- hx] at *
   obtain ⟨rest,hR⟩:∃ rest,rest=(p.cons.drop (k+1)).any (aheadB p.recs.length):=⟨_,rfl⟩
   have fin:∀ q:Nat->Bool->Prop,q (k+1) rest->∃ j,p.cons.length - j<p.cons.length - k/\q j ((p.cons.drop j).any (aheadB p.recs.length)):=fun q h=>⟨k+1,by omega,by rw [<- hR];exact h⟩
   rw [<- hR]
   clear hd hR
   by_cases h1:(p.recs.length:Int)<x.off
   · have hlo:aheadB p.recs.length x=true:=by simp [aheadB,h1]
     simp [hlo,h1]
     try omega
   · have hlo:aheadB p.recs.length x=false:=by simp [aheadB];omega
     simp [hlo,h1,-List.any_eq_true,-List.any_eq_false]
     refine fin (fun j r=>_/\(r=true->rest=true)/\(r=false->rest=false)) ?_
     simp [hw]
 · have hz:decide ((k:Int)<p.cons.length)=false:=by simp;omega
   simp [hz,drop_end (show p.cons.length<=k by omega)]
   try exact fun e=>absurd e hk
theorem last0 (l:List P.Producer) (i:Nat):(lastL l (fun _=>false,fun _=>0)).getD i 0=0:=by
 unfold lastL
 rw [show (l.map fun y=>Kn.sel (fun _=>false,fun _=>0) y.id)=l.map fun _=>(0:Int) from List.map_congr_left fun y _=>rfl]
 simp
 cases l[i]?<;>rfl
theorem zero_la (l:List P.Producer):contLe l.length 1 (fun (_ j:Nat)=>Ax.get [AV.s (Value.int IntKind.u64 0)] j) (cellsOf' encU (lastL l (fun _=>false,fun _=>0))):=by
 intro i _ j hj
 unfold cellsOf'
 rw [show (default:Int)=0 from rfl,last0]
 obtain rfl:j=0:=by omega
 exact rfl
theorem ck1_c (b:Bool) (p:Part) (h:CkIn p):(errR (partOk p) 165).Sat (ACall' Tryz.prog 34 [.agg (encPt b p)] []):=by
 refine ctr_vc (ht:=ckH b p) Tryz.mixed rfl ?_
 rw [vcCk_eq b p]
 unfold vcCk
 have l1:=fun ht=>c1_loop b p h ht 0
 have l2:=c2_loop b p h 0
 have l3:=c3_loop b p h 0
 obtain ⟨h1,h2,h3,h4,h6,_⟩:=h
 unfold partOk
 have g1:p.recs.length<=9223372036854775806:=by omega
 have g2:p.prods.length<=9223372036854775806:=by omega
 have g3:p.cons.length<=9223372036854775806:=by omega
 simp only [List.drop_zero]
 generalize orFrom p 0=a1
 obtain ⟨a2,ha2⟩:∃ a2,a2=p.prods.any (lostB p):=⟨_,rfl⟩
 obtain ⟨a3,ha3⟩:∃ a3,a3=p.cons.any (aheadB p.recs.length):=⟨_,rfl⟩
 rw [<- ha2,<- ha3]
 generalize isLog p.recs=a4
 have zr:=zero_la p.prods
 have cr:=contLe_refl p.recs.length 5 (cellsOf' encR p.recs)
 have cp:=contLe_refl p.prods.length 4 (cellsOf' P.encP p.prods)
 have cc:=contLe_refl p.cons.length 2 (cellsOf' encC p.cons)
 cases a5:P.isTable p.prods
 · cases a4<;>by_cases c1:chkK p.rng=0<;>by_cases c2:p.epoch=0<;>simp [c1,c2,g1,g2,g3,cr,cp,cc]
 · have l1':=l1 a5
   simp only [lastL_len] at l1'
   generalize isCons p.cons=a6
   have o1:8*p.prods.length<=281474976710656:=by omega
   have o2:(8*(p.prods.length:Int))<=281474976710656:=by omega
   have o3:(p.prods.length:Int)<=9223372036854775807:=by omega
   simp only [Int.toNat_natCast]
   by_cases c1:chkK p.rng=0<;>by_cases c2:p.epoch=0<;>cases a1<;>cases a2<;>cases a3<;>cases a4<;>cases a6<;>simp [c1,c2,g1,g2,g3,cr,cp,cc,zr,lastL_len,l1',l2,l3,o2,o3]
end Go.Proofs.YtckklclehofddaaGreatDoor.Q

namespace Go.Proofs.YtckklclehofddaaGreatDoor.Q
open Go.Ax Go.Proofs.YtckklclehofddaaGreatDoor Go.Proofs.YtckklclehofddaaGreatDoor.H Go.Proofs.YtckklclehofddaaGreatDoor.D
set_option maxRecDepth 1000000
noncomputable def ckN (b:Bool) (p:Part) (c:Bool):Ctr Tryz.prog:=⟨34,[.agg (encPt b p)],[],.need (CkIn p/\partOk p=c) (errR c 165),T.Sat.need fun h=>by
 obtain ⟨h1,rfl⟩:=h
 exact ck1_c b p h1⟩
noncomputable def km2N (a b:Rng) (e:Int):Ctr Tryz.prog:=⟨35,[.agg (encG a),.agg (encG b)],[],.need (kmE a b=e) (kmN a b e),T.Sat.need fun h=>by
 have:=km2_c a b
 unfold kmT at this
 rw [h] at this
 exact this⟩
def jrN (e:Int) (out:List Rec) (ta tb:List Int):T An:=.ite (e==0) (.ret (.tup [.own 0 5 0 out.length,.own 1 1 0 ta.length,.own 2 1 0 tb.length,.s (.int .i64 0)],[rowR out,rowU ta,rowU tb],[])) (jnE e)
theorem jrN_c (b1 b2:Bool) (a b:List Rec) (e:Int) (out:List Rec) (ta tb:List Int) (h:JnN a b e out ta tb):(jrN e out ta tb).Sat (ACall' Tryz.prog 36 [encRs b1 a,encRs b2 b] []):=by
 obtain ⟨h1,h2,h3,h4⟩:=h
 have hs:=joinr_c b1 b2 a b h1 h2
 unfold joinT at hs
 intro Q hq
 unfold joU at h3
 cases c1:(isLog a&&isLog b)
 · rw [c1] at h3 hs
   obtain rfl:1=e:=by simpa using h3
   exact joE_as (fun Q hq=>hs Q ⟨fun e=>by simp at e,fun _=>hq⟩) Q (hq.2 rfl)
 · rw [c1] at h3 hs
   by_cases c2:a.length+b.length<=4096
   · cases c3:(jo0 a b).run with
     | none =>
       rw [c3] at h3 hs
       obtain rfl:145=e:=by simpa [c2] using h3
       exact joE_as (fun Q hq=>hs Q ⟨fun _=>⟨fun _=>⟨fun e=>by simp at e,fun _=>hq⟩,fun e=>by simp [c2] at e⟩,fun e=>by simp at e⟩) Q (hq.2 rfl)
     | some s =>
       rw [c3] at h3 hs
       obtain rfl:0=e:=by simpa [c2] using h3
       obtain ⟨s',hs',rfl,rfl,rfl⟩:=h4 rfl
       obtain rfl:s=s':=Option.some.inj (c3.symm.trans hs')
       exact hs Q ⟨fun _=>⟨fun _=>⟨fun _=>hq.1 rfl,fun e=>by simp at e⟩,fun e=>by simp [c2] at e⟩,fun e=>by simp at e⟩
   · obtain rfl:143=e:=by simpa [c2] using h3
     exact joE_as (fun Q hq=>hs Q ⟨fun _=>⟨fun e=>by simp [c2] at e,fun _=>hq⟩,fun e=>by simp at e⟩) Q (hq.2 rfl)
noncomputable def jrNC (b1 b2:Bool) (a b:List Rec) (e:Int) (out:List Rec) (ta tb:List Int):Ctr Tryz.prog:=⟨36,[encRs b1 a,encRs b2 b],[],.need (JnN a b e out ta tb) (jrN e out ta tb),T.Sat.need fun h=>jrN_c b1 b2 a b e out ta tb h⟩
end Go.Proofs.YtckklclehofddaaGreatDoor.Q

namespace Go.Proofs.YtckklclehofddaaGreatDoor.J
open Go.Ax
set_option maxRecDepth 1000000
def vint:Nat->Int->List Int
 | 0,v=>[v]
 | f+1,v=>if v<128 then [v] else (v % 128+128)::vint f (v / 128)
def uintB (v:Int):List Int:=vint 10 v
structure WU (t:List Int) where
 v:Int
 l:List Int
 f:Nat
 v0:0<=v
 vf:v<128 ^ (f+1)
 n:l.length+f+1<=140737488355327
 e:t=l++vint f v
end Go.Proofs.YtckklclehofddaaGreatDoor.J

namespace Go.Proofs.YtckklclehofddaaGreatDoor.J
open Go.Ax
set_option maxRecDepth 1000000
theorem u8_mod (v:Int):IntKind.wrap IntKind.u8 v=v % 256:=by
 unfold IntKind.wrap
 simp [IntKind.bits,IntKind.signed]
theorem vint_step {f:Nat} {v:Int} (h:128<=v):vint (f+1) v=(v % 128+128)::vint f (v / 128):=by
 rw [vint,if_neg (by omega)]
theorem vint_end {f:Nat} {v:Int} (h:v<128):vint f v=[v]:=by
 cases f with
 | zero=>rfl
 | succ f=>rw [vint,if_pos h]
theorem vint_len (f:Nat):∀ v,(vint f v).length<=f+1:=by
 induction f with
 | zero=>intro v;exact Nat.le_refl _
 | succ f ih =>
   intro v
   unfold vint
   split
   · simp
   · simp only [List.length_cons]
     have:=ih (v / 128)
     omega
theorem vint_last (f:Nat):∀ v,0<=v->v<128 ^ (f+1)->∃ l z,vint f v=l++[z]/\0<=z/\z<128:=by
 induction f with
 | zero =>
   intro v h0 h1
   exact ⟨[],v,rfl,h0,by simpa using h1⟩
 | succ f ih =>
   intro v h0 h1
   by_cases h:v<128
   · exact ⟨[],v,vint_end h,h0,h⟩
   · have:(128:Int) ^ (f+1+1)=128 ^ (f+1)*128:=Int.pow_succ 128 (f+1)
     rw [this] at h1
     obtain ⟨l,z,h2,h3,h4⟩:=ih (v / 128) (Int.ediv_nonneg h0 (by omega)) (Int.ediv_lt_of_lt_mul (by omega) h1)
     exact ⟨(v % 128+128)::l,z,by rw [vint_step (by omega),h2];rfl,h3,h4⟩
end Go.Proofs.YtckklclehofddaaGreatDoor.J

namespace Go.Proofs.YtckklclehofddaaGreatDoor.J
open Go.Ax
set_option maxRecDepth 1000000
def duT (v:Int) (n:Nat):List AV:=mkT 20 [(0,.y (.int .u64 v)),(3,.own 0 1 0 n)]
def duM (l:List Int):List Blk:=[.row 5 1 l.length none (cellsOf' encB l)]
def duS (t:List Int) (_:Unit):Exit×List AV×List Blk:=(.exit 0,duT (t.getLastD 0) t.dropLast.length,duM t.dropLast)
def vcDuL (t:List Int) (q:WU t):Prop :=
 (decide (128<=q.v)=true->true=true/\(decide (q.l.length=q.l.length)&&decide (q.l.length+1<=9223372036854775807)&&decide ((q.l.length+1)*1<=140737488355328))=true/\∃ (j:WU t),j.f<q.f/\((q.v / 128=j.v/\(0=0/\q.l.length+1=j.l.length)/\True)/\((q.l.length+1=j.l.length/\contLe (q.l.length+1) 1 (appRow q.l.length (cellsOf' encB q.l) fun (k j:Nat)=>Ax.get [AV.y (.int .u8 (IntKind.u8.wrap (IntKind.u8.wrap (IntKind.u64.wrap ((BitVec.toNat (BitVec.ofInt 64 q.v &&& BitVec.ofInt 64 127)):Int))+128)))] (k*1+j)) (cellsOf' encB j.l))/\True)/\true=true)/\true=true/\()=())/\(decide (128<=q.v)=false->(q.v=List.getLastD t 0/\(0=0/\q.l.length=(List.dropLast t).length)/\True)/\((q.l.length=(List.dropLast t).length/\contLe q.l.length 1 (cellsOf' encB q.l) (cellsOf' encB (List.dropLast t)))/\True)/\true=true)
theorem vcDuL_eq (t:List Int) (q:WU t):(loopVC Tryz.prog (hT _) 30 2 (fun q=>q.f) (fun q=>duT q.v q.l.length) (fun q=>duM q.l) [0,1,2] (fun _=>.ret ()) (duS t) q)=vcDuL t q:=by kernel_rfl
end Go.Proofs.YtckklclehofddaaGreatDoor.J

namespace Go.Proofs.YtckklclehofddaaGreatDoor.J
open Go.Ax
set_option maxRecDepth 1000000
def anB (v:Int):Int:=IntKind.wrap IntKind.u8 (IntKind.wrap IntKind.u8 (IntKind.wrap IntKind.u64 (↑(BitVec.toNat (BitVec.ofInt 64 v &&& BitVec.ofInt 64 127)):Int))+128)
theorem and127 (v:Int):(↑(BitVec.toNat (BitVec.ofInt 64 v &&& BitVec.ofInt 64 127)):Int)=v % 128:=by
 rw [BitVec.toNat_and]
 have e:(BitVec.ofInt 64 127).toNat=2 ^ 7 - 1:=by decide
 rw [e,Nat.and_two_pow_sub_one_eq_mod,BitVec.toNat_ofInt]
 have h:(((v % ((2 ^ 64:Nat):Int)).toNat:Nat):Int)=v % ((2 ^ 64:Nat):Int):=Int.toNat_of_nonneg (Int.emod_nonneg _ (by decide))
 have h2:((v % ((2 ^ 64:Nat):Int)).toNat % 2 ^ 7:Nat)=(v % 128).toNat:=by
  have h3:((((v % ((2 ^ 64:Nat):Int)).toNat % 2 ^ 7:Nat)):Int)=v % 128:=by
   rw [Int.natCast_emod,h]
   omega
  omega
 rw [h2]
 omega
theorem anB_eq (v:Int):anB v=v % 128+128:=by
 unfold anB
 rw [and127]
 have h0:0<=v % 128:=Int.emod_nonneg _ (by omega)
 have h1:v % 128<128:=Int.emod_lt_of_pos _ (by omega)
 have e:IntKind.wrap IntKind.u64 (v % 128)=v % 128:=by
  unfold IntKind.wrap
  simp [IntKind.bits,IntKind.signed]
  omega
 rw [e,u8_mod,u8_mod]
 omega
theorem du_loop (t:List Int) (q:WU t):LoopOk Tryz.prog 30 2 (loopAt Tryz.prog 30 2) ⟨duT q.v q.l.length,duM q.l,[]⟩ (T.map (lout [0,1,2] (duS t)) (.ret ())):=by
 refine loop_vcH (P:=Tryz.prog) (f:=30) (k:=2) (ι:=WU t) (μ:=fun q=>q.f) (ht:=fun _=>hT _) (stT:=fun q=>duT q.v q.l.length) (stM:=fun q=>duM q.l) (X:=[0,1,2]) (o:=fun _=>.ret ()) (S:=duS t) Tryz.mixed (fun _=>rfl) (fun q=>?_) q
 rw [vcDuL_eq t q]
 unfold vcDuL
 have hn:=q.n
 have hv0:=q.v0
 have hvf:=q.vf
 have he:=q.e
 by_cases h:128<=q.v
 · obtain ⟨f,hf⟩:∃ f,q.f=f+1:=by
    cases hf:q.f with
    | zero=>rw [hf] at hvf;simp at hvf;omega
    | succ f=>exact ⟨f,rfl⟩
   have hz:decide ((128:Int)<=q.v)=true:=by simp;omega
   rw [hf,vint_step h] at he
   have hdiv:q.v / 128<128 ^ (f+1):=by
    rw [hf] at hvf
    have:(128:Int) ^ (f+1+1)=128 ^ (f+1)*128:=Int.pow_succ 128 (f+1)
    rw [this] at hvf
    exact Int.ediv_lt_of_lt_mul (by omega) hvf
   have ha:=app1_le (enc:=encB) (l:=q.l) (n:=q.l.length) (sz:=1) (x:=q.v % 128+128) (cs:=[.y (.int .u8 (q.v % 128+128))]) rfl (fun j hj=>le0_refl _)
   simp only [Nat.mul_one] at ha
   have hO:=anB_eq q.v
   unfold anB at hO
   simp only [hz,hO]
   simp
   refine ⟨⟨by omega,by omega⟩,⟨q.v / 128,q.l++[q.v % 128+128],f,Int.ediv_nonneg hv0 (by omega),hdiv,by simp;omega,he.trans (by simp)⟩,by show f<q.f;omega,⟨rfl,by simp⟩,by simp,ha⟩
 · have hz:decide ((128:Int)<=q.v)=false:=by simp;omega
   rw [vint_end (by omega)] at he
   have h1:t.getLastD 0=q.v:=(congrArg (fun x:List Int=>x.getLastD 0) he).trans (by simp)
   have h2:t.dropLast=q.l:=(congrArg List.dropLast he).trans (by simp)
   simp only [hz,h1,h2]
   simp
end Go.Proofs.YtckklclehofddaaGreatDoor.J

namespace Go.Proofs.YtckklclehofddaaGreatDoor.Q
open Go.Ax Go.Proofs.YtckklclehofddaaGreatDoor Go.Proofs.YtckklclehofddaaGreatDoor.J
set_option maxRecDepth 1000000
def boolB (b:Bool):List Int:=[if b then 1 else 0]
def textB (t:List Int):List Int:=uintB t.length++t
def strB (s:ByteArray):List Int:=s.data.toList.map fun x=>(x.toNat:Int)
def rngB (r:Rng):List Int:=textB (strB r.lo)++textB (strB r.hi)
def recB (x:Rec):List Int:=uintB x.off++textB (strB x.key)++textB x.val++uintB x.prod++uintB x.seq
def recsB (l:List Rec):List Int:=uintB (l.length:Int)++l.flatMap recB
def prodB (x:P.Producer):List Int:=uintB x.id++uintB x.seq++boolB x.here++uintB x.offset
def conB (x:Con):List Int:=textB (strB x.name)++uintB x.off
def hdB (p:Part):List Int:=rngB p.rng++uintB p.epoch++uintB p.frozen++recsB p.recs++uintB (p.prods.length:Int)
def prB (p:Part) (k:Nat):List Int:=hdB p++(p.prods.take k).flatMap prodB
def coB (p:Part) (k:Nat):List Int:=prB p p.prods.length++uintB (p.cons.length:Int)++(p.cons.take k).flatMap conB
def partB (p:Part):List Int:=coB p p.cons.length
def rowB (l:List Int):Blk:=.row 5 1 l.length none (cellsOf' encB l)
def bytesR (l:List Int):T An:=.ret (.own 0 1 0 l.length,[rowB l],[])
noncomputable def uwH (t:List Int) (q:WU t):HintsT Tryz.prog:=hh _ (lp1 30 2 (jobOf (fun q:WU t=>duT q.v q.l.length) (fun q=>duM q.l) [0,1,2] (fun _=>.ret ()) (duS t) q) noLp) noCs (op1 30 1 0 (.row 5 1) noOp)
def vcUw (t:List Int) (q:WU t) (v:Int):Prop :=
 ((v=q.v/\(0=0/\0=q.l.length)/\True)/\((0=q.l.length/\contLe 0 1 (fun (x x_1:Nat)=>AV.junk) (cellsOf' encB q.l))/\True)/\true=true)/\LoopOk Tryz.prog 30 2 (loopAt Tryz.prog 30 2) { t:=duT q.v q.l.length,m:=duM q.l,mv:=[]:St } (T.map (lout [0,1,2] (duS t)) ((fun (x:WU t)=>T.ret ()) q))/\(decide ((List.dropLast t).length=(List.dropLast t).length)&&decide ((List.dropLast t).length+1<=9223372036854775807)&&decide (((List.dropLast t).length+1)*1<=140737488355328))=true/\(0=0/\(List.dropLast t).length+1=t.length)/\((List.dropLast t).length+1=t.length/\contLe ((List.dropLast t).length+1) 1 (appRow (List.dropLast t).length (cellsOf' encB (List.dropLast t)) fun (k j:Nat)=>Ax.get [AV.y (.int .u8 (IntKind.u8.wrap (List.getLastD t 0)))] (k*1+j)) (cellsOf' encB t))/\True
theorem vcUw_eq (t:List Int) (q:WU t) (v:Int):(ctrVC Tryz.prog (uwH t q) 30 [.y (.int .u64 v)] [] (bytesR t))=vcUw t q v:=by kernel_rfl
theorem uw_c (v:Int) (h0:0<=v) (h1:v<18446744073709551616):(bytesR (uintB v)).Sat (ACall' Tryz.prog 30 [.y (.int .u64 v)] []):=by
 have hv:v<128 ^ (10+1):=by
  have:(128:Int) ^ (10+1)=151115727451828646838272:=by decide
  omega
 obtain ⟨a,z,ha,hz0,hz1⟩:=vint_last 10 v h0 hv
 have hlen:=vint_len 10 v
 have lp:=du_loop (uintB v) ⟨v,[],10,h0,hv,by decide,rfl⟩
 refine ctr_vc (ht:=uwH (uintB v) ⟨v,[],10,h0,hv,by decide,rfl⟩) Tryz.mixed rfl ?_
 rw [vcUw_eq (uintB v) ⟨v,[],10,h0,hv,by decide,rfl⟩ v]
 unfold vcUw
 have e1:(uintB v).dropLast=a:=by unfold uintB;rw [ha];simp
 have e2:(uintB v).getLastD 0=z:=by unfold uintB;rw [ha];simp
 have e3:uintB v=a++[z]:=ha
 have hz8:IntKind.wrap IntKind.u8 z=z:=by rw [u8_mod];omega
 have hal:a.length<=10:=by rw [ha] at hlen;simp at hlen;omega
 have hr:=app1_le (enc:=encB) (l:=a) (n:=a.length) (sz:=1) (x:=z) (cs:=[.y (.int .u8 z)]) rfl (fun j hj=>le0_refl _)
 simp only [Nat.mul_one] at hr
 have e4:(uintB v).length=a.length+1:=by unfold uintB;rw [ha];simp
 simp only [e1,e2,hz8]
 simp [lp]
 repeat' with_reducible apply And.intro
 all_goals first
  | omega
  | (simpa using lp)
  | (rw [e3];exact hr)
structure UwOk (v:Int):Prop where
 v0:0<=v
 v1:v<18446744073709551616
noncomputable def uwC (v:Int):Ctr Tryz.prog:=⟨30,[.y (.int .u64 v)],[],.need (UwOk v) (bytesR (uintB v)),T.Sat.need fun h=>uw_c v h.v0 h.v1⟩
noncomputable def txH (n:Nat):HintsT Tryz.prog:=hh _ noLp (cs1 33 1 3 (uwC (n:Int)) noCs) noOp
def vcTx (f:Bool) (b:List Int):Prop :=
 (IntKind.u64.wrap (b.length:Int)=(b.length:Int)/\True)/\True/\UwOk (b.length:Int)/\(decide ((uintB (b.length:Int)).length=(uintB (b.length:Int)).length)&&decide ((uintB (b.length:Int)).length+b.length<=9223372036854775807)&&decide (((uintB (b.length:Int)).length+b.length)*1<=140737488355328))=true/\(0=0/\(uintB (b.length:Int)).length+b.length=(textB b).length)/\((uintB (b.length:Int)).length+b.length=(textB b).length/\contLe ((uintB (b.length:Int)).length+b.length) 1 (appRow (uintB (b.length:Int)).length (cellsOf' encB (uintB (b.length:Int))) (cellsOf' encB b)) (cellsOf' encB (textB b)))/\True
theorem vcTx_eq (f:Bool) (b:List Int):(ctrVC Tryz.prog (txH b.length) 33 [encBs f b] [] (bytesR (textB b)))=vcTx f b:=by kernel_rfl
theorem catB_le (l r:List Int):contLe (l.length+r.length) 1 (appRow l.length (cellsOf' encB l) (cellsOf' encB r)) (cellsOf' encB (l++r)):=by
 intro k hk j hj
 unfold appRow cellsOf'
 by_cases h:k<l.length
 · rw [if_pos h]
   have:(l++r).getD k default=l.getD k default:=by simp [List.getElem?_append_left h]
   rw [this];exact le0_refl _
 · rw [if_neg h]
   have:(l++r).getD k default=r.getD (k - l.length) default:=by simp [List.getElem?_append_right (by omega:l.length<=k)]
   rw [this];exact le0_refl _
theorem uintB_len (v:Int):(uintB v).length<=11:=vint_len 10 v
theorem tx_c (f:Bool) (b:List Int) (h:b.length<=1099511627776):(bytesR (textB b)).Sat (ACall' Tryz.prog 33 [encBs f b] []):=by
 refine ctr_vc (ht:=txH b.length) Tryz.mixed rfl ?_
 rw [vcTx_eq f b]
 unfold vcTx
 have hw:IntKind.u64.wrap (b.length:Int)=b.length:=wrap_u64 (by omega) (by omega)
 have hu:UwOk (b.length:Int):=⟨by omega,by omega⟩
 have hl:=uintB_len (b.length:Int)
 have hc:=catB_le (uintB b.length) b
 simp only [hw,textB]
 simp [hu,hc]
 try omega
noncomputable def txC (f:Bool) (b:List Int):Ctr Tryz.prog:=⟨33,[encBs f b],[],.need (b.length<=1099511627776) (bytesR (textB b)),T.Sat.need fun h=>tx_c f b h⟩
noncomputable def rgH (r:Rng):HintsT Tryz.prog:=hh _ noLp (cs1 29 1 3 (txC true (strB r.lo)) (cs1 29 1 7 (txC true (strB r.hi)) noCs)) noOp
def vcRg (r:Rng):Prop :=
 ((true=true/\ByteArray.size r.lo=(strB r.lo).length/\contLe (ByteArray.size r.lo) 1 (fun (k x:Nat)=>AV.y (.int .u8 ((UInt8.toNat (r.lo.data.toList.getD k (0:UInt8))):Int))) (cellsOf' encB (strB r.lo)))/\True)/\True/\(strB r.lo).length<=1099511627776/\((true=true/\ByteArray.size r.hi=(strB r.hi).length/\contLe (ByteArray.size r.hi) 1 (fun (k x:Nat)=>AV.y (.int .u8 ((UInt8.toNat (r.hi.data.toList.getD k (0:UInt8))):Int))) (cellsOf' encB (strB r.hi)))/\True)/\True/\(strB r.hi).length<=1099511627776/\(decide ((textB (strB r.lo)).length=(textB (strB r.lo)).length)&&decide ((textB (strB r.lo)).length+(textB (strB r.hi)).length<=9223372036854775807)&&decide (((textB (strB r.lo)).length+(textB (strB r.hi)).length)*1<=140737488355328))=true/\(0=0/\(textB (strB r.lo)).length+(textB (strB r.hi)).length=(rngB r).length)/\((textB (strB r.lo)).length+(textB (strB r.hi)).length=(rngB r).length/\contLe ((textB (strB r.lo)).length+(textB (strB r.hi)).length) 1 (appRow (textB (strB r.lo)).length (cellsOf' encB (textB (strB r.lo))) fun (k:Nat)=>cellsOf' encB (textB (strB r.hi)) (0+k)) (cellsOf' encB (rngB r)))/\True
theorem vcRg_eq (r:Rng):(ctrVC Tryz.prog (rgH r) 29 [.agg (encG r)] [] (bytesR (rngB r)))=vcRg r:=by kernel_rfl
noncomputable def rcH (x:Rec):HintsT Tryz.prog:=hh _ noLp (cs1 63 1 2 (uwC x.off) (cs1 63 1 6 (txC true (strB x.key)) (cs1 63 2 3 (txC true x.val) (cs1 63 3 3 (uwC x.prod) (cs1 63 4 3 (uwC x.seq) noCs))))) noOp
def vcRc (x:Rec):Prop :=
 (x.off=x.off/\True)/\True/\UwOk x.off/\((true=true/\ByteArray.size x.key=(strB x.key).length/\contLe (ByteArray.size x.key) 1 (fun (k x_1:Nat)=>AV.y (.int .u8 ((UInt8.toNat (x.key.data.toList.getD k (0:UInt8))):Int))) (cellsOf' encB (strB x.key)))/\True)/\True/\(strB x.key).length<=1099511627776/\(decide ((uintB x.off).length=(uintB x.off).length)&&decide ((uintB x.off).length+(textB (strB x.key)).length<=9223372036854775807)&&decide (((uintB x.off).length+(textB (strB x.key)).length)*1<=140737488355328))=true/\((bsLe x.val x.val)/\True)/\True/\x.val.length<=1099511627776/\(decide ((uintB x.off).length+(textB (strB x.key)).length=(uintB x.off).length+(textB (strB x.key)).length)&&decide ((uintB x.off).length+(textB (strB x.key)).length+(textB x.val).length<=9223372036854775807)&&decide (((uintB x.off).length+(textB (strB x.key)).length+(textB x.val).length)*1<=140737488355328))=true/\(x.prod=x.prod/\True)/\True/\UwOk x.prod/\(decide ((uintB x.off).length+(textB (strB x.key)).length+(textB x.val).length=(uintB x.off).length+(textB (strB x.key)).length+(textB x.val).length)&&decide ((uintB x.off).length+(textB (strB x.key)).length+(textB x.val).length+(uintB x.prod).length<=9223372036854775807)&&decide (((uintB x.off).length+(textB (strB x.key)).length+(textB x.val).length+(uintB x.prod).length)*1<=140737488355328))=true/\(x.seq=x.seq/\True)/\True/\UwOk x.seq/\(decide ((uintB x.off).length+(textB (strB x.key)).length+(textB x.val).length+(uintB x.prod).length=(uintB x.off).length+(textB (strB x.key)).length+(textB x.val).length+(uintB x.prod).length)&&decide ((uintB x.off).length+(textB (strB x.key)).length+(textB x.val).length+(uintB x.prod).length+(uintB x.seq).length<=9223372036854775807)&&decide (((uintB x.off).length+(textB (strB x.key)).length+(textB x.val).length+(uintB x.prod).length+(uintB x.seq).length)*1<=140737488355328))=true/\(0=0/\(uintB x.off).length+(textB (strB x.key)).length+(textB x.val).length+(uintB x.prod).length+(uintB x.seq).length=(recB x).length)/\((uintB x.off).length+(textB (strB x.key)).length+(textB x.val).length+(uintB x.prod).length+(uintB x.seq).length=(recB x).length/\contLe ((uintB x.off).length+(textB (strB x.key)).length+(textB x.val).length+(uintB x.prod).length+(uintB x.seq).length) 1 (appRow ((uintB x.off).length+(textB (strB x.key)).length+(textB x.val).length+(uintB x.prod).length) (appRow ((uintB x.off).length+(textB (strB x.key)).length+(textB x.val).length) (appRow ((uintB x.off).length+(textB (strB x.key)).length) (appRow (uintB x.off).length (cellsOf' encB (uintB x.off)) fun (k:Nat)=>cellsOf' encB (textB (strB x.key)) (0+k)) fun (k:Nat)=>cellsOf' encB (textB x.val) (0+k)) fun (k:Nat)=>cellsOf' encB (uintB x.prod) (0+k)) fun (k:Nat)=>cellsOf' encB (uintB x.seq) (0+k)) (cellsOf' encB (recB x)))/\True
theorem vcRc_eq (x:Rec):(ctrVC Tryz.prog (rcH x) 63 [.agg (encR x)] [] (bytesR (recB x)))=vcRc x:=by kernel_rfl
def vcBo (b:Bool):Prop :=
 (b=true->((0:Nat)=(0:Nat)/\(1:Nat)=List.length [if b=true then (1:Int) else (0:Int)])/\((1:Nat)=List.length [if b=true then (1:Int) else (0:Int)]/\lstLe (1:Nat) (1:Nat) [AV.s (Value.int IntKind.u8 (1:Int))] (cellsOf' encB [if b=true then (1:Int) else (0:Int)]))/\True)/\(b=false->((0:Nat)=(0:Nat)/\(1:Nat)=List.length [if b=true then (1:Int) else (0:Int)])/\((1:Nat)=List.length [if b=true then (1:Int) else (0:Int)]/\lstLe (1:Nat) (1:Nat) [AV.s (Value.int IntKind.u8 (0:Int))] (cellsOf' encB [if b=true then (1:Int) else (0:Int)]))/\True)
theorem vcBo_eq (b:Bool):(ctrVC Tryz.prog (hT _) 32 [.y (.bool b)] [] (bytesR (boolB b)))=vcBo b:=by kernel_rfl
end Go.Proofs.YtckklclehofddaaGreatDoor.Q

namespace Go.Proofs.YtckklclehofddaaGreatDoor.Q
open Go.Ax Go.Proofs.YtckklclehofddaaGreatDoor Go.Proofs.YtckklclehofddaaGreatDoor.J
set_option maxRecDepth 1000000
theorem catB_eq (l r:List Int):appRow l.length (cellsOf' encB l) (fun k=>cellsOf' encB r k)=cellsOf' encB (l++r):=by
 funext k j
 unfold appRow cellsOf'
 by_cases h:k<l.length
 · rw [if_pos h]
   simp [List.getElem?_append_left h]
 · rw [if_neg h]
   simp [List.getElem?_append_right (by omega:l.length<=k)]
theorem textB_len (t:List Int):(textB t).length<=11+t.length:=by
 have:=uintB_len (t.length:Int)
 simp [textB];omega
theorem strB_len (s:ByteArray):(strB s).length=s.size:=by simp [strB]
theorem str_le (s:ByteArray):contLe s.size 1 (fun (k x:Nat)=>AV.y (Value.int IntKind.u8 (↑(UInt8.toNat (List.getD s.data.toList k (0:UInt8))):Int))) (cellsOf' encB (strB s)):=by
 intro k hk j hj
 obtain rfl:j=0:=by omega
 have hk2:k<s.data.toList.length:=by simpa using hk
 show le0 (.y (.int .u8 ((s.data.toList.getD k 0).toNat:Int))) (.y (.int .u8 ((strB s).getD k default)))
 have:(strB s).getD k default=((s.data.toList.getD k 0).toNat:Int):=by
  unfold strB
  simp only [List.getD,List.getElem?_map]
  simp at hk2
  simp [hk2]
 rw [this]
 exact le0_refl _
theorem rg_c (r:Rng) (h1:r.lo.size<=1099511627776) (h2:r.hi.size<=1099511627776):(bytesR (rngB r)).Sat (ACall' Tryz.prog 29 [.agg (encG r)] []):=by
 refine ctr_vc (ht:=rgH r) Tryz.mixed rfl ?_
 rw [vcRg_eq r]
 unfold vcRg
 have a1:=textB_len (strB r.lo)
 have a2:=textB_len (strB r.hi)
 have b1:=strB_len r.lo
 have b2:=strB_len r.hi
 have c1:=str_le r.lo
 have c2:=str_le r.hi
 have e:(rngB r).length=(textB (strB r.lo)).length+(textB (strB r.hi)).length:=by simp [rngB]
 simp only [Nat.zero_add,catB_eq]
 repeat' with_reducible apply And.intro
 all_goals first
  | with_reducible rfl
  | exact trivial
  | assumption
  | omega
  | (simp;omega)
  | exact contLe_refl _ _ _
structure RgOk (r:Rng):Prop where
 lo:r.lo.size<=1099511627776
 hi:r.hi.size<=1099511627776
noncomputable def rgC (r:Rng):Ctr Tryz.prog:=⟨29,[.agg (encG r)],[],.need (RgOk r) (bytesR (rngB r)),T.Sat.need fun h=>rg_c r h.lo h.hi⟩
structure RcOk (x:Rec):Prop where
 o:UwOk x.off
 p:UwOk x.prod
 s:UwOk x.seq
 k:x.key.size<=1099511627776
 v:x.val.length<=1099511627776
theorem rc_c (x:Rec) (h:RcOk x):(bytesR (recB x)).Sat (ACall' Tryz.prog 63 [.agg (encR x)] []):=by
 refine ctr_vc (ht:=rcH x) Tryz.mixed rfl ?_
 rw [vcRc_eq x]
 unfold vcRc
 obtain ⟨h1,h2,h3,h4,h5⟩:=h
 have a1:=textB_len (strB x.key)
 have a2:=textB_len x.val
 have a3:=uintB_len x.off
 have a4:=uintB_len x.prod
 have a5:=uintB_len x.seq
 have b1:=strB_len x.key
 have c1:=str_le x.key
 have e:recB x=uintB x.off++textB (strB x.key)++textB x.val++uintB x.prod++uintB x.seq:=rfl
 rw [e]
 simp only [Nat.zero_add,<- List.length_append,catB_eq]
 repeat' with_reducible apply And.intro
 all_goals first
  | with_reducible rfl
  | exact trivial
  | assumption
  | omega
  | (simp;done)
  | (simp;omega)
  | exact contLe_refl _ _ _
noncomputable def rcC (x:Rec):Ctr Tryz.prog:=⟨63,[.agg (encR x)],[],.need (RcOk x) (bytesR (recB x)),T.Sat.need fun h=>rc_c x h⟩
theorem bo_c (b:Bool):(bytesR (boolB b)).Sat (ACall' Tryz.prog 32 [.y (.bool b)] []):=by
 refine ctr_vc (ht:=hT _) Tryz.mixed rfl ?_
 rw [vcBo_eq b]
 unfold vcBo
 have key:∀ v:Int,lstLe 1 1 [AV.s (Value.int IntKind.u8 v)] (cellsOf' encB [v]):=by
  intro v k hk j hj
  obtain rfl:k=0:=by omega
  obtain rfl:j=0:=by omega
  exact ⟨by simp [cellsOf',encB],rfl⟩
 cases b<;>simp [key]
noncomputable def boC (b:Bool):Ctr Tryz.prog:=⟨32,[.y (.bool b)],[],bytesR (boolB b),bo_c b⟩
def lsP (l:List Rec) (k:Nat):List Int:=uintB (l.length:Int)++(l.take k).flatMap recB
def lsT (b:Bool) (l:List Rec) (k:Nat):List AV:=mkT 23 [(0,encRs b l),(3,.own 0 1 0 (lsP l k).length),(4,.y (.int .i64 k))]
def lsS (l:List Rec) (_:Unit):Exit×List AV×List Blk:=(.exit 0,mkT 23 [(3,.own 0 1 0 (recsB l).length)],[rowB (recsB l)])
noncomputable def lsLH (l:List Rec) (k:Nat):HintsT Tryz.prog:=hh _ noLp (cs1 31 5 5 (rcC (l.getD k default)) noCs) noOp
def vcLsL (b:Bool) (l:List Rec) (k:{ k:Nat // k<=l.length }):Prop :=
 (decide ((k.val:Int)<(l.length:Int))=true->(true&&decide ((k.val:Int)<(l.length:Int)))=true/\(((l.getD (Int.toNat (k.val:Int)) default).off=(l.getD k.val default).off/\(l.getD (Int.toNat (k.val:Int)) default).key=(l.getD k.val default).key/\(true=true/\(l.getD (Int.toNat (k.val:Int)) default).val.length=(l.getD k.val default).val.length/\contLe (l.getD (Int.toNat (k.val:Int)) default).val.length 1 (cellsOf' encB (l.getD (Int.toNat (k.val:Int)) default).val) (cellsOf' encB (l.getD k.val default).val))/\(l.getD (Int.toNat (k.val:Int)) default).prod=(l.getD k.val default).prod/\(l.getD (Int.toNat (k.val:Int)) default).seq=(l.getD k.val default).seq/\True)/\True)/\True/\RcOk (l.getD k.val default)/\(decide ((lsP l k.val).length=(lsP l k.val).length)&&decide ((lsP l k.val).length+(recB (l.getD k.val default)).length<=9223372036854775807)&&decide (((lsP l k.val).length+(recB (l.getD k.val default)).length)*1<=140737488355328))=true/\∃ (j:{ k:Nat // k<=l.length }),l.length - j.val<l.length - k.val/\(((b=b/\l.length=l.length/\contLe l.length 5 (cellsOf' encR l) (cellsOf' encR l))/\(0=0/\(lsP l k.val).length+(recB (l.getD k.val default)).length=(lsP l j.val).length)/\IntKind.i64.wrap ((k.val:Int)+1)=(j.val:Int)/\True)/\(((lsP l k.val).length+(recB (l.getD k.val default)).length=(lsP l j.val).length/\contLe ((lsP l k.val).length+(recB (l.getD k.val default)).length) 1 (appRow (lsP l k.val).length (cellsOf' encB (lsP l k.val)) fun (k_1:Nat)=>cellsOf' encB (recB (l.getD k.val default)) (0+k_1)) (cellsOf' encB (lsP l j.val)))/\True)/\true=true)/\true=true/\()=())/\(decide ((k.val:Int)<(l.length:Int))=false->((0=0/\(lsP l k.val).length=(recsB l).length)/\True)/\(((lsP l k.val).length=(recsB l).length/\contLe (lsP l k.val).length 1 (cellsOf' encB (lsP l k.val)) (cellsOf' encB (recsB l)))/\True)/\true=true)
theorem vcLsL_eq (b:Bool) (l:List Rec) (k:{ k:Nat // k<=l.length }):(loopVC Tryz.prog (lsLH l k.1) 31 3 (fun (k:{ k:Nat // k<=l.length })=>l.length - k.1) (fun k=>lsT b l k.1) (fun k=>[rowB (lsP l k.1)]) [0,1,2,3,4,5] (fun _=>.ret ()) (lsS l) k)=vcLsL b l k:=by kernel_rfl
noncomputable def lsH (b:Bool) (l:List Rec):HintsT Tryz.prog:=hh _ (lp1 31 3 (jobOf (fun (k:{ k:Nat // k<=l.length })=>lsT b l k.1) (fun k=>[rowB (lsP l k.1)]) [0,1,2,3,4,5] (fun _=>.ret ()) (lsS l) ⟨0,Nat.zero_le _⟩) noLp) (cs1 31 1 3 (uwC (l.length:Int)) noCs) noOp
def vcLs (b:Bool) (l:List Rec):Prop :=
 (IntKind.u64.wrap (l.length:Int)=(l.length:Int)/\True)/\True/\UwOk (l.length:Int)/\(((b=b/\l.length=l.length/\contLe l.length 5 (cellsOf' encR l) (cellsOf' encR l))/\(0=0/\(uintB (l.length:Int)).length=(lsP l 0).length)/\(0:Int)=0/\True)/\(((uintB (l.length:Int)).length=(lsP l 0).length/\contLe (uintB (l.length:Int)).length 1 (cellsOf' encB (uintB (l.length:Int))) (cellsOf' encB (lsP l 0)))/\True)/\true=true)/\LoopOk Tryz.prog 31 3 (loopAt Tryz.prog 31 3) { t:=lsT b l (⟨0,lsH._proof_1 l⟩:{ k:Nat // k<=l.length }).val,m:=[rowB (lsP l (⟨0,lsH._proof_1 l⟩:{ k:Nat // k<=l.length }).val)],mv:=[]:St } (T.map (lout [0,1,2,3,4,5] (lsS l)) ((fun (x:{ k:Nat // k<=l.length })=>T.ret ()) (⟨0,lsH._proof_1 l⟩:{ k:Nat // k<=l.length })))/\(0=0/\(recsB l).length=(recsB l).length)/\((recsB l).length=(recsB l).length/\contLe (recsB l).length 1 (cellsOf' encB (recsB l)) (cellsOf' encB (recsB l)))/\True
theorem vcLs_eq (b:Bool) (l:List Rec):(ctrVC Tryz.prog (lsH b l) 31 [encRs b l] [] (bytesR (recsB l)))=vcLs b l:=by kernel_rfl
end Go.Proofs.YtckklclehofddaaGreatDoor.Q
