/- PROVED: PartfsmBytes in its second form (arguments of bounded size): commands, results and states are written, and any bytes are read and applied, as the document says. -/
import Derived.Test.YtnbhdjadlbhknaaGreatDoorRows
import Derived.Test.YtnbhdjadlbhknaaGreatDoorTie
import Derived.Test.YtnbhdjadlbhknaaGreatDoorCards
import Derived.OpenShut
import Derived.Lay
import Derived.Handed
import Derived.SevenTiedAt
import Derived.Deep.DeepHandedRow
import Derived.LaidHandle
import Derived.Test.YtnbhdjadlbhknaaGreatDoorE11
import Derived.Test.YtnbhdjadlbhknaaGreatDoorW4
import Derived.Test.YtnbhdjadlbhknaaGreatDoorW9
import Derived.Test.YtnbhdjadlbhknaaGreatDoorW10
import Derived.Test.YtnbhdjadlbhknaaGreatDoorW11
set_option linter.unusedVariables false
set_option linter.unusedSimpArgs false
set_option maxRecDepth 1000000
namespace Go.Proofs.YtnbhdjadlbhknaaGreatDoor
namespace J
open Go.Ax
def Y1 (c:R.bJ):Prop :=
 ((c.kind==c.kind)=true->((c.epoch==c.epoch)=true->((c.prod==c.prod)=true->((c.seq==c.seq)=true->((c.key.data.toList==c.key.data.toList)=true->(∀ (k:Nat),k<List.length c.val->true=true)/\(∀ (k:Nat),k<List.length c.val->true=true)/\((List.map (fun (a:AV)=>match match a with | AV.s (Value.int IntKind.u8 n)=>some n | AV.y (Value.int IntKind.u8 n)=>some n | x=>none with | some n=>UInt8.ofNat (Int.toNat n) | none=>(0:UInt8)) (List.map (fun (k:Nat)=>AV.y (Value.int IntKind.u8 (List.getD c.val k (0:Int)))) (List.range (List.length c.val)))==List.map (fun (a:AV)=>match match a with | AV.s (Value.int IntKind.u8 n)=>some n | AV.y (Value.int IntKind.u8 n)=>some n | x=>none with | some n=>UInt8.ofNat (Int.toNat n) | none=>(0:UInt8)) (List.map (fun (k:Nat)=>AV.y (Value.int IntKind.u8 (List.getD c.val k (0:Int)))) (List.range (List.length c.val))))=true->((c.off==c.off)=true->((c.most==c.most)=true->((c.name.data.toList==c.name.data.toList)=true->(c.plan==c.plan)=true/\True)/\((c.name.data.toList==c.name.data.toList)=false->false=true/\True))/\((c.most==c.most)=false->false=true/\True))/\((c.off==c.off)=false->false=true/\True))/\((List.map (fun (a:AV)=>match match a with | AV.s (Value.int IntKind.u8 n)=>some n | AV.y (Value.int IntKind.u8 n)=>some n | x=>none with | some n=>UInt8.ofNat (Int.toNat n) | none=>(0:UInt8)) (List.map (fun (k:Nat)=>AV.y (Value.int IntKind.u8 (List.getD c.val k (0:Int)))) (List.range (List.length c.val)))==List.map (fun (a:AV)=>match match a with | AV.s (Value.int IntKind.u8 n)=>some n | AV.y (Value.int IntKind.u8 n)=>some n | x=>none with | some n=>UInt8.ofNat (Int.toNat n) | none=>(0:UInt8)) (List.map (fun (k:Nat)=>AV.y (Value.int IntKind.u8 (List.getD c.val k (0:Int)))) (List.range (List.length c.val))))=false->false=true/\True))/\((c.key.data.toList==c.key.data.toList)=false->false=true/\True))/\((c.seq==c.seq)=false->false=true/\True))/\((c.prod==c.prod)=false->false=true/\True))/\((c.epoch==c.epoch)=false->false=true/\True))/\((c.kind==c.kind)=false->false=true/\True)
theorem O5 (c:R.bJ):(aZ Tryz.prog (hT _) 35 [.agg (R.dV c),.agg (R.dV c)] [] (bM true))=Y1 c:=by kernel_rfl
theorem aeT (c:R.bJ):(bM true).Sat (au Tryz.prog 35 [.agg (R.dV c),.agg (R.dV c)] []):=by
 refine aR (ht:=hT _) Tryz.mixed rfl ?_
 rw [O5 c]
 unfold Y1
 simp
noncomputable def ag8 (c:R.bJ):dO Tryz.prog:=⟨35,[.agg (R.dV c),.agg (R.dV c)],[],bM true,aeT c⟩
noncomputable def aep (p:Part) (w:List Int) (c:R.bJ) (e:Int) (q:Part) (x:R.gJ):aC Tryz.prog:=hh _ bB (cs1 36 1 1 (afe w c e) (cs1 36 2 1 (Q.ckC true p) (cs1 36 3 2 (Yr ⟨165,0,false,[]⟩) (cs1 36 5 3 (Yr ⟨e,0,false,[]⟩) (cs1 36 6 2 (R.agZ p c q x) (cs1 36 7 2 (Yr x) bA)))))) bq
def YV (p:Part) (w:List Int) (c:R.bJ) (e:Int) (q:Part) (x:R.gJ) (q':Part) (t:List Int):Prop :=
 ((dI w w)/\True)/\True/\iq w/\(c,e)=lU w/\((bE true true p p)/\True)/\True/\Q.zJ p/\(aX p=true->((e != 0)=true->((e=e/\(0:Int)=0/\false=false/\0=0/\True)/\True)/\True/\A_ { err:=e,off:=0,old:=false,recs:=[]:R.gJ }/\((bE true true p q')/\(dI (iL { err:=e,off:=0,old:=false,recs:=[]:R.gJ }) t)/\True)/\True)/\((e != 0)=false->((bE true true p p)/\(R.ow c c)/\True)/\True/\R.QoR p c q x/\((x.err=x.err/\x.off=x.off/\x.old=x.old/\(true=true/\x.recs.length=x.recs.length/\ak x.recs.length 5 (ah encR x.recs) (ah encR x.recs))/\True)/\True)/\True/\A_ x/\((bE true true q q')/\(dI (iL x) t)/\True)/\True))/\(aX p=false->(((165:Int)=165/\(0:Int)=0/\false=false/\0=0/\True)/\True)/\True/\A_ { err:=165,off:=0,old:=false,recs:=[]:R.gJ }/\(({ data:=#[]:ByteArray }=q'.rng.lo/\{ data:=#[]:ByteArray }=q'.rng.hi/\0=q'.epoch/\0=q'.frozen/\q'.recs.length=0/\q'.prods.length=0/\q'.cons.length=0/\True)/\(true=true/\5=t.length/\ak 5 1 (ah aD [202,2,0,0,0]) (ah aD t))/\True)/\True)
theorem Sq (p:Part) (w:List Int) (c:R.bJ) (e:Int) (q:Part) (x:R.gJ) (q':Part) (t:List Int):(aZ Tryz.prog (aep p w c e q x) 36 [.agg (aW true p),bn true w] [] (.ret (.tup [.agg (aW true q'),bn true t],[],[])))=YV p w c e q x q' t:=by kernel_rfl
theorem ah5 (l:List Int):(lU l).2=0∨(lU l).2=161:=by
 unfold lU
 split
 · exact .inl rfl
 · exact .inr rfl
structure PtT (p:Part):Prop where
 epoch:nO p.epoch
 frozen:nO p.frozen
 recs:∀ x∈p.recs,FL x/\Bytes x.val
 prods:∀ x∈p.prods,Dl x
 cons:∀ x∈p.cons,nO x.off
theorem aer {p:Part} (h:PtT p) (ho:aX p=true):YE p:=by
 obtain ⟨k1,k2,k3,k4,k5,_⟩:=R.ac2 ho
 obtain ⟨l1,l2,l3⟩:=R.JE ho
 have hr:=D.VR k3
 have hc:=R.Ou k5
 refine ⟨?_,h.epoch,h.frozen,⟨by omega,by omega,fun x hx=>⟨(h.recs x hx).1,(hr x hx).1,(hr x hx).2,(h.recs x hx).2⟩⟩,⟨by omega,by omega,h.prods⟩,⟨by omega,by omega,fun x hx=>⟨?_,h.cons x hx⟩⟩⟩
 · unfold iG at k1
   by_cases hb:32<p.rng.lo.size∨32<p.rng.hi.size
   · rw [if_pos hb] at k1
     exact absurd k1 (by decide)
   · exact ⟨by omega,by omega⟩
 · have:=hc x hx
   unfold dD at this
   simp at this
   omega
theorem Sg (l:List Rec) (x:Rec):0<=R.gZ l x/\R.gZ l x<=999:=by
 unfold R.gZ
 repeat' split
 all_goals decide
theorem Cz (l:List P.Producer) (x:P.Producer):0<=P.aP l x/\P.aP l x<=999:=by
 unfold P.aP
 repeat' split
 all_goals decide
theorem Qx (l:List Con) (x:Con) (e:Int):0<=eG l x e/\eG l x e<=999:=by
 unfold eG
 repeat' split
 all_goals decide
theorem UE (l:List Rec) (o:Int):0<=R.uL l o/\R.uL l o<=999:=by
 unfold R.uL
 repeat' split
 all_goals decide
theorem XY (p:Part) (c:R.bJ):0<=R.iO p c/\R.iO p c<=999:=by
 unfold R.iO
 have h1:=Sg p.recs (R.newR c)
 have h2:=Cz p.prods (R.mM p c)
 repeat' split
 all_goals first | omega | decide
theorem UG (p:Part) (c:R.bJ):0<=R.jw p c/\R.jw p c<=999:=by
 unfold R.jw R.uY
 have h1:=Qx p.cons ⟨c.name,c.off⟩ (IntKind.u64.wrap (p.recs.length:Nat))
 have h2:=Cz p.prods (R.mV c)
 repeat' split
 all_goals first | omega | decide
theorem QF (p:Part) (c:R.bJ):0<=R.qO p c/\R.qO p c<=999:=by
 unfold R.qO R.un9
 have h1:=XY p c
 have h2:=UG p c
 have h3:=UE p.recs c.off
 repeat' split
 all_goals first | omega | decide
theorem abQ (x:Int):nO (IntKind.u64.wrap x):=by
 rw [Zd]
 exact ⟨by omega,by omega⟩
theorem ab8 {p:Part} (h:YE p) (o m:Int):Ac 64 AX (R.jd p.recs o m):=by
 have hl:(R.jd p.recs o m).length<=64:=by
  unfold R.jd R.xP
  rw [List.length_take]
  repeat' split
  all_goals omega
 refine ⟨by omega,by omega,fun x hx=>h.recs.ok x ?_⟩
 unfold R.jd at hx
 exact List.mem_of_mem_drop (List.mem_of_mem_take hx)
theorem TY {α:Type} {ok:α->Prop}:Ac 64 ok []:=⟨by simp,by simp,fun x hx=>absurd hx (by simp)⟩
theorem Nk {l:List P.Producer} (h:∀ x∈l,Dl x) (id:Int):Dl (P.findD l id):=by
 unfold P.findD
 cases hf:l.find? (P.has id) with
 | none=>exact ⟨jT,jT,jT⟩
 | some x=>exact h x (List.mem_of_find?_eq_some hf)
theorem Qm {l:List Con} (h:∀ x∈l,Z9 x) (s:ByteArray):nO (iK l s):=by
 unfold iK Go.Proofs.YtnbhdjadlbhknaaGreatDoor.Cq
 cases hf:l.find? fun x=>Dh x.name s with
 | none=>exact jT
 | some x=>exact (h x (List.mem_of_find?_eq_some hf)).o
end J
namespace R
open Go.Ax
end R
namespace J
open Go.Ax
theorem KD (a:R.gJ):pJ a a=true:=by
 have h:R.iy a.recs a.recs=true:=by simp [R.iy,R.gW,R.TU]
 simp [pJ,h]
structure QaR (p:Part) (w:List Int) (q:Part) (x:R.gJ):Prop where
 r:iq w
 k:Q.zJ p
 i:eO p
 o:0<=(lU w).1.off/\(lU w).1.off<18446744073709551616
 e1:q=R.dQ p (if (lU w).2=0 then (lU w).1 else default)
 e2:x=R.dX p (if (lU w).2=0 then (lU w).1 else default)
 u:A_ x
theorem J3 (e:Int) (h:jC e):A_ ⟨e,0,false,[]⟩:=⟨h,⟨by show (0:Int)<=0;decide,by show (0:Int)<_;decide⟩,⟨by show 0<=_;decide,by show (Q.eD []).length<=_;decide,fun k hk=>by cases hk⟩⟩
theorem aeK (p:Part) (w:List Int) (q:Part) (x:R.gJ) (h:QaR p w q x):(apR q x).Sat (au Tryz.prog 36 [.agg (aW true p),bn true w] []):=by
 obtain ⟨h1,h2,h3,h4,rfl,rfl,h7⟩:=h
 have he:=ah5 w
 obtain ⟨c,e,hc⟩:∃ c e,(c,e)=lU w:=⟨_,_,rfl⟩
 rw [<- hc] at h4 h7 he ⊢
 simp only at h4 h7 he ⊢
 obtain ⟨c',hc'⟩:∃ c',(if e=0 then c else default)=c':=⟨_,rfl⟩
 rw [hc'] at h7 ⊢
 unfold apR
 refine aR (ht:=aep p w c e (R.dQ p c') (R.dX p c')) Tryz.mixed rfl ?_
 rw [Sq p w c e (R.dQ p c') (R.dX p c') (R.dQ p c') (iL (R.dX p c'))]
 unfold YV
 have u1:=J3 165 ⟨by decide,by decide⟩
 have u2:=J3 161 ⟨by decide,by decide⟩
 cases k0:aX p
 · have d1:R.dQ p c'=default:=by unfold R.dQ R.TB;rw [if_pos k0]
   have d2:R.dX p c'=⟨165,0,false,[]⟩:=by unfold R.dX R.OG;rw [if_pos k0]
   rw [d1,d2]
   simp [h1,hc,h2,u1]
   have er:iL ⟨165,0,false,[]⟩=[202,2,0,0,0]:=by decide
   rw [er]
   exact ⟨⟨rfl,rfl,rfl,rfl,rfl,rfl,rfl⟩,rfl,aO _ _ _⟩
 · by_cases e0:e=0
   · rw [if_pos e0] at hc'
     subst hc'
     have hq:R.QoR p c (R.dQ p c) (R.dX p c):=⟨rfl,rfl,h2,h3,h4⟩
     subst e0
     simp [h1,hc,h2,hq,h7]
   · rw [if_neg e0] at hc'
     have e1:e=161:=by rcases he with h | h;exact absurd h e0;exact h
     have wd:R.bF (default:R.bJ)=false:=rfl
     have d1:R.dQ p c'=p:=by rw [<- hc'];unfold R.dQ R.TB;rw [if_neg (by simp [k0]),if_pos (.inl wd)]
     have d2:R.dX p c'=⟨161,0,false,[]⟩:=by rw [<- hc'];unfold R.dX R.OG;rw [if_neg (by simp [k0]),if_pos wd]
     rw [d1,d2]
     subst e1
     simp [h1,hc,h2,u2]
noncomputable def ahL (p:Part) (w:List Int) (q:Part) (x:R.gJ):dO Tryz.prog:=⟨36,[.agg (aW true p),bn true w],[],.need (QaR p w q x) (apR q x),T.Sat.need fun h=>aeK p w q x h⟩
def SH (c:R.bJ) (x:R.gJ) (p:Part) (b:List Int):List AV:=R.dV c++R.oJ x++aW true p++[bn true b]
noncomputable def blH (c:R.bJ) (x:R.gJ) (p:Part) (b:List Int) (d:R.bJ) (e:Int) (y:R.gJ) (h:Int) (q:Part) (j:Int) (s:Part) (z:R.gJ):aC Tryz.prog:=hh _ bB (cs1 9 1 0 R.agH (cs1 9 6 1 (wcC c) (cs1 9 6 4 (agG c) (cs1 9 6 9 (wxC x) (cs1 9 6 12 (Yr x) (cs1 9 6 18 (byC true p) (cs1 9 6 21 (Q.byC true p) (cs1 9 7 1 (rcC true b d e) (cs1 9 8 1 (afe b d e) (cs1 9 9 1 (rxC true b y h) (cs1 9 10 1 (agw b y h) (cs1 9 11 1 (rpC true b q j) (cs1 9 12 1 (ahm b q j) (cs1 9 13 2 (ag8 d) (cs1 9 14 2 (srC y y) (cs1 9 15 2 (R.afQ false false q q) (cs1 9 16 2 (apC true p b s z) (cs1 9 17 2 (ahL p b s z) (cs1 9 18 2 (R.afQ true true s s) bA))))))))))))))))))) bq
def o8 (y:R.gJ):Prop:=(y.err=y.err/\y.off=y.off/\y.old=y.old/\(true=true/\List.length y.recs=List.length y.recs/\ak (List.length y.recs) (5:Nat) (ah encR y.recs) (ah encR y.recs))/\True)
def adb (c:R.bJ) (x:R.gJ) (p:Part) (b:List Int) (d:R.bJ) (e:Int) (y:R.gJ) (h:Int) (q:Part) (j:Int) (s:Part) (z:R.gJ):Prop :=
 True/\True/\((R.ow c c)/\True)/\True/\R3 c/\(∀ (k:Nat),k<List.length (gT c)->true=true)/\((R.ow c c)/\True)/\True/\yV c/\(∀ (k:Nat),k<List.length (gT c)->true=true)/\((List.map (fun (a:AV)=>match match a with | AV.s (Value.int IntKind.u8 n)=>some n | AV.y (Value.int IntKind.u8 n)=>some n | x=>none with | some n=>UInt8.ofNat (Int.toNat n) | none=>(0:UInt8)) (List.map (fun (k:Nat)=>AV.y (Value.int IntKind.u8 (List.getD (gT c) k (0:Int)))) (List.range (List.length (gT c))))==List.map (fun (a:AV)=>match match a with | AV.s (Value.int IntKind.u8 n)=>some n | AV.y (Value.int IntKind.u8 n)=>some n | x=>none with | some n=>UInt8.ofNat (Int.toNat n) | none=>(0:UInt8)) (List.map (fun (k:Nat)=>AV.y (Value.int IntKind.u8 (List.getD (gT c) k (0:Int)))) (List.range (List.length (gT c)))))=true->((x.err=x.err/\x.off=x.off/\x.old=x.old/\(true=true/\List.length x.recs=List.length x.recs/\ak (List.length x.recs) (5:Nat) (ah encR x.recs) (ah encR x.recs))/\True)/\True)/\True/\BU x/\(∀ (k:Nat),k<List.length (iL x)->true=true)/\((x.err=x.err/\x.off=x.off/\x.old=x.old/\(true=true/\List.length x.recs=List.length x.recs/\ak (List.length x.recs) (5:Nat) (ah encR x.recs) (ah encR x.recs))/\True)/\True)/\True/\A_ x/\(∀ (k:Nat),k<List.length (iL x)->true=true)/\((List.map (fun (a:AV)=>match match a with | AV.s (Value.int IntKind.u8 n)=>some n | AV.y (Value.int IntKind.u8 n)=>some n | x=>none with | some n=>UInt8.ofNat (Int.toNat n) | none=>(0:UInt8)) (List.map (fun (k:Nat)=>AV.y (Value.int IntKind.u8 (List.getD (iL x) k (0:Int)))) (List.range (List.length (iL x))))==List.map (fun (a:AV)=>match match a with | AV.s (Value.int IntKind.u8 n)=>some n | AV.y (Value.int IntKind.u8 n)=>some n | x=>none with | some n=>UInt8.ofNat (Int.toNat n) | none=>(0:UInt8)) (List.map (fun (k:Nat)=>AV.y (Value.int IntKind.u8 (List.getD (iL x) k (0:Int)))) (List.range (List.length (iL x)))))=true->((bE true true p p)/\True)/\True/\PtU p/\(∀ (k:Nat),k<List.length (gQ p)->true=true)/\((bE true true p p)/\True)/\True/\Q.JV p/\(∀ (k:Nat),k<List.length (Q.fT p)->true=true)/\((dI b b)/\True)/\True/\iq b/\(d,e)=lU b/\((dI b b)/\True)/\True/\iq b/\(d,e)=lU b/\((dI b b)/\True)/\True/\iq b/\(y,h)=uh b/\((dI b b)/\True)/\True/\iq b/\(y,h)=uh b/\((dI b b)/\True)/\True/\iq b/\(q,j)=mI b/\((dI b b)/\True)/\True/\iq b/\(q,j)=mI b/\((R.ow d d)/\(R.ow d d)/\True)/\True/\((o8 y)/\(o8 y)/\True)/\True/\List.length y.recs<=(9223372036854775806:Nat)/\((bE false false q q)/\(bE false false q q)/\True)/\True/\eO q/\((bE true true p p)/\(dI b b)/\True)/\True/\ApR p b s z/\((bE true true p p)/\(dI b b)/\True)/\True/\QaR p b s z/\((bE true true s s)/\(bE true true s s)/\True)/\True/\eO s/\(true=true->((List.map (fun (a:AV)=>match match a with | AV.s (Value.int IntKind.u8 n)=>some n | AV.y (Value.int IntKind.u8 n)=>some n | x=>none with | some n=>UInt8.ofNat (Int.toNat n) | none=>(0:UInt8)) (List.map (fun (k:Nat)=>AV.y (Value.int IntKind.u8 (List.getD (gQ p) k (0:Int)))) (List.range (List.length (gQ p))))==List.map (fun (a:AV)=>match match a with | AV.s (Value.int IntKind.u8 n)=>some n | AV.y (Value.int IntKind.u8 n)=>some n | x=>none with | some n=>UInt8.ofNat (Int.toNat n) | none=>(0:UInt8)) (List.map (fun (k:Nat)=>AV.y (Value.int IntKind.u8 (List.getD (Q.fT p) ((0:Nat)+k) (0:Int)))) (List.range (List.length (Q.fT p)))))=true->(true=true->(pJ y y=true->(R.jD q q=true->(R.jD s s=true->((e==e)=true->((h==h)=true->((j==j)=true->(∀ (k:Nat),k<List.length (iL z)->true=true)/\(∀ (k:Nat),k<List.length (iL z)->true=true)/\(List.map (fun (a:AV)=>match match a with | AV.s (Value.int IntKind.u8 n)=>some n | AV.y (Value.int IntKind.u8 n)=>some n | x=>none with | some n=>UInt8.ofNat (Int.toNat n) | none=>(0:UInt8)) (List.map (fun (k:Nat)=>AV.y (Value.int IntKind.u8 (List.getD (iL z) k (0:Int)))) (List.range (List.length (iL z))))==List.map (fun (a:AV)=>match match a with | AV.s (Value.int IntKind.u8 n)=>some n | AV.y (Value.int IntKind.u8 n)=>some n | x=>none with | some n=>UInt8.ofNat (Int.toNat n) | none=>(0:UInt8)) (List.map (fun (k:Nat)=>AV.y (Value.int IntKind.u8 (List.getD (iL z) k (0:Int)))) (List.range (List.length (iL z)))))=true/\True)/\((j==j)=false->false=true/\True))/\((h==h)=false->false=true/\True))/\((e==e)=false->false=true/\True))/\(R.jD s s=false->false=true/\True))/\(R.jD q q=false->false=true/\True))/\(pJ y y=false->false=true/\True))/\(true=false->false=true/\True))/\((List.map (fun (a:AV)=>match match a with | AV.s (Value.int IntKind.u8 n)=>some n | AV.y (Value.int IntKind.u8 n)=>some n | x=>none with | some n=>UInt8.ofNat (Int.toNat n) | none=>(0:UInt8)) (List.map (fun (k:Nat)=>AV.y (Value.int IntKind.u8 (List.getD (gQ p) k (0:Int)))) (List.range (List.length (gQ p))))==List.map (fun (a:AV)=>match match a with | AV.s (Value.int IntKind.u8 n)=>some n | AV.y (Value.int IntKind.u8 n)=>some n | x=>none with | some n=>UInt8.ofNat (Int.toNat n) | none=>(0:UInt8)) (List.map (fun (k:Nat)=>AV.y (Value.int IntKind.u8 (List.getD (Q.fT p) ((0:Nat)+k) (0:Int)))) (List.range (List.length (Q.fT p)))))=false->false=true/\True))/\(true=false->false=true/\True))/\((List.map (fun (a:AV)=>match match a with | AV.s (Value.int IntKind.u8 n)=>some n | AV.y (Value.int IntKind.u8 n)=>some n | x=>none with | some n=>UInt8.ofNat (Int.toNat n) | none=>(0:UInt8)) (List.map (fun (k:Nat)=>AV.y (Value.int IntKind.u8 (List.getD (iL x) k (0:Int)))) (List.range (List.length (iL x))))==List.map (fun (a:AV)=>match match a with | AV.s (Value.int IntKind.u8 n)=>some n | AV.y (Value.int IntKind.u8 n)=>some n | x=>none with | some n=>UInt8.ofNat (Int.toNat n) | none=>(0:UInt8)) (List.map (fun (k:Nat)=>AV.y (Value.int IntKind.u8 (List.getD (iL x) k (0:Int)))) (List.range (List.length (iL x)))))=false->((dI b b)/\True)/\True/\iq b/\(d,e)=lU b/\((dI b b)/\True)/\True/\iq b/\(d,e)=lU b/\((dI b b)/\True)/\True/\iq b/\(y,h)=uh b/\((dI b b)/\True)/\True/\iq b/\(y,h)=uh b/\((dI b b)/\True)/\True/\iq b/\(q,j)=mI b/\((dI b b)/\True)/\True/\iq b/\(q,j)=mI b/\((R.ow d d)/\(R.ow d d)/\True)/\True/\((o8 y)/\(o8 y)/\True)/\True/\List.length y.recs<=(9223372036854775806:Nat)/\((bE false false q q)/\(bE false false q q)/\True)/\True/\eO q/\((bE true true p p)/\(dI b b)/\True)/\True/\ApR p b s z/\((bE true true p p)/\(dI b b)/\True)/\True/\QaR p b s z/\((bE true true s s)/\(bE true true s s)/\True)/\True/\eO s/\(true=true->false=true/\True)/\(true=false->false=true/\True)))/\((List.map (fun (a:AV)=>match match a with | AV.s (Value.int IntKind.u8 n)=>some n | AV.y (Value.int IntKind.u8 n)=>some n | x=>none with | some n=>UInt8.ofNat (Int.toNat n) | none=>(0:UInt8)) (List.map (fun (k:Nat)=>AV.y (Value.int IntKind.u8 (List.getD (gT c) k (0:Int)))) (List.range (List.length (gT c))))==List.map (fun (a:AV)=>match match a with | AV.s (Value.int IntKind.u8 n)=>some n | AV.y (Value.int IntKind.u8 n)=>some n | x=>none with | some n=>UInt8.ofNat (Int.toNat n) | none=>(0:UInt8)) (List.map (fun (k:Nat)=>AV.y (Value.int IntKind.u8 (List.getD (gT c) k (0:Int)))) (List.range (List.length (gT c)))))=false->((dI b b)/\True)/\True/\iq b/\(d,e)=lU b/\((dI b b)/\True)/\True/\iq b/\(d,e)=lU b/\((dI b b)/\True)/\True/\iq b/\(y,h)=uh b/\((dI b b)/\True)/\True/\iq b/\(y,h)=uh b/\((dI b b)/\True)/\True/\iq b/\(q,j)=mI b/\((dI b b)/\True)/\True/\iq b/\(q,j)=mI b/\((R.ow d d)/\(R.ow d d)/\True)/\True/\((o8 y)/\(o8 y)/\True)/\True/\List.length y.recs<=(9223372036854775806:Nat)/\((bE false false q q)/\(bE false false q q)/\True)/\True/\eO q/\((bE true true p p)/\(dI b b)/\True)/\True/\ApR p b s z/\((bE true true p p)/\(dI b b)/\True)/\True/\QaR p b s z/\((bE true true s s)/\(bE true true s s)/\True)/\True/\eO s/\(true=true->false=true/\True)/\(true=false->false=true/\True))
theorem X4 (c:R.bJ) (x:R.gJ) (p:Part) (b:List Int) (d:R.bJ) (e:Int) (y:R.gJ) (h:Int) (q:Part) (j:Int) (s:Part) (z:R.gJ):(aZ Tryz.prog (blH c x p b d e y h q j s z) 9 [.agg (SH c x p b)] [] (bM true))=adb c x p b d e y h q j s z:=by kernel_rfl
theorem Ro {p:Part} {c:R.bJ} (h:YE p) (hc:nO c.off):QI (R.Ca p c):=by
 have z0:jC 0:=⟨by decide,by decide⟩
 have n0:=TY (ok:=AX)
 have hl:=h.recs.n
 have hj:nO (P.dP p.prods c.prod c.seq):=by
  unfold P.dP
  repeat' split
  all_goals first | exact jT | skip
  exact (Nk h.prods.ok _).offset
 have hr:nO (iK p.cons c.name):=by
  exact Qm h.cons.ok _
 unfold R.Ca
 repeat' split
 all_goals first
  | exact ⟨z0,jT,n0⟩
  | exact ⟨z0,hc,n0⟩
  | exact ⟨z0,⟨by show (0:Int)<=(p.recs.length:Int);omega,by show (p.recs.length:Int)<_;omega⟩,n0⟩
  | exact ⟨z0,hj,n0⟩
  | exact ⟨z0,hr,n0⟩
  | exact ⟨z0,abQ _,ab8 h _ _⟩
theorem abu {p:Part} {c:R.bJ} (h:YE p) (hc:nO c.off):QI (R.dX p c):=by
 have n0:=TY (ok:=AX)
 have he:=QF p c
 unfold R.dX R.OG
 repeat' split
 all_goals first
  | exact ⟨⟨by show (-9223372036854775808:Int)<=R.qO p c;omega,by show R.qO p c<_;omega⟩,jT,n0⟩
  | exact ⟨⟨by show (-9223372036854775808:Int)<=_;decide,by decide⟩,jT,n0⟩
  | exact Ro h hc
theorem U8 {l:List Int} (h:iq l):nO (fZ l).1.off:=by
 have k0:=EY h.n h.b
 have k1:bL l (jr l default).2:=(bf k0).1
 have k2:=(bf k1).1
 unfold fZ
 repeat' split
 · exact jT
 · exact (bf k2).2
 · exact (bf (ng (most:=32) (bf (bf k2).1).1 rfl)).2
 · exact jT
 · exact jT
 · exact jT
theorem QS {w:List Int} (h:iq w):nO (lU w).1.off:=by
 unfold lU
 split
 · exact U8 h
 · exact jT
theorem adM {p:Part} {c:R.bJ} (hy:D.uf p) (ho:aX p=true):eO (R.dQ p c):=by
 obtain ⟨l1,l2,l3⟩:=R.JE ho
 have hm:∀ x:P.Producer,0<=x.offset->(P.aN p.prods x).length<=4611686018427387903/\∀ k,k<(P.aN p.prods x).length->0<=((P.aN p.prods x).getD k default).offset:=fun x hx=>by
  have e1:=P.GI p.prods x
  have e2:(P.iB p.prods x).length<=p.prods.length:=List.length_filter_le _ _
  refine ⟨by omega,fun k hk=>?_⟩
  rcases P.Rw (lu hk) with h | h
  · rw [h];exact hx
  · exact (hy.po _ h).1
 rcases R.R9 (c:=c) ho with e | ⟨_,_,_,⟨_,_,e⟩ | ⟨_,_,e⟩ | ⟨_,_,e⟩⟩
 · rw [e];exact hy.isIn
 · rw [e]
   obtain ⟨h1,h2⟩:=hm (R.mM p c) (by show (0:Int)<=(p.recs.length:Int);omega)
   exact ⟨by show (p.recs++[_]).length<=_;rw [List.length_append];show p.recs.length+1<=_;omega,h1,hy.cl,h2⟩
 · rw [e]
   obtain ⟨h1,h2⟩:=hm (R.mV c) (by show (0:Int)<=0;decide)
   have h3:=YB p.cons ⟨c.name,c.off⟩
   exact ⟨hy.rl,h1,by show (aN p.cons _).length<=_;omega,h2⟩
 · rw [e]
   exact ⟨hy.rl,hy.pl,hy.cl,hy.isIn.po⟩
theorem abE {l:List Int} (h:iq l):eO (mI l).1:=by
 unfold mI
 split
 · have k0:=EY h.n h.b
   have k1:=Jj k0
   have k3:=(bf (bf k1).1).1
   have k4:bL l (yL l).2:=uN (most:=4096) k3
   have c4:=count_le (most:=4096) k3
   have n4:=rY l (aK l (aB l (aB l (j_ l default).2).2).2 4096).1.toNat (aK l (aB l (aB l (j_ l default).2).2).2 4096).2 []
   have c5:(aK l (yL l).2 256).1<=max 256 0/\0<=(aK l (yL l).2 256).1:=count_le (most:=256) k4
   have k5:=(gI (most:=256) k4).1
   have k6:bL l (kg l (yL l).2).2:=zn (f:=eY l) (fun s h=>rz h) (aK l (yL l).2 256).1.toNat _ [] k5
   have c7:(aK l (kg l (yL l).2).2 64).1<=max 64 0/\0<=(aK l (kg l (yL l).2).2 64).1:=count_le (most:=64) k6
   have l6:(nV l).1.prods.length=([]:List P.Producer).length+(aK l (yL l).2 256).1.toNat:=rD (f:=eY l) _ _ []
   have l8:(nV l).1.cons.length=([]:List Con).length+(aK l (kg l (yL l).2).2 64).1.toNat:=rD (f:=iE l) _ _ []
   have po:=AL (Q:=fun x:P.Producer=>0<=x.offset) (f:=eY l) (fun s h=>⟨rz h,(bf (jG (bf (bf h).1).1)).2.lo⟩) (aK l (yL l).2 256).1.toNat _ [] k5 (fun x hx=>by cases hx)
   refine ⟨?_,?_,?_,fun k hk=>po _ (lu hk)⟩
   · show (kJ l _ _ []).1.length<=_
     simp at n4
     omega
   · show (nV l).1.prods.length<=_
     rw [l6]
     simp
     omega
   · show (nV l).1.cons.length<=_
     rw [l8]
     simp
     omega
 · exact ⟨by decide,by decide,by decide,fun k hk=>by cases hk⟩
end J
namespace D
open Go.Ax
def Bj (p:Part) (f:Int):Part:=⟨p.rng,p.epoch,f,p.recs,p.prods,p.cons⟩
end D
namespace Q
open Go.Ax H D
end Q
namespace Q
open Go.Ax H
end Q
namespace Q
open Go.Ax H D J
end Q
section
open Go.Ax Go.Shelf Go.RowKit Go.ChangeShapes Go.WideShapes Go.ChangeAt
def kL {K:Type}:DataW K->Int
 | .lit (.int _ a)=>a
 | _=>0
def toS {K:Type}:DataW K->ByteArray
 | .lit (.string l)=>⟨l.toArray⟩
 | _=>ByteArray.empty
def toB {K:Type}:DataW K->Bool
 | .lit (.bool b)=>b
 | _=>false
theorem gF {K:Type} {k:IntKind} {d:DataW K} (h:(Sh.int k).wf d):(Sh.int k).enc d=[.y (.int k (kL d))]:=by
 obtain ⟨k',n,rfl,_⟩:=h
 rfl
theorem sK {K:Type} {d:DataW K} (h:Sh.str.wf d):Sh.str.enc d=[.y (.string (toS d))]:=by
 obtain ⟨l,rfl,_⟩:=h
 rfl
theorem LH {K:Type} {d:DataW K} (h:Sh.bool.wf d):Sh.bool.enc d=[.y (.bool (toB d))]:=by
 obtain ⟨l,rfl⟩:=h
 rfl
theorem rF {K:Type} (fs:List Sh) (ds:List (DataW K)):(Sh.st fs).enc (.agg ds)=Sh.E5 fs ds:=by simp only [Sh.enc]
theorem lD {K:Type} (s:Sh) (r:List Sh) (d:DataW K) (ds:List (DataW K)):Sh.E5 (s::r) (d::ds)=s.enc d++Sh.E5 r ds:=by simp only [Sh.E5]
theorem nG {K:Type} (l:List (DataW K)):Sh.E5 [] l=[]:=by simp only [Sh.E5]
theorem ahA {P:Program} {W:World} {r:Reach} {base:Nat} {t:TypeId} {v:Value} {fs:Array Field} {l:List AV} {H:HH} {E:Env} (hu:P.underlying t=some (.struct fs)) (hv:Value.okWide P W r base t v) (h:aI l H E v.cells.toList):Rel (.agg l) H E v:=by
 obtain ⟨cs,rfl,_⟩:=okWide_struct hu hv
 exact ⟨cs,rfl,h⟩
theorem Tryz.own:ownKnob Tryz.prog.godebug=Option.none:=by kernel_rfl
theorem Tryz.laidOut:laidOutB Tryz.prog=true:=by kernel_rfl
theorem Tryz.mapsRowed:mapsRowed Tryz.prog=true:=by kernel_rfl
theorem Tryz.oo:oo Tryz.prog=true:=by kernel_rfl
theorem Oo:Tryz.prog.underlying 4=some .bool:=by kernel_rfl
def yw (P:Program) (t:TypeId):Option (List TypeId):=match P.underlying t with | some (.struct fs)=>some (fs.toList.map (·.type)) | _=>Option.none
theorem rC {P:Program} {t:TypeId} {l:List TypeId} (h:yw P t=some l):∃ fs,P.underlying t=some (.struct fs)/\fs.toList.map (·.type)=l:=by
 unfold yw at h
 split at h
 · rename_i fs hu
   exact ⟨fs,hu,Option.some.inj h⟩
 · cases h
def nX:Sh:=.st [.int .u64,.str,.sl (.int .u8),.int .u64,.int .u64]
def jy {K:Type}:DataW K->Rec
 | .agg [a,b,c,d,e]=>⟨kL a,toS b,bQ kL c,kL d,kL e⟩
 | _=>default
theorem acI {K:Type} {d:DataW K} (hd:(Sh.sl (.int .u8)).wf d) {H:HH} {E:Env} {v:Value} (h:Rel (wD (.int .u8) d) H E v):Rel (bn true (bQ kL d)) H E v:=FE (encA:=aD) (fun x hx=>gF hx) hd h
theorem Un {K:Type} {d:DataW K} (hd:nX.wf d):∃ a b c e f,d=.agg [a,b,c,e,f]/\(Sh.sl (.int .u8)).wf c/\nX.enc d=[.y (.int .u64 (kL a)),.y (.string (toS b)),wD (.int .u8) c,.y (.int .u64 (kL e)),.y (.int .u64 (kL f))]:=by
 obtain ⟨ds,rfl,d1,r1,rfl,w1,d2,r2,rfl,w2,d3,r3,rfl,w3,d4,r4,rfl,w4,d5,r5,rfl,w5,rfl⟩:=hd
 refine ⟨d1,d2,d3,d4,d5,rfl,w3,?_⟩
 simp only [nX,rF,lD,nG,gF w1,sK w2,wH,gF w4,gF w5]
 rfl
theorem Tk {K:Type} {d:DataW K} (hd:nX.wf d) (j:Nat) (hj:j<5) (H:HH) (E:Env) (v:Value) (h:Rel (Ax.get (nX.enc d) j) H E v):Rel (Ax.get (encR (jy d)) j) H E v:=by
 obtain ⟨a,b,c,e,f,rfl,wc,he⟩:=Un hd
 rw [he] at h
 match j,hj with
 | 0,_=>exact h
 | 1,_=>exact h
 | 2,_=>exact acI wc h
 | 3,_=>exact h
 | 4,_=>exact h
theorem aag {K:Type} {d:DataW K} (hd:(Sh.sl nX).wf d) {H:HH} {E:Env} {v:Value} (h:Rel (wD nX d) H E v):Rel (bZ true (bQ jy d)) H E v :=
 SE (encA:=encR) (fun x hx j hj H E v=>Tk hx j hj H E v) hd h
theorem aeJ:Tryz.prog.underlying 26=some (.slice 54):=by kernel_rfl
theorem fU:Tryz.prog.bytesOf 54=64:=by kernel_rfl
theorem TH {K:Type} {d:DataW K} (hw:(d.weights Tryz.prog 26).all (·<=reachBytes)=true):(bQ jy d).length*64<=140737488351232:=by
 have:=nR jy aeJ hw
 rwa [fU] at this
def tK:Sh:=.st [.str,.int .u64]
def toC {K:Type}:DataW K->Con
 | .agg [a,b]=>⟨toS a,kL b⟩
 | _=>default
theorem EL {K:Type} {d:DataW K} (h:(Sh.int .u64).wf d):Ls (kL d):=by
 obtain ⟨k,n,rfl,w⟩:=h
 have:=bounds_u64 w
 exact ⟨by show 0<=n;omega,by show n<_;omega⟩
theorem PO {K:Type} {d:DataW K} (h:tK.wf d):tK.enc d=aJ (toC d)/\Ls (toC d).off:=by
 obtain ⟨ds,rfl,d1,r1,rfl,w1,d2,r2,rfl,w2,rfl⟩:=h
 refine ⟨?_,EL w2⟩
 simp only [tK,rF,lD,nG,sK w1,gF w2]
 rfl
theorem Ut {K:Type} {d:DataW K} (h:(Sh.sl tK).wf d):wfC (bQ toC d):=by
 rcases h with rfl | ⟨xs,r,rfl,hx⟩
 · intro y hy;cases hy
 · intro y hy
   obtain ⟨x,hx',rfl⟩:=List.mem_map.1 hy
   exact (PO (hx x hx')).2
theorem aej {K:Type} {d:DataW K} (hd:(Sh.sl tK).wf d) {H:HH} {E:Env} {v:Value} (h:Rel (wD tK d) H E v):Rel (dR true (bQ toC d)) H E v:=FE (fun x hx=>(PO hx).1) hd h
theorem ae3:Tryz.prog.underlying 28=some (.slice 83):=by kernel_rfl
theorem xM:Tryz.prog.bytesOf 83=24:=by kernel_rfl
def tq:Sh:=.st [.int .u64,.int .u64,.bool,.int .u64]
def pK {K:Type}:DataW K->P.Producer
 | .agg [a,b,c,e]=>⟨kL a,kL b,toB c,kL e⟩
 | _=>default
theorem Ij {K:Type} {d:DataW K} (h:tq.wf d):tq.enc d=P.ay (pK d)/\Ls (pK d).offset:=by
 obtain ⟨ds,rfl,d1,r1,rfl,w1,d2,r2,rfl,w2,d3,r3,rfl,w3,d4,r4,rfl,w4,rfl⟩:=h
 refine ⟨?_,EL w4⟩
 simp only [tq,rF,lD,nG,gF w1,gF w2,LH w3,gF w4]
 rfl
theorem S9 {K:Type} {d:DataW K} (h:(Sh.sl tq).wf d):∀ x∈bQ pK d,0<=x.offset/\x.offset<18446744073709551616:=by
 rcases h with rfl | ⟨xs,r,rfl,hx⟩
 · intro y hy;cases hy
 · intro y hy
   obtain ⟨x,hx',rfl⟩:=List.mem_map.1 hy
   exact (Ij (hx x hx')).2
theorem aeM {K:Type} {d:DataW K} (hd:(Sh.sl tq).wf d) {H:HH} {E:Env} {v:Value} (h:Rel (wD tq d) H E v):Rel (P.bG true (bQ pK d)) H E v:=FE (fun x hx=>(Ij hx).1) hd h
theorem afF:Tryz.prog.underlying 27=some (.slice 80):=by kernel_rfl
theorem aaM:Tryz.prog.bytesOf 80=32:=by kernel_rfl
def Lc:Sh:=.st [.str,.str]
def Lr {K:Type}:DataW K->kW
 | .agg [a,b]=>⟨toS a,toS b⟩
 | _=>default
theorem O8 {K:Type} {d:DataW K} (h:Lc.wf d):Lc.enc d=nN (Lr d):=by
 obtain ⟨ds,rfl,d1,r1,rfl,w1,d2,r2,rfl,w2,rfl⟩:=h
 simp only [Lc,rF,lD,nG,sK w1,sK w2]
 rfl
def oZ:Sh:=.st [Lc,.int .u64,.int .u64,.sl nX,.sl tq,.sl tK]
def ru {K:Type}:DataW K->Part
 | .agg [a,b,c,e,f,g]=>⟨Lr a,kL b,kL c,bQ jy e,bQ pK f,bQ toC g⟩
 | _=>default
theorem Wu {K:Type} {d:DataW K} (hd:oZ.wf d) {H:HH} {E:Env} {vs:List Value} (h:aI (oZ.enc d) H E vs):aI (aW true (ru d)) H E vs:=by
 obtain ⟨ds,rfl,d1,r1,rfl,w1,d2,r2,rfl,w2,d3,r3,rfl,w3,d4,r4,rfl,w4,d5,r5,rfl,w5,d6,r6,rfl,w6,rfl⟩:=hd
 have e:oZ.enc (DataW.agg [d1,d2,d3,d4,d5,d6])=[.y (.string (Lr d1).lo),.y (.string (Lr d1).hi),.y (.int .u64 (kL d2)),.y (.int .u64 (kL d3)),wD nX d4,wD tq d5,wD tK d6]:=by
  simp only [oZ,rF,lD,nG,wH,O8 w1,gF w2,gF w3]
  rfl
 rw [e] at h
 obtain ⟨v1,x1,rfl,h1,v2,x2,rfl,h2,v3,x3,rfl,h3,v4,x4,rfl,h4,v5,x5,rfl,h5,v6,x6,rfl,h6,v7,x7,rfl,h7,rfl⟩:=h
 exact ⟨_,_,rfl,h1,_,_,rfl,h2,_,_,rfl,h3,_,_,rfl,h4,_,_,rfl,aag w4 h5,_,_,rfl,aeM w5 h6,_,_,rfl,aej w6 h7,rfl⟩
theorem Xm:∃ fs,Tryz.prog.underlying 30=some (.struct fs)/\fs.toList.map (·.type)=[24,25,25,26,27,28]:=rC (by kernel_rfl)
structure Tw (p:Part):Prop where
 rl:p.recs.length*64<=140737488351232
 pl:p.prods.length*32<=140737488351232
 cl:p.cons.length*24<=140737488351232
 po:∀ x∈p.prods,0<=x.offset/\x.offset<18446744073709551616
 co:wfC p.cons
theorem Um {K:Type} {d:DataW K} (hd:oZ.wf d) (hw:(d.weights Tryz.prog 30).all (·<=reachBytes)=true):Tw (ru d):=by
 obtain ⟨ds,rfl,d1,r1,rfl,w1,d2,r2,rfl,w2,d3,r3,rfl,w3,d4,r4,rfl,w4,d5,r5,rfl,w5,d6,r6,rfl,w6,rfl⟩:=hd
 obtain ⟨fs,hf,ht⟩:=Xm
 have h:=qW hf hw
 rw [ht] at h
 obtain ⟨h1,h⟩:=fP h
 obtain ⟨h2,h⟩:=fP h
 obtain ⟨h3,h⟩:=fP h
 obtain ⟨h4,h⟩:=fP h
 obtain ⟨h5,h⟩:=fP h
 obtain ⟨h6,h⟩:=fP h
 have k5:=nR pK afF h5
 have k6:=nR toC ae3 h6
 rw [aaM] at k5
 rw [xM] at k6
 exact ⟨TH h4,k5,k6,S9 w5,Ut w6⟩
end
namespace Q
open Go.Ax Go.Shelf Go.RowKit Go.ChangeShapes Go.WideShapes Go.ChangeAt D J
structure Sml (p:Part):Prop where
 lo:p.rng.lo.size<=1048576
 hi:p.rng.hi.size<=1048576
 ep:dL p.epoch
 fr:dL p.frozen
 rn:p.recs.length<=1048576
 pn:p.prods.length<=1048576
 cn:p.cons.length<=1048576
 rv:∀ x∈p.recs,(dL x.off/\dL x.prod/\dL x.seq)/\x.key.size<=1048576/\x.val.length<=1048576
 pv:∀ x∈p.prods,dL x.id/\dL x.seq/\dL x.offset
 cv:∀ x∈p.cons,x.name.size<=1048576/\dL x.off
theorem Bg {α:Type} (f:α->List Int) (c:Nat):∀ l:List α,(∀ x∈l,(f x).length<=c)->(l.flatMap f).length<=l.length*c:=by
 intro l
 induction l with
 | nil=>intro _;simp
 | cons x l ih =>
   intro h
   have h1:=h x (by simp)
   have h2:=ih fun y hy=>h y (by simp [hy])
   rw [List.flatMap_cons,List.length_append,List.length_cons,Nat.succ_mul]
   omega
theorem J6 {α:Type} [Inhabited α] {l:List α} {k:Nat} (h:k<l.length):l.getD k default∈l:=by
 simp [h]
theorem WX {x:Rec} (h1:x.key.size<=1048576) (h2:x.val.length<=1048576):(g_ x).length<=2097300:=by
 have a1:=bD (aM x.key)
 have a2:=bD x.val
 have a3:=aG x.off
 have a4:=aG x.prod
 have a5:=aG x.seq
 have b1:=dF x.key
 simp only [g_,List.length_append]
 omega
theorem uQ {l:List Rec} (hn:l.length<=1048576) (h:∀ x∈l,x.key.size<=1048576/\x.val.length<=1048576):(eD l).length<=2199200000000:=by
 have h1:=Bg g_ 2097300 l fun x hx=>WX (h x hx).1 (h x hx).2
 have h2:=Nat.mul_le_mul_right 2097300 hn
 have h3:=aG (l.length:Int)
 simp only [eD,List.length_append]
 omega
theorem Le {p:Part} (h:Sml p):(fT p).length<=70368744177664:=by
 have h1:=uQ h.rn fun x hx=>(h.rv x hx).2
 have h2:=Bg kN 40 p.prods fun x _=>by
  have a1:=aG x.id
  have a2:=aG x.seq
  have a3:=aG x.offset
  have a4:(iW x.here).length=1:=rfl
  simp only [kN,List.length_append]
  omega
 have h3:=Bg pR 1048700 p.cons fun x hx=>by
  have a1:=aG x.off
  have a2:=bD (aM x.name)
  have a3:=dF x.name
  have a4:=(h.cv x hx).1
  simp only [pR,List.length_append]
  omega
 have h4:=Nat.mul_le_mul_right 40 h.pn
 have h5:=Nat.mul_le_mul_right 1048700 h.cn
 have a1:=bD (aM p.rng.lo)
 have a2:=bD (aM p.rng.hi)
 have b1:=dF p.rng.lo
 have b2:=dF p.rng.hi
 have c1:=h.lo
 have c2:=h.hi
 have a3:=aG p.epoch
 have a4:=aG p.frozen
 have a5:=aG (p.prods.length:Int)
 have a6:=aG (p.cons.length:Int)
 simp only [fT,nC,jk,Jh,eu,List.length_append,List.take_length]
 omega
theorem aga {p:Part} (h:Sml p):JV p where
 rg:=⟨by have:=h.lo;omega,by have:=h.hi;omega⟩
 ep:=h.ep
 fr:=h.fr
 ls:=⟨by have:=h.rn;omega,by have:=uQ h.rn fun x hx=>(h.rv x hx).2;omega,fun k hk=>by
  obtain ⟨⟨h1,h2,h3⟩,h4,h5⟩:=h.rv _ (J6 hk)
  exact ⟨h1,h2,h3,by omega,by omega⟩⟩
 pn:=by have:=h.pn;omega
 cn:=by have:=h.cn;omega
 n:=Le h
 pr:=fun k hk=>h.pv _ (J6 hk)
 co:=fun k hk=>by
  obtain ⟨h1,h2⟩:=h.cv _ (J6 hk)
  exact ⟨by omega,h2⟩
theorem oV {K:Type} {d:DataW K} (h:(Sh.int .u64).wf d):dL (kL d):=by
 obtain ⟨h0,h1⟩:=EL h
 exact ⟨h0,h1⟩
theorem BA {H:Type} (d:DataW H):1<=Rows.uptoBulk d:=by
 cases d with
 | lit l=>cases l<;>simp [Rows.uptoBulk]
 | nil=>simp [Rows.uptoBulk]
 | ptr d=>simp [Rows.uptoBulk]
 | slice elems spare=>simp [Rows.uptoBulk]
 | agg parts=>simp [Rows.uptoBulk]
 | iface t d=>simp [Rows.uptoBulk]
 | map entries=>simp [Rows.uptoBulk]
 | held h=>simp [Rows.uptoBulk]
theorem nZ {H:Type} {d:DataW H} {l:List (DataW H)} (h:d∈l):Rows.uptoBulk d<=Rows.uptoBulkAll l:=by
 induction l with
 | nil=>cases h
 | cons x r ih =>
   simp only [Rows.uptoBulkAll]
   cases List.mem_cons.1 h with
   | inl e=>subst e;omega
   | inr e=>have:=ih e;omega
theorem zI {H:Type} (l:List (DataW H)):l.length<=Rows.uptoBulkAll l:=by
 induction l with
 | nil=>simp [Rows.uptoBulkAll]
 | cons x r ih=>have:=BA x;simp only [Rows.uptoBulkAll,List.length_cons];omega
theorem jm {K α:Type} (to:DataW K->α) (d:DataW K):(bQ to d).length<=Rows.uptoBulk d:=by
 cases d with
 | slice elems spare =>
   have:=zI elems
   simp only [Rows.uptoBulk,bQ,List.length_map]
   omega
 | _=>simp [bQ]
theorem eZ {H:Type} {d:DataW H} {l:List (DataW H)} (h:d∈l):Rows.uptoBulk d<=Rows.uptoBulk (DataW.agg l):=by
 have:=nZ h
 simp only [Rows.uptoBulk]
 omega
theorem kF {K:Type} {d:DataW K} (h:Sh.str.wf d):(toS d).size<=Rows.uptoBulk d:=by
 obtain ⟨l,rfl,_⟩:=h
 show (toS (DataW.lit (.string l))).size<=_
 simp only [toS,Rows.uptoBulk]
 first | omega | (simp [ByteArray.size]) | skip
theorem mem_of {K α:Type} {e:Sh} {to:DataW K->α} {Q:α->Prop} {M:Nat} (h:∀ d,e.wf d->Rows.uptoBulk d<=M->Q (to d)) {d:DataW K} (hd:(Sh.sl e).wf d) (hb:Rows.uptoBulk d<=M):∀ x∈bQ to d,Q x:=by
 rcases hd with rfl | ⟨xs,r,rfl,hx⟩
 · intro y hy;cases hy
 · intro y hy
   obtain ⟨x,hx',rfl⟩:=List.mem_map.1 hy
   refine h x (hx x hx') (Nat.le_trans ?_ hb)
   have:=nZ hx'
   simp only [Rows.uptoBulk]
   omega
theorem uK {K:Type} (d:DataW K) (h:nX.wf d) (hb:Rows.uptoBulk d<=1048576):(dL (jy d).off/\dL (jy d).prod/\dL (jy d).seq)/\(jy d).key.size<=1048576/\(jy d).val.length<=1048576:=by
 obtain ⟨ds,rfl,d1,r1,rfl,w1,d2,r2,rfl,w2,d3,r3,rfl,w3,d4,r4,rfl,w4,d5,r5,rfl,w5,rfl⟩:=h
 exact ⟨⟨oV w1,oV w4,oV w5⟩,Nat.le_trans (kF w2) (Nat.le_trans (eZ (by simp)) hb),Nat.le_trans (jm kL d3) (Nat.le_trans (eZ (by simp)) hb)⟩
theorem aaC {K:Type} (d:DataW K) (h:tq.wf d) (_:Rows.uptoBulk d<=1048576):dL (pK d).id/\dL (pK d).seq/\dL (pK d).offset:=by
 obtain ⟨ds,rfl,d1,r1,rfl,w1,d2,r2,rfl,w2,d3,r3,rfl,w3,d4,r4,rfl,w4,rfl⟩:=h
 exact ⟨oV w1,oV w2,oV w4⟩
theorem abg {K:Type} (d:DataW K) (h:tK.wf d) (hb:Rows.uptoBulk d<=1048576):(toC d).name.size<=1048576/\dL (toC d).off:=by
 obtain ⟨ds,rfl,d1,r1,rfl,w1,d2,r2,rfl,w2,rfl⟩:=h
 exact ⟨Nat.le_trans (kF w1) (Nat.le_trans (eZ (by simp)) hb),oV w2⟩
theorem abk {K:Type} {d:DataW K} (h:oZ.wf d) (hb:Rows.uptoBulk d<=1048576):Sml (ru d):=by
 obtain ⟨ds,rfl,d1,r1,rfl,w1,d2,r2,rfl,w2,d3,r3,rfl,w3,d4,r4,rfl,w4,d5,r5,rfl,w5,d6,r6,rfl,w6,rfl⟩:=h
 have b1:=Nat.le_trans (eZ (d:=d1) (l:=[d1,d2,d3,d4,d5,d6]) (by simp)) hb
 have b4:=Nat.le_trans (eZ (d:=d4) (l:=[d1,d2,d3,d4,d5,d6]) (by simp)) hb
 have b5:=Nat.le_trans (eZ (d:=d5) (l:=[d1,d2,d3,d4,d5,d6]) (by simp)) hb
 have b6:=Nat.le_trans (eZ (d:=d6) (l:=[d1,d2,d3,d4,d5,d6]) (by simp)) hb
 obtain ⟨es,rfl,e1,t1,rfl,v1,e2,t2,rfl,v2,rfl⟩:=w1
 exact ⟨Nat.le_trans (kF v1) (Nat.le_trans (eZ (l:=[e1,e2]) (by simp)) b1),Nat.le_trans (kF v2) (Nat.le_trans (eZ (l:=[e1,e2]) (by simp)) b1),oV w2,oV w3,
  Nat.le_trans (jm jy d4) b4,Nat.le_trans (jm pK d5) b5,Nat.le_trans (jm toC d6) b6,
  mem_of (to:=jy) (Q:=fun x=>(dL x.off/\dL x.prod/\dL x.seq)/\x.key.size<=1048576/\x.val.length<=1048576) uK w4 b4,
  mem_of (to:=pK) (Q:=fun x=>dL x.id/\dL x.seq/\dL x.offset) aaC w5 b5,
  mem_of (to:=toC) (Q:=fun x=>x.name.size<=1048576/\dL x.off) abg w6 b6⟩
theorem aeN {p:Part} (h:Tw p):uf p:=by
 obtain ⟨h1,h2,h3,h4,h5⟩:=h
 exact ⟨by omega,by omega,by omega,h4,h5⟩
end Q
namespace J
open Go.Ax
theorem L9 (p:Part):Q.fT p=gQ p:=by
 have e1:Q.eD p.recs=gy p.recs:=rfl
 have e2:(Q.kN:P.Producer->List Int)=kN:=rfl
 have e3:(Q.pR:Con->List Int)=pR:=rfl
 have e4:Q.eu p.rng=eu p.rng:=rfl
 unfold Q.fT Q.nC Q.jk Q.Jh gQ Jh nM Bv
 rw [e1,e2,e3,e4,List.take_length,List.take_length]
 simp only [List.append_assoc]
structure adh (x:Rec):Prop where
 u:Q.dL x.off/\Q.dL x.prod/\Q.dL x.seq
 k:x.key.size<=1048576
 v:x.val.length<=1048576
theorem TG {l:List Rec} (hn:l.length<=1048576) (h:∀ x∈l,adh x):Q.FW l:=by
 have hb:=Q.uQ hn fun x hx=>⟨(h x hx).k,(h x hx).v⟩
 refine ⟨by omega,by omega,fun k hk=>?_⟩
 have hx:=h _ (lu hk)
 exact ⟨hx.u.1,hx.u.2.1,hx.u.2.2,by have:=hx.k;omega,by have:=hx.v;omega⟩
theorem tu {v:Int} (h:nO v):Q.dL v:=⟨h.lo,h.hi⟩
theorem abt {v:Int} (h:Q.dL v):nO v:=⟨h.v0,h.v1⟩
theorem adR {x:R.gJ} (h:QI x):A_ x:=by
 have hn:=h.recs.n
 refine ⟨h.err,tu h.off,TG (by omega) fun y hy=>?_⟩
 have:=h.recs.ok y hy
 exact ⟨⟨tu this.u.off,tu this.u.prod,tu this.u.seq⟩,by have:=this.k;omega,by have:=this.v;omega⟩
theorem agV:BU ⟨165,0,false,[]⟩:=⟨⟨by decide,by decide⟩,jT,(fun k hk=>by cases hk),⟨by show (iL ⟨165,0,false,[]⟩).length+200<=_;decide⟩⟩
def Qw (w:List Int):R.bJ:=if (lU w).2=0 then (lU w).1 else default
theorem ab1 {p:Part} {b:List Int} (hp:PtT p) (hy:D.uf p) (hk:Q.zJ p) (hb:iq b):ApR p b (R.dQ p (Qw b)) (R.dX p (Qw b))/\QaR p b (R.dQ p (Qw b)) (R.dX p (Qw b))/\eO (R.dQ p (Qw b)):=by
 have of:=QS hb
 have oc:nO (Qw b).off:=by
  unfold Qw
  split
  · exact of
  · exact jT
 cases ho:aX p
 · have d1:R.dQ p (Qw b)=default:=by unfold R.dQ R.TB;rw [if_pos ho]
   have d2:R.dX p (Qw b)=⟨165,0,false,[]⟩:=by unfold R.dX R.OG;rw [if_pos ho]
   have u1:=J3 165 ⟨by decide,by decide⟩
   refine ⟨⟨hb,hy.isIn,⟨of.lo,of.hi⟩,rfl,rfl,?_⟩,⟨hb,hk,hy.isIn,⟨of.lo,of.hi⟩,rfl,rfl,?_⟩,?_⟩
   · rw [d2];exact agV
   · rw [d2];exact u1
   · rw [d1];exact ⟨by decide,by decide,by decide,fun k hk=>by cases hk⟩
 · have hx:=abu (aer hp ho) oc
   exact ⟨⟨hb,hy.isIn,⟨of.lo,of.hi⟩,rfl,rfl,afn hx⟩,⟨hb,hk,hy.isIn,⟨of.lo,of.hi⟩,rfl,rfl,adR hx⟩,adM hy ho⟩
theorem acA {l:List Int} (h:iq l):(uh l).1.recs.length<=64:=by
 unfold uh
 split
 · have k3:=jG (bf (bf (EY h.n h.b)).1).1
   have hc:=count_le (most:=64) k3
   have:=rY l (aK l (dM l (aB l (jr l default).2).2).2 64).1.toNat (aK l (dM l (aB l (jr l default).2).2).2 64).2 []
   show (kJ l _ _ []).1.length<=64
   simp at this
   have e:(jr l default).2=(aB l default).2:=rfl
   rw [<- e] at hc
   refine Nat.le_trans this ?_
   omega
 · show (0:Nat)<=64
   omega
structure Zr (c:R.bJ) (x:R.gJ) (p:Part) (b:List Int):Prop where
 c1:R3 c
 c2:yV c
 x1:BU x
 x2:A_ x
 p1:PtU p
 p2:Q.JV p
 t:PtT p
 y:D.uf p
 k:Q.zJ p
 b1:iq b
theorem ahQ (c:R.bJ) (x:R.gJ) (p:Part) (b:List Int) (h:Zr c x p b):(bM true).Sat (au Tryz.prog 9 [.agg (SH c x p b)] []):=by
 obtain ⟨h1,h2,h3,h4,h5,h6,h7,h8,h9,h10⟩:=h
 obtain ⟨d,e,e1⟩:∃ d e,(d,e)=lU b:=⟨_,_,rfl⟩
 obtain ⟨y,f,e2⟩:∃ d e,(d,e)=uh b:=⟨_,_,rfl⟩
 obtain ⟨q,j,e3⟩:∃ d e,(d,e)=mI b:=⟨_,_,rfl⟩
 obtain ⟨a1,a2,a3⟩:=ab1 h7 h8 h9 h10
 have l2:=acA h10
 rw [<- e2] at l2
 have l3:=abE h10
 rw [<- e3] at l3
 simp only at l2 l3
 generalize R.dQ p (Qw b)=s at a1 a2 a3
 generalize R.dX p (Qw b)=z at a1 a2
 have l2':y.recs.length<=9223372036854775806:=by omega
 have s1:=R.Dg q
 have s2:=R.Dg s
 have s3:=KD y
 refine aR (ht:=blH c x p b d e y f q j s z) Tryz.mixed rfl ?_
 rw [X4 c x p b d e y f q j s z]
 unfold adb o8
 simp only [L9,Nat.zero_add,h1,h2,h3,h4,h5,h6,h10,e1,e2,e3,a1,a2,a3,l2',l3,s1,s2,s3,aO,beq_self_eq_true]
 simp
end J
section
open Go.Ax Go.Shelf Go.RowKit Go.ChangeShapes Go.WideShapes Go.ChangeAt
def EN:Sh:=.st [.int .i64,.int .u64,.int .u64,.int .u64,.str,.sl (.int .u8),.int .u64,.int .i64,.str,.int .u64]
def RD {K:Type}:DataW K->R.bJ
 | .agg [a,b,c,d,e,f,g,h,i,j]=>⟨kL a,kL b,kL c,kL d,toS e,bQ kL f,kL g,kL h,toS i,kL j⟩
 | _=>default
theorem aa2 {K:Type} {d:DataW K} (hd:EN.wf d):∃ a1 a2 a3 a4 a5 a6 a7 a8 a9 a10,d=.agg [a1,a2,a3,a4,a5,a6,a7,a8,a9,a10]/\(Sh.sl (.int .u8)).wf a6/\(Sh.int .u64).wf a7/\EN.enc d=[.y (.int .i64 (kL a1)),.y (.int .u64 (kL a2)),.y (.int .u64 (kL a3)),.y (.int .u64 (kL a4)),.y (.string (toS a5)),wD (.int .u8) a6,.y (.int .u64 (kL a7)),.y (.int .i64 (kL a8)),.y (.string (toS a9)),.y (.int .u64 (kL a10))]:=by
 obtain ⟨ds,rfl,d1,r1,rfl,w1,d2,r2,rfl,w2,d3,r3,rfl,w3,d4,r4,rfl,w4,d5,r5,rfl,w5,d6,r6,rfl,w6,d7,r7,rfl,w7,d8,r8,rfl,w8,d9,r9,rfl,w9,d10,r10,rfl,w10,rfl⟩:=hd
 refine ⟨d1,d2,d3,d4,d5,d6,d7,d8,d9,d10,rfl,w6,w7,?_⟩
 simp only [EN,rF,lD,nG,gF w1,gF w2,gF w3,gF w4,sK w5,wH,gF w7,gF w8,sK w9,gF w10]
 rfl
theorem abT:Tryz.prog.globalNamed "errors.errorType" = some 0:=by kernel_rfl
theorem acf:(Tryz.prog.cutTypes.find? (·.1 == "internal/reflectlite.rtype")).map (·.2)=some 191:=by kernel_rfl
theorem acu:((List.range Tryz.prog.types.size).filter fun t=>Tryz.prog.rowNamed t [101,114,114,111,114])=[74]:=by kernel_rfl
theorem afu {laid:List (String×DataW Unit)} {W:World} (hf:(laid.filter fun x=>x.2.handleName?.isSome)=[("errors.errorType",Rows.laid_errors_errorType)]) (h:laidMetH Tryz.prog laid W):adO W:=by
 unfold laidMetH at h
 rw [hf] at h
 obtain ⟨name,u,ty,e1,e2,e3,e4,e5⟩:=h.2 _ (List.mem_singleton.2 rfl)
 have en:name=[101,114,114,111,114]:=(Option.some.inj e1).symm
 subst en
 obtain rfl:=Option.some.inj (acf.symm.trans e2)
 have hm:ty∈(List.range Tryz.prog.types.size).filter fun t=>Tryz.prog.rowNamed t [101,114,114,111,114]:=List.mem_filter.2 ⟨List.mem_range.2 e3,e4⟩
 rw [acu] at hm
 obtain rfl:=List.mem_singleton.1 hm
 have hc:=World.var?_cell abT e5 0
 intro p hp
 obtain rfl:=List.mem_singleton.1 hp
 exact ⟨by kernel_rfl,hc⟩
noncomputable def X9 (os:Os):World :=
 { World.holding Tryz.prog os ⟨#[],#[],[]⟩ with heap:=(World.holding Tryz.prog os ⟨#[],#[],[]⟩).heap.modify 0 fun
  | .cells _ t frozen=>.cells #[.iface 191 (.agg #[typeHandle Tryz.prog 74])] t frozen
  | o=>o }
theorem Gi {P:Program} {w0:World} {laid:List (String×DataW Unit)} (args:Array Value) (hf:w0.layFits P laid []=true) (hi:w0.layIfaces P laid (w0.layVars P laid)=true) :
 laidMet P laid ((w0.layVars P laid).forCall (fun _ _=>0) ⟨#[],args,[]⟩).memory:=by
 have e1:(laid.filter fun x=>(laid.map (·.1)).contains x.1)=laid:=List.filter_eq_self.2 fun x hx=>List.contains_iff_mem.2 (List.mem_map.2 ⟨x,hx,rfl⟩)
 have e2:(laid.filter fun x=>!(laid.map (·.1)).contains x.1)=[]:=List.filter_eq_nil_iff.2 fun x hx=>by rw [List.contains_iff_mem.2 (List.mem_map.2 ⟨x,hx,rfl⟩)];simp
 have h:laidMet P laid (w0.layVars P laid):=laidMet_layVars (w0:=w0) (laid.map (·.1)) [] (by rw [e1]) (by rw [e1];exact hf) (by rw [e1];exact hi) (by rw [e2];exact LaidIn.none)
 exact h.of_heap (by simp [World.memory,World.forCall,Input.heap])
end
namespace J
open Go.Ax Go.Shelf Go.RowKit Go.ChangeShapes Go.WideShapes Go.ChangeAt
theorem gY {K:Type} {d:DataW K} (h:(Sh.int .u64).wf d):nO (kL d):=by
 obtain ⟨h0,h1⟩:=EL h
 exact ⟨h0,h1⟩
theorem wS {K:Type} {d:DataW K} (h:(Sh.int .i64).wf d):jC (kL d):=by
 obtain ⟨k,n,rfl,w⟩:=h
 have:=bounds_i64 w
 exact ⟨by show _<=n;omega,by show n<_;omega⟩
theorem afW {K:Type} {d:DataW K} (h:(Sh.int .u8).wf d):0<=kL d/\kL d<256:=by
 obtain ⟨k,n,rfl,w⟩:=h
 have:=bounds_u8 w
 exact ⟨by show 0<=n;omega,by show n<_;omega⟩
theorem QW {K:Type} {d:DataW K} (h:(Sh.sl (.int .u8)).wf d):Bytes (bQ kL d):=by
 rcases h with rfl | ⟨xs,r,rfl,hx⟩
 · exact Bytes.nil
 · exact ⟨fun y hy=>by
    obtain ⟨x,hx',rfl⟩:=List.mem_map.1 hy
    exact afW (hx x hx')⟩
theorem mem_of {K α:Type} {e:Sh} {to:DataW K->α} {Q:α->Prop} (h:∀ d,e.wf d->Q (to d)) {d:DataW K} (hd:(Sh.sl e).wf d):∀ x∈bQ to d,Q x:=by
 rcases hd with rfl | ⟨xs,r,rfl,hx⟩
 · intro y hy;cases hy
 · intro y hy
   obtain ⟨x,hx',rfl⟩:=List.mem_map.1 hy
   exact h x (hx x hx')
theorem ace {K:Type} {d:DataW K} (h:nX.wf d):FL (jy d)/\Bytes (jy d).val:=by
 obtain ⟨ds,rfl,d1,r1,rfl,w1,d2,r2,rfl,w2,d3,r3,rfl,w3,d4,r4,rfl,w4,d5,r5,rfl,w5,rfl⟩:=h
 exact ⟨⟨gY w1,gY w4,gY w5⟩,QW w3⟩
theorem acz {K:Type} {d:DataW K} (h:tq.wf d):Dl (pK d):=by
 obtain ⟨ds,rfl,d1,r1,rfl,w1,d2,r2,rfl,w2,d3,r3,rfl,w3,d4,r4,rfl,w4,rfl⟩:=h
 exact ⟨gY w1,gY w2,gY w4⟩
theorem ab4 {K:Type} {d:DataW K} (h:tK.wf d):nO (toC d).off:=by
 obtain ⟨ds,rfl,d1,r1,rfl,w1,d2,r2,rfl,w2,rfl⟩:=h
 exact gY w2
theorem aeW {K:Type} {d:DataW K} (h:oZ.wf d):PtT (ru d):=by
 obtain ⟨ds,rfl,d1,r1,rfl,w1,d2,r2,rfl,w2,d3,r3,rfl,w3,d4,r4,rfl,w4,d5,r5,rfl,w5,d6,r6,rfl,w6,rfl⟩:=h
 exact ⟨gY w2,gY w3,mem_of (to:=jy) (Q:=fun x=>FL x/\Bytes x.val) (fun d=>ace) w4,mem_of (fun d=>acz) w5,mem_of (to:=toC) (Q:=fun x=>nO x.off) (fun d=>ab4) w6⟩
theorem BA {H:Type} (d:DataW H):1<=Rows.uptoBulk d:=by
 cases d with
 | lit l=>cases l<;>simp [Rows.uptoBulk]
 | nil=>simp [Rows.uptoBulk]
 | ptr d=>simp [Rows.uptoBulk]
 | slice elems spare=>simp [Rows.uptoBulk]
 | agg parts=>simp [Rows.uptoBulk]
 | iface t d=>simp [Rows.uptoBulk]
 | map entries=>simp [Rows.uptoBulk]
 | held h=>simp [Rows.uptoBulk]
theorem nZ {H:Type} {d:DataW H} {l:List (DataW H)} (h:d∈l):Rows.uptoBulk d<=Rows.uptoBulkAll l:=by
 induction l with
 | nil=>cases h
 | cons x r ih =>
   simp only [Rows.uptoBulkAll]
   cases List.mem_cons.1 h with
   | inl e=>subst e;omega
   | inr e=>have:=ih e;omega
theorem zI {H:Type} (l:List (DataW H)):l.length<=Rows.uptoBulkAll l:=by
 induction l with
 | nil=>simp [Rows.uptoBulkAll]
 | cons x r ih=>have:=BA x;simp only [Rows.uptoBulkAll,List.length_cons];omega
theorem jm {K α:Type} (to:DataW K->α) (d:DataW K):(bQ to d).length<=Rows.uptoBulk d:=by
 cases d with
 | slice elems spare =>
   have:=zI elems
   simp only [Rows.uptoBulk,bQ,List.length_map]
   omega
 | _=>simp [bQ]
theorem eZ {H:Type} {d:DataW H} {l:List (DataW H)} (h:d∈l):Rows.uptoBulk d<=Rows.uptoBulk (DataW.agg l):=by
 have:=nZ h
 simp only [Rows.uptoBulk]
 omega
theorem kF {K:Type} {d:DataW K} (h:Sh.str.wf d):(toS d).size<=Rows.uptoBulk d:=by
 obtain ⟨l,rfl,_⟩:=h
 show (toS (DataW.lit (.string l))).size<=_
 simp only [toS,Rows.uptoBulk]
 first | omega | (simp [ByteArray.size]) | skip
theorem GA {H:Type} {l:List (DataW H)} (hk:Rows.uptoSmall H l=true):∀ d∈l,Rows.uptoBulk d<=1048576:=by
 have:Rows.uptoBulkAll l<=1048576:=of_decide_eq_true hk
 intro d hd
 exact Nat.le_trans (nZ hd) this
theorem ac' {K:Type} {d:DataW K} (h:EN.wf d) (hb:Rows.uptoBulk d<=1048576):CmT (RD d):=by
 obtain ⟨ds,rfl,d1,r1,rfl,w1,d2,r2,rfl,w2,d3,r3,rfl,w3,d4,r4,rfl,w4,d5,r5,rfl,w5,d6,r6,rfl,w6,d7,r7,rfl,w7,d8,r8,rfl,w8,d9,r9,rfl,w9,d10,r10,rfl,w10,rfl⟩:=h
 have b5:=Nat.le_trans (Nat.le_trans (kF w5) (eZ (l:=[d1,d2,d3,d4,d5,d6,d7,d8,d9,d10]) (by simp))) hb
 have b6:=Nat.le_trans (Nat.le_trans (jm kL d6) (eZ (l:=[d1,d2,d3,d4,d5,d6,d7,d8,d9,d10]) (by simp))) hb
 have b9:=Nat.le_trans (Nat.le_trans (kF w9) (eZ (l:=[d1,d2,d3,d4,d5,d6,d7,d8,d9,d10]) (by simp))) hb
 exact ⟨⟨wS w1,gY w2,gY w3,gY w4,gY w7,wS w8,gY w10,by show (toS d5).size+(bQ kL d6).length+(toS d9).size+1000<=_;omega⟩,QW w6⟩
theorem aeg {K:Type} {d:DataW K} (hd:EN.wf d) {H:HH} {E:Env} {vs:List Value} (h:aI (EN.enc d) H E vs):aI (R.dV (RD d)) H E vs:=by
 obtain ⟨a1,a2,a3,a4,a5,a6,a7,a8,a9,a10,rfl,wc,_,he⟩:=aa2 hd
 rw [he] at h
 obtain ⟨v1,x1,rfl,h1,v2,x2,rfl,h2,v3,x3,rfl,h3,v4,x4,rfl,h4,v5,x5,rfl,h5,v6,x6,rfl,h6,h7⟩:=h
 exact ⟨_,_,rfl,h1,_,_,rfl,h2,_,_,rfl,h3,_,_,rfl,h4,_,_,rfl,h5,_,_,rfl,acI wc h6,h7⟩
def shX:Sh:=.st [.int .i64,.int .u64,.bool,.sl nX]
def toX {K:Type}:DataW K->R.gJ
 | .agg [a,b,c,d]=>⟨kL a,kL b,toB c,bQ jy d⟩
 | _=>default
def NV:Sh:=.st [EN,shX,oZ,.sl (.int .u8)]
def adA {K:Type}:DataW K->R.bJ
 | .agg [a,_,_,_]=>RD a
 | _=>default
def aef {K:Type}:DataW K->R.gJ
 | .agg [_,b,_,_]=>toX b
 | _=>default
def ae0 {K:Type}:DataW K->Part
 | .agg [_,_,c,_]=>ru c
 | _=>default
def ade {K:Type}:DataW K->List Int
 | .agg [_,_,_,e]=>bQ kL e
 | _=>[]
theorem o9 {H:HH} {E:Env}:∀ {a b:List AV} {vs:List Value},aI (a++b) H E vs->∃ x y,vs=x++y/\aI a H E x/\aI b H E y
 | [],_,vs,h=>⟨[],vs,rfl,rfl,h⟩
 | _::_,_,_,h=>by
   obtain ⟨v,r,rfl,h1,h2⟩:=h
   obtain ⟨x,y,rfl,h3,h4⟩:=o9 h2
   exact ⟨v::x,y,rfl,⟨v,x,rfl,h1,h3⟩,h4⟩
theorem ah0 {K:Type} {d:DataW K} (hd:shX.wf d) {H:HH} {E:Env} {vs:List Value} (h:aI (shX.enc d) H E vs):aI (R.oJ (toX d)) H E vs:=by
 obtain ⟨ds,rfl,d1,r1,rfl,w1,d2,r2,rfl,w2,d3,r3,rfl,w3,d4,r4,rfl,w4,rfl⟩:=hd
 have e:shX.enc (DataW.agg [d1,d2,d3,d4])=[.y (.int .i64 (kL d1)),.y (.int .u64 (kL d2)),.y (.bool (toB d3)),wD nX d4]:=by
  simp only [shX,rF,lD,nG,wH,gF w1,gF w2,LH w3]
  rfl
 rw [e] at h
 obtain ⟨v1,x1,rfl,h1,v2,x2,rfl,h2,v3,x3,rfl,h3,v4,x4,rfl,h4,rfl⟩:=h
 exact ⟨_,_,rfl,h1,_,_,rfl,h2,_,_,rfl,h3,_,_,rfl,aag w4 h4,rfl⟩
theorem agi {K:Type} {d:DataW K} (hd:NV.wf d) {H:HH} {E:Env} {vs:List Value} (h:aI (NV.enc d) H E vs):aI (SH (adA d) (aef d) (ae0 d) (ade d)) H E vs:=by
 obtain ⟨ds,rfl,d1,r1,rfl,w1,d2,r2,rfl,w2,d3,r3,rfl,w3,d4,r4,rfl,w4,rfl⟩:=hd
 have e:NV.enc (DataW.agg [d1,d2,d3,d4])=EN.enc d1++(shX.enc d2++(oZ.enc d3++[wD (.int .u8) d4])):=by
  simp only [NV,rF,lD,nG,wH]
  rfl
 rw [e] at h
 obtain ⟨x1,y1,rfl,h1,h⟩:=o9 h
 obtain ⟨x2,y2,rfl,h2,h⟩:=o9 h
 obtain ⟨x3,y3,rfl,h3,h⟩:=o9 h
 obtain ⟨v,r,rfl,h4,h5⟩:=h
 have k4:aI [bn true (bQ kL d4)] H E (v::r):=⟨v,r,rfl,acI w4 h4,h5⟩
 show aI (R.dV (RD d1)++R.oJ (toX d2)++aW true (ru d3)++[bn true (bQ kL d4)]) H E _
 rw [List.append_assoc,List.append_assoc]
 exact aI.app (aeg w1 h1) (aI.app (ah0 w2 h2) (aI.app (Wu w3 h3) k4))
theorem aaf:∃ fs,Tryz.prog.underlying 67=some (.struct fs)/\fs.toList.map (·.type)=[37,44,30,35]:=rC (by kernel_rfl)
theorem afl {K:Type} {d:DataW K} (h:EN.wf d) (hb:Rows.uptoBulk d<=1048576):yV (RD d):=by
 obtain ⟨ds,rfl,d1,r1,rfl,w1,d2,r2,rfl,w2,d3,r3,rfl,w3,d4,r4,rfl,w4,d5,r5,rfl,w5,d6,r6,rfl,w6,d7,r7,rfl,w7,d8,r8,rfl,w8,d9,r9,rfl,w9,d10,r10,rfl,w10,rfl⟩:=h
 have b5:=Nat.le_trans (Nat.le_trans (kF w5) (eZ (l:=[d1,d2,d3,d4,d5,d6,d7,d8,d9,d10]) (by simp))) hb
 have b6:=Nat.le_trans (Nat.le_trans (jm kL d6) (eZ (l:=[d1,d2,d3,d4,d5,d6,d7,d8,d9,d10]) (by simp))) hb
 have b9:=Nat.le_trans (Nat.le_trans (kF w9) (eZ (l:=[d1,d2,d3,d4,d5,d6,d7,d8,d9,d10]) (by simp))) hb
 exact ⟨wS w1,tu (gY w2),tu (gY w3),tu (gY w4),tu (gY w7),wS w8,tu (gY w10),by show (toS d5).size<=_;omega,by show (bQ kL d6).length<=_;omega,by show (toS d9).size<=_;omega⟩
theorem agC {K:Type} {d:DataW K} (h:shX.wf d) (hb:Rows.uptoBulk d<=1048576):BU (toX d)/\A_ (toX d):=by
 obtain ⟨ds,rfl,d1,r1,rfl,w1,d2,r2,rfl,w2,d3,r3,rfl,w3,d4,r4,rfl,w4,rfl⟩:=h
 have b4:=Nat.le_trans (eZ (d:=d4) (l:=[d1,d2,d3,d4]) (by simp)) hb
 have hn:(bQ jy d4).length<=1048576:=Nat.le_trans (jm jy d4) b4
 have hr:∀ x∈bQ jy d4,adh x:=fun x hx=>by
  obtain ⟨h1,h2,h3⟩:=Q.mem_of (to:=jy) (Q:=fun x=>(Q.dL x.off/\Q.dL x.prod/\Q.dL x.seq)/\x.key.size<=1048576/\x.val.length<=1048576) Q.uK w4 b4 x hx
  exact ⟨h1,h2,h3⟩
 have hl:=Q.uQ hn fun x hx=>⟨(hr x hx).k,(hr x hx).v⟩
 have hl':(gy (bQ jy d4)).length<=2199200000000:=hl
 have a1:=fu (kL d1)
 have a2:=aG (kL d2)
 have a3:=sO (toB d3)
 refine ⟨⟨wS w1,gY w2,fun k hk=>?_,⟨?_⟩⟩,⟨wS w1,tu (gY w2),TG hn hr⟩⟩
 · have:=(hr _ (lu hk)).u
   exact ⟨abt this.1,abt this.2.1,abt this.2.2⟩
 · show (aF (kL d1)++aj (kL d2)++iW (toB d3)++gy (bQ jy d4)).length+200<=_
   simp only [List.length_append]
   omega
theorem aa9 {K:Type} {d:DataW K} (h:NV.wf d) (hb:Rows.uptoBulk d<=1048576) (hw:(d.weights Tryz.prog 67).all (·<=reachBytes)=true):Zr (adA d) (aef d) (ae0 d) (ade d):=by
 obtain ⟨ds,rfl,d1,r1,rfl,w1,d2,r2,rfl,w2,d3,r3,rfl,w3,d4,r4,rfl,w4,rfl⟩:=h
 have b1:=Nat.le_trans (eZ (d:=d1) (l:=[d1,d2,d3,d4]) (by simp)) hb
 have b2:=Nat.le_trans (eZ (d:=d2) (l:=[d1,d2,d3,d4]) (by simp)) hb
 have b3:=Nat.le_trans (eZ (d:=d3) (l:=[d1,d2,d3,d4]) (by simp)) hb
 have b4:=Nat.le_trans (eZ (d:=d4) (l:=[d1,d2,d3,d4]) (by simp)) hb
 obtain ⟨fs,hf,ht⟩:=aaf
 have h:=qW hf hw
 rw [ht] at h
 obtain ⟨k1,h⟩:=fP h
 obtain ⟨k2,h⟩:=fP h
 obtain ⟨k3,h⟩:=fP h
 obtain ⟨x1,x2⟩:=agC w2 b2
 have sm:=Q.abk w3 b3
 have ty:=Q.aeN (Um w3 k3)
 have pt:=aeW w3
 have pl:=Q.Le sm
 rw [L9] at pl
 refine ⟨(ac' w1 b1).u,afl w1 b1,x1,x2,⟨pt.epoch,pt.frozen,fun k hk=>(pt.recs _ (lu hk)).1,fun k hk=>pt.prods _ (lu hk),fun k hk=>pt.cons _ (lu hk),⟨?_⟩⟩,Q.aga sm,pt,ty,⟨ty,by have:=sm.pn;show (ru d3).prods.length<=_;omega,fun y hy=>(sm.rv y hy).1.2.2.v0⟩,⟨⟨?_⟩,QW w4⟩⟩
 · show (gQ (ru d3)).length+200<=_
   omega
 · show (bQ kL d4).length<=_
   have:=jm kL d4
   omega
end J
namespace J
open Go.Ax Go.Shelf Go.RowKit Go.ChangeShapes Go.WideShapes Go.ChangeAt
def mY:List (String×DataW Unit):=Rows.partfsmBytesUptoRow.laid
noncomputable def kE (os:Os):World:=World.layVars Tryz.prog (X9 os) (mY.filter fun x=>x.2.handleName?.isNone)
theorem qA (os:Os) (args:Array Value):laidMetH Tryz.prog mY ((kE os).forCall (fun _ _=>0) ⟨#[],args,[]⟩).memory :=
 laidMetH_of_parts (Gi args (by kernel_rfl) (by kernel_rfl)) (by kernel_rfl)
theorem ug (os:Os) {H:Type} (enc:TypeId×Value->H):∃ places,DataW.whole enc Tryz.prog ((kE os).forCall (fun _ _=>0) ⟨#[],#[.agg #[.int .i64 0,.int .u64 0,.int .u64 0,.int .u64 0,.string ⟨#[]⟩,.slice Option.none 0 0,.int .u64 0,.int .i64 0,.string ⟨#[]⟩,.int .u64 0,.int .i64 0,.int .u64 0,.bool false,.slice Option.none 0 0,.string ⟨#[]⟩,.string ⟨#[]⟩,.int .u64 0,.int .u64 0,.slice Option.none 0 0,.slice Option.none 0 0,.slice Option.none 0 0,.slice Option.none 0 0]],[]⟩).memory Tryz.f9.params.toList Rows.partfsmBytesSpec.vars false (#[.agg #[.int .i64 0,.int .u64 0,.int .u64 0,.int .u64 0,.string ⟨#[]⟩,.slice Option.none 0 0,.int .u64 0,.int .i64 0,.string ⟨#[]⟩,.int .u64 0,.int .i64 0,.int .u64 0,.bool false,.slice Option.none 0 0,.string ⟨#[]⟩,.string ⟨#[]⟩,.int .u64 0,.int .u64 0,.slice Option.none 0 0,.slice Option.none 0 0,.slice Option.none 0 0,.slice Option.none 0 0]]:Array Value).toList 8=some ([.agg [.agg [.lit (.int .i64 0),.lit (.int .u64 0),.lit (.int .u64 0),.lit (.int .u64 0),.lit (.string []),.nil,.lit (.int .u64 0),.lit (.int .i64 0),.lit (.string []),.lit (.int .u64 0)],.agg [.lit (.int .i64 0),.lit (.int .u64 0),.lit (.bool false),.nil],.agg [.agg [.lit (.string []),.lit (.string [])],.lit (.int .u64 0),.lit (.int .u64 0),.nil,.nil,.nil],.nil]],[],places) :=
 ⟨[],by kernel_rfl⟩
theorem sQ (os:Os) (started:os.Started) (K:Type) (enc:TypeId×Value->K) (F:Stop.Interp) :
 ReturnsInHanded {} Tryz.checked os 9 .any ((Rows.OpenSpec.upto Rows.partfsmBytesSpec).preRow enc Tryz.prog Tryz.f9 Rows.partfsmBytesUptoRow.domain false Rows.partfsmBytesUptoRow.laid) (((Rows.OpenSpec.upto Rows.partfsmBytesSpec).at F).post enc Tryz.prog Tryz.f9 false true false false):=by
 obtain ⟨places,hx⟩:=ug os enc
 refine returnsInHanded_of_row (C:=Tryz.checked) (s:=Rows.OpenSpec.upto Rows.partfsmBytesSpec) Tryz.own started (by kernel_rfl) Tryz.func9
  (witness_row_at (enc:=enc) (C:=Tryz.checked) false (kE os) #[.agg #[.int .i64 0,.int .u64 0,.int .u64 0,.int .u64 0,.string ⟨#[]⟩,.slice Option.none 0 0,.int .u64 0,.int .i64 0,.string ⟨#[]⟩,.int .u64 0,.int .i64 0,.int .u64 0,.bool false,.slice Option.none 0 0,.string ⟨#[]⟩,.string ⟨#[]⟩,.int .u64 0,.int .u64 0,.slice Option.none 0 0,.slice Option.none 0 0,.slice Option.none 0 0,.slice Option.none 0 0]] rfl (by kernel_rfl) (by kernel_rfl) (by kernel_rfl)
    (OpenSpec.preRow_of_cond 8 hx (by kernel_rfl) (fun k hk=>by cases hk;kernel_rfl) (by kernel_rfl) (qA os _))) ?_
 intro W base args ds gs before hval0 hW _ hcond hsz hL _ _
 have hps:Tryz.f9.params.toList=[67]:=by kernel_rfl
 obtain ⟨p,q,hA,hV,hbef,hfz,hnd⟩:=id hW
 have hA:DataW.TrodAll enc Tryz.prog W 0 (fun _=>true) true Tryz.f9.params.toList args.toList ds p:=hA
 have hk:=GA (hcond _ rfl)
 rw [hps] at hA hsz
 have ⟨hr,hwf⟩:=FU [NV] (by kernel_rfl) hA
 obtain ⟨v1,d1,e1,rfl,_⟩:=trodAll_one hA
 obtain ⟨_,_,g1,w1,_⟩:=hwf
 obtain ⟨rfl,_⟩:=List.cons.inj g1
 subst e1
 obtain ⟨h1,hs1⟩:=fP (P:=Tryz.prog) (t:=67) (d:=d1) hsz
 have r1:=hr.1
 obtain ⟨fs1,hf1,_⟩:=aaf
 have r1:=ahA hf1 (hval0 0 _ _ (by kernel_rfl) rfl) (agi w1 r1)
 have b1:=hk d1 (by simp)
 exact KC (s:=Rows.partfsmBytesSpec) (UA (ahQ _ _ _ _ (aa9 w1 b1 h1))) (t:=4) (ds:=[d1]) ⟨_,_,rfl,r1,rfl⟩ (by kernel_rfl) Oo rfl rfl Tryz.laidOut Tryz.mapsRowed Tryz.oo (by rw [hps];intro t ht;simp only [List.mem_cons,List.not_mem_nil,or_false] at ht;rcases ht with rfl<;>exact of_decide_eq_true (by kernel_rfl)) hW (afu (by kernel_rfl) hL)
theorem um:Rows.PartfsmBytesUptoSaid :=
 OpenClaim.holds_of_cond 9 Tryz.f9 rfl rfl rfl rfl rfl rfl rfl ⟨rfl,rfl,rfl,rfl,rfl⟩ rfl rfl rfl rfl rfl (by kernel_rfl) Tryz.func9 (by kernel_rfl)
  (of_decide_eq_true (by kernel_rfl)) (by unfold Func.isWrapper;first | (rw [if_pos (by decide +kernel)];kernel_rfl) | (rw [if_neg (by decide +kernel)];exact ⟨rfl,rfl⟩))
  (fun os started H enc _ F=>by rw [OpenClaim.pre_eq_preRow];exact sQ os started H enc F)
theorem vT:Rows.PartfsmBytesUptoCardSaid :=
 Claim7.holds_tied_plain_at .later [] [.data,.handle,.pinned] true (true, "4008c0ec14d4e8318941b98147842fa4797ed9bf7edcfa700debfb0742dcc49e") true
  um (fun _ h=>by cases h) (by kernel_rfl) (fun _ h=>by cases h) partfsmBytesUpto_row_tie rfl ⟨rfl,rfl⟩ (by kernel_rfl) rfl
  (fun f fn hf hfn=>by
    obtain rfl:f=9:=Option.some.inj ((show Tryz.prog.funcNamed "gazette/gazettelaw16.PartfsmBytes" = some 9 by kernel_rfl).symm.trans hf) |>.symm
    obtain rfl:fn=Tryz.f9:=(Option.some.inj (Tryz.func9.symm.trans hfn)).symm
    exact ⟨by kernel_rfl,fun j t ht=>by
     rw [show Tryz.f9.params=#[67] by kernel_rfl] at ht
     have h3:t=67:=by
      rcases j with _ | j
      · exact (by simpa using ht.symm)
      · simp at ht
     rcases h3 with rfl
     · exact (show Tryz.prog.wantsStandIn 67=false by kernel_rfl)⟩)
  (by kernel_rfl)
end J
section
theorem bytes_said:Rows.PartfsmBytesUptoCardSaid:=J.vT
end
end Go.Proofs.YtnbhdjadlbhknaaGreatDoor
