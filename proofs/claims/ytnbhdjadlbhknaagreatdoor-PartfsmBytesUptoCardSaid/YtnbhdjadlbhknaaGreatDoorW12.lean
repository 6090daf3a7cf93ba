/- PROVED: PartfsmBytes in its second form (arguments of bounded size): commands, results and states are written, and any bytes are read and applied, as the document says. -/
import Derived.Test.YtnbhdjadlbhknaaGreatDoorRows
import Derived.Test.YtnbhdjadlbhknaaGreatDoorTie
import Derived.Test.YtnbhdjadlbhknaaGreatDoorCards
import Derived.OpenShut
import Derived.Lay
import Derived.Handed
import Derived.SevenTiedAt
import Derived.Deep.DeepHandedRow
import Derived.LaidHandle
import Derived.Test.YtnbhdjadlbhknaaGreatDoorE11
import Derived.Test.YtnbhdjadlbhknaaGreatDoorW4
import Derived.Test.YtnbhdjadlbhknaaGreatDoorW9
import Derived.Test.YtnbhdjadlbhknaaGreatDoorW10
import Derived.Test.YtnbhdjadlbhknaaGreatDoorW11
set_option linter.unusedVariables false
set_option linter.unusedSimpArgs false
namespace Go.Proofs.YtnbhdjadlbhknaaGreatDoor.J
open Go.Ax
set_option maxRecDepth 1000000
def Zl (c:R.bJ):Prop :=
 ((c.kind==c.kind)=true->((c.epoch==c.epoch)=true->((c.prod==c.prod)=true->((c.seq==c.seq)=true->((c.key.data.toList==c.key.data.toList)=true->(∀ (k:Nat),k<List.length c.val->true=true)/\(∀ (k:Nat),k<List.length c.val->true=true)/\((List.map (fun (a:AV)=>match match a with | AV.s (Value.int IntKind.u8 n)=>some n | AV.y (Value.int IntKind.u8 n)=>some n | x=>none with | some n=>UInt8.ofNat (Int.toNat n) | none=>(0:UInt8)) (List.map (fun (k:Nat)=>AV.y (Value.int IntKind.u8 (List.getD c.val k (0:Int)))) (List.range (List.length c.val)))==List.map (fun (a:AV)=>match match a with | AV.s (Value.int IntKind.u8 n)=>some n | AV.y (Value.int IntKind.u8 n)=>some n | x=>none with | some n=>UInt8.ofNat (Int.toNat n) | none=>(0:UInt8)) (List.map (fun (k:Nat)=>AV.y (Value.int IntKind.u8 (List.getD c.val k (0:Int)))) (List.range (List.length c.val))))=true->((c.off==c.off)=true->((c.most==c.most)=true->((c.name.data.toList==c.name.data.toList)=true->(c.plan==c.plan)=true/\True)/\((c.name.data.toList==c.name.data.toList)=false->false=true/\True))/\((c.most==c.most)=false->false=true/\True))/\((c.off==c.off)=false->false=true/\True))/\((List.map (fun (a:AV)=>match match a with | AV.s (Value.int IntKind.u8 n)=>some n | AV.y (Value.int IntKind.u8 n)=>some n | x=>none with | some n=>UInt8.ofNat (Int.toNat n) | none=>(0:UInt8)) (List.map (fun (k:Nat)=>AV.y (Value.int IntKind.u8 (List.getD c.val k (0:Int)))) (List.range (List.length c.val)))==List.map (fun (a:AV)=>match match a with | AV.s (Value.int IntKind.u8 n)=>some n | AV.y (Value.int IntKind.u8 n)=>some n | x=>none with | some n=>UInt8.ofNat (Int.toNat n) | none=>(0:UInt8)) (List.map (fun (k:Nat)=>AV.y (Value.int IntKind.u8 (List.getD c.val k (0:Int)))) (List.range (List.length c.val))))=false->false=true/\True))/\((c.key.data.toList==c.key.data.toList)=false->false=true/\True))/\((c.seq==c.seq)=false->false=true/\True))/\((c.prod==c.prod)=false->false=true/\True))/\((c.epoch==c.epoch)=false->false=true/\True))/\((c.kind==c.kind)=false->false=true/\True)
theorem TK (c:R.bJ):(aZ Tryz.prog (hT _) 35 [.agg (R.dR c),.agg (R.dR c)] [] (bM true))=Zl c:=by kernel_rfl
theorem adZ (c:R.bJ):(bM true).Sat (au Tryz.prog 35 [.agg (R.dR c),.agg (R.dR c)] []):=by
 refine aR (ht:=hT _) Tryz.mixed rfl ?_
 rw [TK c]
 unfold Zl
 simp
noncomputable def ahI (c:R.bJ):dO Tryz.prog:=⟨35,[.agg (R.dR c),.agg (R.dR c)],[],bM true,adZ c⟩
noncomputable def adW (p:Part) (w:List Int) (c:R.bJ) (e:Int) (q:Part) (x:R.gI):aC Tryz.prog:=hh _ bB (cs1 36 1 1 (aeP w c e) (cs1 36 2 1 (Q.ckC true p) (cs1 36 3 2 (U8 ⟨165,0,false,[]⟩) (cs1 36 5 3 (U8 ⟨e,0,false,[]⟩) (cs1 36 6 2 (R.agW p c q x) (cs1 36 7 2 (U8 x) bq)))))) bA
def YL (p:Part) (w:List Int) (c:R.bJ) (e:Int) (q:Part) (x:R.gI) (q':Part) (t:List Int):Prop :=
 ((dI w w)/\True)/\True/\ig w/\(c,e)=lS w/\((bE true true p p)/\True)/\True/\Q.zR p/\(aW p=true->((e != 0)=true->((e=e/\(0:Int)=0/\false=false/\0=0/\True)/\True)/\True/\AL { err:=e,off:=0,old:=false,recs:=[]:R.gI }/\((bE true true p q')/\(dI (iK { err:=e,off:=0,old:=false,recs:=[]:R.gI }) t)/\True)/\True)/\((e != 0)=false->((bE true true p p)/\(R.ow c c)/\True)/\True/\R.QoR p c q x/\((x.err=x.err/\x.off=x.off/\x.old=x.old/\(true=true/\x.recs.length=x.recs.length/\ak x.recs.length 5 (ah encR x.recs) (ah encR x.recs))/\True)/\True)/\True/\AL x/\((bE true true q q')/\(dI (iK x) t)/\True)/\True))/\(aW p=false->(((165:Int)=165/\(0:Int)=0/\false=false/\0=0/\True)/\True)/\True/\AL { err:=165,off:=0,old:=false,recs:=[]:R.gI }/\(({ data:=#[]:ByteArray }=q'.rng.lo/\{ data:=#[]:ByteArray }=q'.rng.hi/\0=q'.epoch/\0=q'.frozen/\q'.recs.length=0/\q'.prods.length=0/\q'.cons.length=0/\True)/\(true=true/\5=t.length/\ak 5 1 (ah aD [202,2,0,0,0]) (ah aD t))/\True)/\True)
theorem O1 (p:Part) (w:List Int) (c:R.bJ) (e:Int) (q:Part) (x:R.gI) (q':Part) (t:List Int):(aZ Tryz.prog (adW p w c e q x) 36 [.agg (aU true p),bn true w] [] (.ret (.tup [.agg (aU true q'),bn true t],[],[])))=YL p w c e q x q' t:=by kernel_rfl
theorem agP (l:List Int):(lS l).2=0∨(lS l).2=161:=by
 unfold lS
 split
 · exact .inl rfl
 · exact .inr rfl
structure PtT (p:Part):Prop where
 epoch:nR p.epoch
 frozen:nR p.frozen
 recs:∀ x∈p.recs,DX x/\Bytes x.val
 prods:∀ x∈p.prods,Db x
 cons:∀ x∈p.cons,nR x.off
theorem aed {p:Part} (h:PtT p) (ho:aW p=true):Xf p:=by
 obtain ⟨k1,k2,k3,k4,k5,_⟩:=R.aea ho
 obtain ⟨l1,l2,l3⟩:=R.Jr ho
 have hr:=D.Va k3
 have hc:=R.NA k5
 refine ⟨?_,h.epoch,h.frozen,⟨by omega,by omega,fun x hx=>⟨(h.recs x hx).1,(hr x hx).1,(hr x hx).2,(h.recs x hx).2⟩⟩,⟨by omega,by omega,h.prods⟩,⟨by omega,by omega,fun x hx=>⟨?_,h.cons x hx⟩⟩⟩
 · unfold iF at k1
   by_cases hb:32<p.rng.lo.size∨32<p.rng.hi.size
   · rw [if_pos hb] at k1
     exact absurd k1 (by decide)
   · exact ⟨by omega,by omega⟩
 · have:=hc x hx
   unfold dD at this
   simp at this
   omega
theorem Rb (l:List Rec) (x:Rec):0<=R.gY l x/\R.gY l x<=999:=by
 unfold R.gY
 repeat' split
 all_goals decide
theorem Dg (l:List P.Producer) (x:P.Producer):0<=P.aP l x/\P.aP l x<=999:=by
 unfold P.aP
 repeat' split
 all_goals decide
theorem RF (l:List Con) (x:Con) (e:Int):0<=eF l x e/\eF l x e<=999:=by
 unfold eF
 repeat' split
 all_goals decide
theorem Uv (l:List Rec) (o:Int):0<=R.uJ l o/\R.uJ l o<=999:=by
 unfold R.uJ
 repeat' split
 all_goals decide
theorem Uo (p:Part) (c:R.bJ):0<=R.iM p c/\R.iM p c<=999:=by
 unfold R.iM
 have h1:=Rb p.recs (R.newR c)
 have h2:=Dg p.prods (R.mV p c)
 repeat' split
 all_goals first | omega | decide
theorem XD (p:Part) (c:R.bJ):0<=R.jr p c/\R.jr p c<=999:=by
 unfold R.jr R.uU
 have h1:=RF p.cons ⟨c.name,c.off⟩ (IntKind.u64.wrap (p.recs.length:Nat))
 have h2:=Dg p.prods (R.mR c)
 repeat' split
 all_goals first | omega | decide
theorem Rq (p:Part) (c:R.bJ):0<=R.qH p c/\R.qH p c<=999:=by
 unfold R.qH R.un9
 have h1:=Uo p c
 have h2:=XD p c
 have h3:=Uv p.recs c.off
 repeat' split
 all_goals first | omega | decide
theorem aa9 (x:Int):nR (IntKind.u64.wrap x):=by
 rw [Zb]
 exact ⟨by omega,by omega⟩
theorem abm {p:Part} (h:Xf p) (o m:Int):Bb 64 zZ (R.iZ p.recs o m):=by
 have hl:(R.iZ p.recs o m).length<=64:=by
  unfold R.iZ R.xw
  rw [List.length_take]
  repeat' split
  all_goals omega
 refine ⟨by omega,by omega,fun x hx=>h.recs.ok x ?_⟩
 unfold R.iZ at hx
 exact List.mem_of_mem_drop (List.mem_of_mem_take hx)
theorem PI {α:Type} {ok:α->Prop}:Bb 64 ok []:=⟨by simp,by simp,fun x hx=>absurd hx (by simp)⟩
theorem Nl {l:List P.Producer} (h:∀ x∈l,Db x) (id:Int):Db (P.findD l id):=by
 unfold P.findD
 cases hf:l.find? (P.has id) with
 | none=>exact ⟨jR,jR,jR⟩
 | some x=>exact h x (List.mem_of_find?_eq_some hf)
theorem Sn {l:List Con} (h:∀ x∈l,ZV x) (s:ByteArray):nR (iJ l s):=by
 unfold iJ Go.Proofs.YtnbhdjadlbhknaaGreatDoor.Di
 cases hf:l.find? fun x=>Cx x.name s with
 | none=>exact jR
 | some x=>exact (h x (List.mem_of_find?_eq_some hf)).o
end Go.Proofs.YtnbhdjadlbhknaaGreatDoor.J

namespace Go.Proofs.YtnbhdjadlbhknaaGreatDoor.R
open Go.Ax
set_option maxRecDepth 1000000
end Go.Proofs.YtnbhdjadlbhknaaGreatDoor.R

namespace Go.Proofs.YtnbhdjadlbhknaaGreatDoor.J
open Go.Ax
set_option maxRecDepth 1000000
theorem KV (a:R.gI):pK a a=true:=by
 have h:R.iy a.recs a.recs=true:=by simp [R.iy,R.gW,R.R_]
 simp [pK,h]
structure QaR (p:Part) (w:List Int) (q:Part) (x:R.gI):Prop where
 r:ig w
 k:Q.zR p
 i:eO p
 o:0<=(lS w).1.off/\(lS w).1.off<18446744073709551616
 e1:q=R.dQ p (if (lS w).2=0 then (lS w).1 else default)
 e2:x=R.dX p (if (lS w).2=0 then (lS w).1 else default)
 u:AL x
theorem JW (e:Int) (h:jB e):AL ⟨e,0,false,[]⟩:=⟨h,⟨by show (0:Int)<=0;decide,by show (0:Int)<_;decide⟩,⟨by show 0<=_;decide,by show (Q.eD []).length<=_;decide,fun k hk=>by cases hk⟩⟩
theorem aeg (p:Part) (w:List Int) (q:Part) (x:R.gI) (h:QaR p w q x):(apR q x).Sat (au Tryz.prog 36 [.agg (aU true p),bn true w] []):=by
 obtain ⟨h1,h2,h3,h4,rfl,rfl,h7⟩:=h
 have he:=agP w
 obtain ⟨c,e,hc⟩:∃ c e,(c,e)=lS w:=⟨_,_,rfl⟩
 rw [<- hc] at h4 h7 he ⊢
 simp only at h4 h7 he ⊢
 obtain ⟨c',hc'⟩:∃ c',(if e=0 then c else default)=c':=⟨_,rfl⟩
 rw [hc'] at h7 ⊢
 unfold apR
 refine aR (ht:=adW p w c e (R.dQ p c') (R.dX p c')) Tryz.mixed rfl ?_
 rw [O1 p w c e (R.dQ p c') (R.dX p c') (R.dQ p c') (iK (R.dX p c'))]
 unfold YL
 have u1:=JW 165 ⟨by decide,by decide⟩
 have u2:=JW 161 ⟨by decide,by decide⟩
 cases k0:aW p
 · have d1:R.dQ p c'=default:=by unfold R.dQ R.RQ;rw [if_pos k0]
   have d2:R.dX p c'=⟨165,0,false,[]⟩:=by unfold R.dX R.OE;rw [if_pos k0]
   rw [d1,d2]
   simp [h1,hc,h2,u1]
   have er:iK ⟨165,0,false,[]⟩=[202,2,0,0,0]:=by decide
   rw [er]
   exact ⟨⟨rfl,rfl,rfl,rfl,rfl,rfl,rfl⟩,rfl,aO _ _ _⟩
 · by_cases e0:e=0
   · rw [if_pos e0] at hc'
     subst hc'
     have hq:R.QoR p c (R.dQ p c) (R.dX p c):=⟨rfl,rfl,h2,h3,h4⟩
     subst e0
     simp [h1,hc,h2,hq,h7]
   · rw [if_neg e0] at hc'
     have e1:e=161:=by rcases he with h | h;exact absurd h e0;exact h
     have wd:R.bF (default:R.bJ)=false:=rfl
     have d1:R.dQ p c'=p:=by rw [<- hc'];unfold R.dQ R.RQ;rw [if_neg (by simp [k0]),if_pos (.inl wd)]
     have d2:R.dX p c'=⟨161,0,false,[]⟩:=by rw [<- hc'];unfold R.dX R.OE;rw [if_neg (by simp [k0]),if_pos wd]
     rw [d1,d2]
     subst e1
     simp [h1,hc,h2,u2]
noncomputable def agt (p:Part) (w:List Int) (q:Part) (x:R.gI):dO Tryz.prog:=⟨36,[.agg (aU true p),bn true w],[],.need (QaR p w q x) (apR q x),T.Sat.need fun h=>aeg p w q x h⟩
def Ra (c:R.bJ) (x:R.gI) (p:Part) (b:List Int):List AV:=R.dR c++R.oI x++aU true p++[bn true b]
noncomputable def blH (c:R.bJ) (x:R.gI) (p:Part) (b:List Int) (d:R.bJ) (e:Int) (y:R.gI) (h:Int) (q:Part) (j:Int) (s:Part) (z:R.gI):aC Tryz.prog:=hh _ bB (cs1 9 1 0 R.agH (cs1 9 6 1 (wcC c) (cs1 9 6 4 (agS c) (cs1 9 6 9 (wxC x) (cs1 9 6 12 (U8 x) (cs1 9 6 18 (byC true p) (cs1 9 6 21 (Q.byC true p) (cs1 9 7 1 (rcC true b d e) (cs1 9 8 1 (aeP b d e) (cs1 9 9 1 (rxC true b y h) (cs1 9 10 1 (ahZ b y h) (cs1 9 11 1 (rpC true b q j) (cs1 9 12 1 (agC b q j) (cs1 9 13 2 (ahI d) (cs1 9 14 2 (srC y y) (cs1 9 15 2 (R.aeT false false q q) (cs1 9 16 2 (apC true p b s z) (cs1 9 17 2 (agt p b s z) (cs1 9 18 2 (R.aeT true true s s) bq))))))))))))))))))) bA
def oL (y:R.gI):Prop:=(y.err=y.err/\y.off=y.off/\y.old=y.old/\(true=true/\List.length y.recs=List.length y.recs/\ak (List.length y.recs) (5:Nat) (ah encR y.recs) (ah encR y.recs))/\True)
def af4 (c:R.bJ) (x:R.gI) (p:Part) (b:List Int) (d:R.bJ) (e:Int) (y:R.gI) (h:Int) (q:Part) (j:Int) (s:Part) (z:R.gI):Prop :=
 True/\True/\((R.ow c c)/\True)/\True/\Tv c/\(∀ (k:Nat),k<List.length (gU c)->true=true)/\((R.ow c c)/\True)/\True/\yU c/\(∀ (k:Nat),k<List.length (gU c)->true=true)/\((List.map (fun (a:AV)=>match match a with | AV.s (Value.int IntKind.u8 n)=>some n | AV.y (Value.int IntKind.u8 n)=>some n | x=>none with | some n=>UInt8.ofNat (Int.toNat n) | none=>(0:UInt8)) (List.map (fun (k:Nat)=>AV.y (Value.int IntKind.u8 (List.getD (gU c) k (0:Int)))) (List.range (List.length (gU c))))==List.map (fun (a:AV)=>match match a with | AV.s (Value.int IntKind.u8 n)=>some n | AV.y (Value.int IntKind.u8 n)=>some n | x=>none with | some n=>UInt8.ofNat (Int.toNat n) | none=>(0:UInt8)) (List.map (fun (k:Nat)=>AV.y (Value.int IntKind.u8 (List.getD (gU c) k (0:Int)))) (List.range (List.length (gU c)))))=true->((x.err=x.err/\x.off=x.off/\x.old=x.old/\(true=true/\List.length x.recs=List.length x.recs/\ak (List.length x.recs) (5:Nat) (ah encR x.recs) (ah encR x.recs))/\True)/\True)/\True/\BX x/\(∀ (k:Nat),k<List.length (iK x)->true=true)/\((x.err=x.err/\x.off=x.off/\x.old=x.old/\(true=true/\List.length x.recs=List.length x.recs/\ak (List.length x.recs) (5:Nat) (ah encR x.recs) (ah encR x.recs))/\True)/\True)/\True/\AL x/\(∀ (k:Nat),k<List.length (iK x)->true=true)/\((List.map (fun (a:AV)=>match match a with | AV.s (Value.int IntKind.u8 n)=>some n | AV.y (Value.int IntKind.u8 n)=>some n | x=>none with | some n=>UInt8.ofNat (Int.toNat n) | none=>(0:UInt8)) (List.map (fun (k:Nat)=>AV.y (Value.int IntKind.u8 (List.getD (iK x) k (0:Int)))) (List.range (List.length (iK x))))==List.map (fun (a:AV)=>match match a with | AV.s (Value.int IntKind.u8 n)=>some n | AV.y (Value.int IntKind.u8 n)=>some n | x=>none with | some n=>UInt8.ofNat (Int.toNat n) | none=>(0:UInt8)) (List.map (fun (k:Nat)=>AV.y (Value.int IntKind.u8 (List.getD (iK x) k (0:Int)))) (List.range (List.length (iK x)))))=true->((bE true true p p)/\True)/\True/\PtU p/\(∀ (k:Nat),k<List.length (gP p)->true=true)/\((bE true true p p)/\True)/\True/\Q.JH p/\(∀ (k:Nat),k<List.length (Q.f_ p)->true=true)/\((dI b b)/\True)/\True/\ig b/\(d,e)=lS b/\((dI b b)/\True)/\True/\ig b/\(d,e)=lS b/\((dI b b)/\True)/\True/\ig b/\(y,h)=tL b/\((dI b b)/\True)/\True/\ig b/\(y,h)=tL b/\((dI b b)/\True)/\True/\ig b/\(q,j)=mo b/\((dI b b)/\True)/\True/\ig b/\(q,j)=mo b/\((R.ow d d)/\(R.ow d d)/\True)/\True/\((oL y)/\(oL y)/\True)/\True/\List.length y.recs<=(9223372036854775806:Nat)/\((bE false false q q)/\(bE false false q q)/\True)/\True/\eO q/\((bE true true p p)/\(dI b b)/\True)/\True/\ApR p b s z/\((bE true true p p)/\(dI b b)/\True)/\True/\QaR p b s z/\((bE true true s s)/\(bE true true s s)/\True)/\True/\eO s/\(true=true->((List.map (fun (a:AV)=>match match a with | AV.s (Value.int IntKind.u8 n)=>some n | AV.y (Value.int IntKind.u8 n)=>some n | x=>none with | some n=>UInt8.ofNat (Int.toNat n) | none=>(0:UInt8)) (List.map (fun (k:Nat)=>AV.y (Value.int IntKind.u8 (List.getD (gP p) k (0:Int)))) (List.range (List.length (gP p))))==List.map (fun (a:AV)=>match match a with | AV.s (Value.int IntKind.u8 n)=>some n | AV.y (Value.int IntKind.u8 n)=>some n | x=>none with | some n=>UInt8.ofNat (Int.toNat n) | none=>(0:UInt8)) (List.map (fun (k:Nat)=>AV.y (Value.int IntKind.u8 (List.getD (Q.f_ p) ((0:Nat)+k) (0:Int)))) (List.range (List.length (Q.f_ p)))))=true->(true=true->(pK y y=true->(R.jA q q=true->(R.jA s s=true->((e==e)=true->((h==h)=true->((j==j)=true->(∀ (k:Nat),k<List.length (iK z)->true=true)/\(∀ (k:Nat),k<List.length (iK z)->true=true)/\(List.map (fun (a:AV)=>match match a with | AV.s (Value.int IntKind.u8 n)=>some n | AV.y (Value.int IntKind.u8 n)=>some n | x=>none with | some n=>UInt8.ofNat (Int.toNat n) | none=>(0:UInt8)) (List.map (fun (k:Nat)=>AV.y (Value.int IntKind.u8 (List.getD (iK z) k (0:Int)))) (List.range (List.length (iK z))))==List.map (fun (a:AV)=>match match a with | AV.s (Value.int IntKind.u8 n)=>some n | AV.y (Value.int IntKind.u8 n)=>some n | x=>none with | some n=>UInt8.ofNat (Int.toNat n) | none=>(0:UInt8)) (List.map (fun (k:Nat)=>AV.y (Value.int IntKind.u8 (List.getD (iK z) k (0:Int)))) (List.range (List.length (iK z)))))=true/\True)/\((j==j)=false->false=true/\True))/\((h==h)=false->false=true/\True))/\((e==e)=false->false=true/\True))/\(R.jA s s=false->false=true/\True))/\(R.jA q q=false->false=true/\True))/\(pK y y=false->false=true/\True))/\(true=false->false=true/\True))/\((List.map (fun (a:AV)=>match match a with | AV.s (Value.int IntKind.u8 n)=>some n | AV.y (Value.int IntKind.u8 n)=>some n | x=>none with | some n=>UInt8.ofNat (Int.toNat n) | none=>(0:UInt8)) (List.map (fun (k:Nat)=>AV.y (Value.int IntKind.u8 (List.getD (gP p) k (0:Int)))) (List.range (List.length (gP p))))==List.map (fun (a:AV)=>match match a with | AV.s (Value.int IntKind.u8 n)=>some n | AV.y (Value.int IntKind.u8 n)=>some n | x=>none with | some n=>UInt8.ofNat (Int.toNat n) | none=>(0:UInt8)) (List.map (fun (k:Nat)=>AV.y (Value.int IntKind.u8 (List.getD (Q.f_ p) ((0:Nat)+k) (0:Int)))) (List.range (List.length (Q.f_ p)))))=false->false=true/\True))/\(true=false->false=true/\True))/\((List.map (fun (a:AV)=>match match a with | AV.s (Value.int IntKind.u8 n)=>some n | AV.y (Value.int IntKind.u8 n)=>some n | x=>none with | some n=>UInt8.ofNat (Int.toNat n) | none=>(0:UInt8)) (List.map (fun (k:Nat)=>AV.y (Value.int IntKind.u8 (List.getD (iK x) k (0:Int)))) (List.range (List.length (iK x))))==List.map (fun (a:AV)=>match match a with | AV.s (Value.int IntKind.u8 n)=>some n | AV.y (Value.int IntKind.u8 n)=>some n | x=>none with | some n=>UInt8.ofNat (Int.toNat n) | none=>(0:UInt8)) (List.map (fun (k:Nat)=>AV.y (Value.int IntKind.u8 (List.getD (iK x) k (0:Int)))) (List.range (List.length (iK x)))))=false->((dI b b)/\True)/\True/\ig b/\(d,e)=lS b/\((dI b b)/\True)/\True/\ig b/\(d,e)=lS b/\((dI b b)/\True)/\True/\ig b/\(y,h)=tL b/\((dI b b)/\True)/\True/\ig b/\(y,h)=tL b/\((dI b b)/\True)/\True/\ig b/\(q,j)=mo b/\((dI b b)/\True)/\True/\ig b/\(q,j)=mo b/\((R.ow d d)/\(R.ow d d)/\True)/\True/\((oL y)/\(oL y)/\True)/\True/\List.length y.recs<=(9223372036854775806:Nat)/\((bE false false q q)/\(bE false false q q)/\True)/\True/\eO q/\((bE true true p p)/\(dI b b)/\True)/\True/\ApR p b s z/\((bE true true p p)/\(dI b b)/\True)/\True/\QaR p b s z/\((bE true true s s)/\(bE true true s s)/\True)/\True/\eO s/\(true=true->false=true/\True)/\(true=false->false=true/\True)))/\((List.map (fun (a:AV)=>match match a with | AV.s (Value.int IntKind.u8 n)=>some n | AV.y (Value.int IntKind.u8 n)=>some n | x=>none with | some n=>UInt8.ofNat (Int.toNat n) | none=>(0:UInt8)) (List.map (fun (k:Nat)=>AV.y (Value.int IntKind.u8 (List.getD (gU c) k (0:Int)))) (List.range (List.length (gU c))))==List.map (fun (a:AV)=>match match a with | AV.s (Value.int IntKind.u8 n)=>some n | AV.y (Value.int IntKind.u8 n)=>some n | x=>none with | some n=>UInt8.ofNat (Int.toNat n) | none=>(0:UInt8)) (List.map (fun (k:Nat)=>AV.y (Value.int IntKind.u8 (List.getD (gU c) k (0:Int)))) (List.range (List.length (gU c)))))=false->((dI b b)/\True)/\True/\ig b/\(d,e)=lS b/\((dI b b)/\True)/\True/\ig b/\(d,e)=lS b/\((dI b b)/\True)/\True/\ig b/\(y,h)=tL b/\((dI b b)/\True)/\True/\ig b/\(y,h)=tL b/\((dI b b)/\True)/\True/\ig b/\(q,j)=mo b/\((dI b b)/\True)/\True/\ig b/\(q,j)=mo b/\((R.ow d d)/\(R.ow d d)/\True)/\True/\((oL y)/\(oL y)/\True)/\True/\List.length y.recs<=(9223372036854775806:Nat)/\((bE false false q q)/\(bE false false q q)/\True)/\True/\eO q/\((bE true true p p)/\(dI b b)/\True)/\True/\ApR p b s z/\((bE true true p p)/\(dI b b)/\True)/\True/\QaR p b s z/\((bE true true s s)/\(bE true true s s)/\True)/\True/\eO s/\(true=true->false=true/\True)/\(true=false->false=true/\True))
theorem Yf (c:R.bJ) (x:R.gI) (p:Part) (b:List Int) (d:R.bJ) (e:Int) (y:R.gI) (h:Int) (q:Part) (j:Int) (s:Part) (z:R.gI):(aZ Tryz.prog (blH c x p b d e y h q j s z) 9 [.agg (Ra c x p b)] [] (bM true))=af4 c x p b d e y h q j s z:=by kernel_rfl
theorem Rn {p:Part} {c:R.bJ} (h:Xf p) (hc:nR c.off):Qo (R.BR p c):=by
 have z0:jB 0:=⟨by decide,by decide⟩
 have n0:=PI (ok:=zZ)
 have hl:=h.recs.n
 have hj:nR (P.dS p.prods c.prod c.seq):=by
  unfold P.dS
  repeat' split
  all_goals first | exact jR | skip
  exact (Nl h.prods.ok _).offset
 have hr:nR (iJ p.cons c.name):=by
  exact Sn h.cons.ok _
 unfold R.BR
 repeat' split
 all_goals first
  | exact ⟨z0,jR,n0⟩
  | exact ⟨z0,hc,n0⟩
  | exact ⟨z0,⟨by show (0:Int)<=(p.recs.length:Int);omega,by show (p.recs.length:Int)<_;omega⟩,n0⟩
  | exact ⟨z0,hj,n0⟩
  | exact ⟨z0,hr,n0⟩
  | exact ⟨z0,aa9 _,abm h _ _⟩
theorem aaM {p:Part} {c:R.bJ} (h:Xf p) (hc:nR c.off):Qo (R.dX p c):=by
 have n0:=PI (ok:=zZ)
 have he:=Rq p c
 unfold R.dX R.OE
 repeat' split
 all_goals first
  | exact ⟨⟨by show (-9223372036854775808:Int)<=R.qH p c;omega,by show R.qH p c<_;omega⟩,jR,n0⟩
  | exact ⟨⟨by show (-9223372036854775808:Int)<=_;decide,by decide⟩,jR,n0⟩
  | exact Rn h hc
theorem Uk {l:List Int} (h:ig l):nR (fT l).1.off:=by
 have k0:=EY h.n h.b
 have k1:bL l (ji l default).2:=(bg k0).1
 have k2:=(bg k1).1
 unfold fT
 repeat' split
 · exact jR
 · exact (bg k2).2
 · exact (bg (mP (most:=32) (bg (bg k2).1).1 rfl)).2
 · exact jR
 · exact jR
 · exact jR
theorem Ry {w:List Int} (h:ig w):nR (lS w).1.off:=by
 unfold lS
 split
 · exact Uk h
 · exact jR
theorem aeJ {p:Part} {c:R.bJ} (hy:D.uz p) (ho:aW p=true):eO (R.dQ p c):=by
 obtain ⟨l1,l2,l3⟩:=R.Jr ho
 have hm:∀ x:P.Producer,0<=x.offset->(P.aN p.prods x).length<=4611686018427387903/\∀ k,k<(P.aN p.prods x).length->0<=((P.aN p.prods x).getD k default).offset:=fun x hx=>by
  have e1:=P.IE p.prods x
  have e2:(P.iA p.prods x).length<=p.prods.length:=List.length_filter_le _ _
  refine ⟨by omega,fun k hk=>?_⟩
  rcases P.PS (lG hk) with h | h
  · rw [h];exact hx
  · exact (hy.po _ h).1
 rcases R.Ri (c:=c) ho with e | ⟨_,_,_,⟨_,_,e⟩ | ⟨_,_,e⟩ | ⟨_,_,e⟩⟩
 · rw [e];exact hy.isIn
 · rw [e]
   obtain ⟨h1,h2⟩:=hm (R.mV p c) (by show (0:Int)<=(p.recs.length:Int);omega)
   exact ⟨by show (p.recs++[_]).length<=_;rw [List.length_append];show p.recs.length+1<=_;omega,h1,hy.cl,h2⟩
 · rw [e]
   obtain ⟨h1,h2⟩:=hm (R.mR c) (by show (0:Int)<=0;decide)
   have h3:=XZ p.cons ⟨c.name,c.off⟩
   exact ⟨hy.rl,h1,by show (aN p.cons _).length<=_;omega,h2⟩
 · rw [e]
   exact ⟨hy.rl,hy.pl,hy.cl,hy.isIn.po⟩
theorem abz {l:List Int} (h:ig l):eO (mo l).1:=by
 unfold mo
 split
 · have k0:=EY h.n h.b
   have k1:=JM k0
   have k3:=(bg (bg k1).1).1
   have k4:bL l (xW l).2:=wJ (most:=4096) k3
   have c4:=count_le (most:=4096) k3
   have n4:=sK l (aK l (aB l (aB l (jW l default).2).2).2 4096).1.toNat (aK l (aB l (aB l (jW l default).2).2).2 4096).2 []
   have c5:(aK l (xW l).2 256).1<=max 256 0/\0<=(aK l (xW l).2 256).1:=count_le (most:=256) k4
   have k5:=(gG (most:=256) k4).1
   have k6:bL l (j_ l (xW l).2).2:=y8 (f:=eY l) (fun s h=>q9 h) (aK l (xW l).2 256).1.toNat _ [] k5
   have c7:(aK l (j_ l (xW l).2).2 64).1<=max 64 0/\0<=(aK l (j_ l (xW l).2).2 64).1:=count_le (most:=64) k6
   have l6:(nU l).1.prods.length=([]:List P.Producer).length+(aK l (xW l).2 256).1.toNat:=qF (f:=eY l) _ _ []
   have l8:(nU l).1.cons.length=([]:List Con).length+(aK l (j_ l (xW l).2).2 64).1.toNat:=qF (f:=iD l) _ _ []
   have po:=Bo (Q:=fun x:P.Producer=>0<=x.offset) (f:=eY l) (fun s h=>⟨q9 h,(bg (jJ (bg (bg h).1).1)).2.lo⟩) (aK l (xW l).2 256).1.toNat _ [] k5 (fun x hx=>by cases hx)
   refine ⟨?_,?_,?_,fun k hk=>po _ (lG hk)⟩
   · show (jY l _ _ []).1.length<=_
     simp at n4
     omega
   · show (nU l).1.prods.length<=_
     rw [l6]
     simp
     omega
   · show (nU l).1.cons.length<=_
     rw [l8]
     simp
     omega
 · exact ⟨by decide,by decide,by decide,fun k hk=>by cases hk⟩
end Go.Proofs.YtnbhdjadlbhknaaGreatDoor.J

namespace Go.Proofs.YtnbhdjadlbhknaaGreatDoor.D
open Go.Ax
set_option maxRecDepth 1000000
def Jg (p:Part) (f:Int):Part:=⟨p.rng,p.epoch,f,p.recs,p.prods,p.cons⟩
end Go.Proofs.YtnbhdjadlbhknaaGreatDoor.D

namespace Go.Proofs.YtnbhdjadlbhknaaGreatDoor.Q
open Go.Ax Go.Proofs.YtnbhdjadlbhknaaGreatDoor Go.Proofs.YtnbhdjadlbhknaaGreatDoor.H Go.Proofs.YtnbhdjadlbhknaaGreatDoor.D
set_option maxRecDepth 1000000
end Go.Proofs.YtnbhdjadlbhknaaGreatDoor.Q

namespace Go.Proofs.YtnbhdjadlbhknaaGreatDoor.Q
open Go.Ax Go.Proofs.YtnbhdjadlbhknaaGreatDoor Go.Proofs.YtnbhdjadlbhknaaGreatDoor.H
set_option maxRecDepth 1000000
end Go.Proofs.YtnbhdjadlbhknaaGreatDoor.Q

namespace Go.Proofs.YtnbhdjadlbhknaaGreatDoor.Q
open Go.Ax Go.Proofs.YtnbhdjadlbhknaaGreatDoor Go.Proofs.YtnbhdjadlbhknaaGreatDoor.H Go.Proofs.YtnbhdjadlbhknaaGreatDoor.D Go.Proofs.YtnbhdjadlbhknaaGreatDoor.J
set_option maxRecDepth 1000000
end Go.Proofs.YtnbhdjadlbhknaaGreatDoor.Q

namespace Go.Proofs.YtnbhdjadlbhknaaGreatDoor
open Go.Ax Go.Shelf Go.RowKit Go.ChangeShapes Go.WideShapes Go.ChangeAt
set_option maxRecDepth 1000000
def kH {K:Type}:DataW K->Int
 | .lit (.int _ a)=>a
 | _=>0
def toS {K:Type}:DataW K->ByteArray
 | .lit (.string l)=>⟨l.toArray⟩
 | _=>ByteArray.empty
def toB {K:Type}:DataW K->Bool
 | .lit (.bool b)=>b
 | _=>false
theorem gF {K:Type} {k:IntKind} {d:DataW K} (h:(Sh.int k).wf d):(Sh.int k).enc d=[.y (.int k (kH d))]:=by
 obtain ⟨k',n,rfl,_⟩:=h
 rfl
theorem sj {K:Type} {d:DataW K} (h:Sh.str.wf d):Sh.str.enc d=[.y (.string (toS d))]:=by
 obtain ⟨l,rfl,_⟩:=h
 rfl
theorem Mg {K:Type} {d:DataW K} (h:Sh.bool.wf d):Sh.bool.enc d=[.y (.bool (toB d))]:=by
 obtain ⟨l,rfl⟩:=h
 rfl
theorem p9 {K:Type} (fs:List Sh) (ds:List (DataW K)):(Sh.st fs).enc (.agg ds)=Sh.FM fs ds:=by simp only [Sh.enc]
theorem lg {K:Type} (s:Sh) (r:List Sh) (d:DataW K) (ds:List (DataW K)):Sh.FM (s::r) (d::ds)=s.enc d++Sh.FM r ds:=by simp only [Sh.FM]
theorem nH {K:Type} (l:List (DataW K)):Sh.FM [] l=[]:=by simp only [Sh.FM]
theorem agI {P:Program} {W:World} {r:Reach} {base:Nat} {t:TypeId} {v:Value} {fs:Array Field} {l:List AV} {H:HH} {E:Env} (hu:P.underlying t=some (.struct fs)) (hv:Value.okWide P W r base t v) (h:aI l H E v.cells.toList):Rel (.agg l) H E v:=by
 obtain ⟨cs,rfl,_⟩:=okWide_struct hu hv
 exact ⟨cs,rfl,h⟩
theorem Tryz.own:ownKnob Tryz.prog.godebug=Option.none:=by kernel_rfl
theorem Tryz.laidOut:laidOutB Tryz.prog=true:=by kernel_rfl
theorem Tryz.mapsRowed:mapsRowed Tryz.prog=true:=by kernel_rfl
theorem Tryz.oC:oC Tryz.prog=true:=by kernel_rfl
theorem Oq:Tryz.prog.underlying 4=some .bool:=by kernel_rfl
def yJ (P:Program) (t:TypeId):Option (List TypeId):=match P.underlying t with | some (.struct fs)=>some (fs.toList.map (·.type)) | _=>Option.none
theorem qj {P:Program} {t:TypeId} {l:List TypeId} (h:yJ P t=some l):∃ fs,P.underlying t=some (.struct fs)/\fs.toList.map (·.type)=l:=by
 unfold yJ at h
 split at h
 · rename_i fs hu
   exact ⟨fs,hu,Option.some.inj h⟩
 · cases h
def oo:Sh:=.st [.int .u64,.str,.sl (.int .u8),.int .u64,.int .u64]
def jw {K:Type}:DataW K->Rec
 | .agg [a,b,c,d,e]=>⟨kH a,toS b,bS kH c,kH d,kH e⟩
 | _=>default
theorem aa0 {K:Type} {d:DataW K} (hd:(Sh.sl (.int .u8)).wf d) {H:HH} {E:Env} {v:Value} (h:Rel (vE (.int .u8) d) H E v):Rel (bn true (bS kH d)) H E v:=E9 (encA:=aD) (fun x hx=>gF hx) hd h
theorem Uz {K:Type} {d:DataW K} (hd:oo.wf d):∃ a b c e f,d=.agg [a,b,c,e,f]/\(Sh.sl (.int .u8)).wf c/\oo.enc d=[.y (.int .u64 (kH a)),.y (.string (toS b)),vE (.int .u8) c,.y (.int .u64 (kH e)),.y (.int .u64 (kH f))]:=by
 obtain ⟨ds,rfl,d1,r1,rfl,w1,d2,r2,rfl,w2,d3,r3,rfl,w3,d4,r4,rfl,w4,d5,r5,rfl,w5,rfl⟩:=hd
 refine ⟨d1,d2,d3,d4,d5,rfl,w3,?_⟩
 simp only [oo,p9,lg,nH,gF w1,sj w2,u7,gF w4,gF w5]
 rfl
theorem RH {K:Type} {d:DataW K} (hd:oo.wf d) (j:Nat) (hj:j<5) (H:HH) (E:Env) (v:Value) (h:Rel (Ax.get (oo.enc d) j) H E v):Rel (Ax.get (encR (jw d)) j) H E v:=by
 obtain ⟨a,b,c,e,f,rfl,wc,he⟩:=Uz hd
 rw [he] at h
 match j,hj with
 | 0,_=>exact h
 | 1,_=>exact h
 | 2,_=>exact aa0 wc h
 | 3,_=>exact h
 | 4,_=>exact h
theorem ZW {K:Type} {d:DataW K} (hd:(Sh.sl oo).wf d) {H:HH} {E:Env} {v:Value} (h:Rel (vE oo d) H E v):Rel (bZ true (bS jw d)) H E v :=
 RL (encA:=encR) (fun x hx j hj H E v=>RH hx j hj H E v) hd h
theorem aez:Tryz.prog.underlying 26=some (.slice 54):=by kernel_rfl
theorem fQ:Tryz.prog.bytesOf 54=64:=by kernel_rfl
theorem Sw {K:Type} {d:DataW K} (hw:(d.weights Tryz.prog 26).all (·<=reachBytes)=true):(bS jw d).length*64<=140737488351232:=by
 have:=nL jw aez hw
 rwa [fQ] at this
def tJ:Sh:=.st [.str,.int .u64]
def toC {K:Type}:DataW K->Con
 | .agg [a,b]=>⟨toS a,kH b⟩
 | _=>default
theorem Es {K:Type} {d:DataW K} (h:(Sh.int .u64).wf d):K8 (kH d):=by
 obtain ⟨k,n,rfl,w⟩:=h
 have:=bounds_u64 w
 exact ⟨by show 0<=n;omega,by show n<_;omega⟩
theorem Pk {K:Type} {d:DataW K} (h:tJ.wf d):tJ.enc d=aJ (toC d)/\K8 (toC d).off:=by
 obtain ⟨ds,rfl,d1,r1,rfl,w1,d2,r2,rfl,w2,rfl⟩:=h
 refine ⟨?_,Es w2⟩
 simp only [tJ,p9,lg,nH,sj w1,gF w2]
 rfl
theorem UO {K:Type} {d:DataW K} (h:(Sh.sl tJ).wf d):wfC (bS toC d):=by
 rcases h with rfl | ⟨xs,r,rfl,hx⟩
 · intro y hy;cases hy
 · intro y hy
   obtain ⟨x,hx',rfl⟩:=List.mem_map.1 hy
   exact (Pk (hx x hx')).2
theorem afS {K:Type} {d:DataW K} (hd:(Sh.sl tJ).wf d) {H:HH} {E:Env} {v:Value} (h:Rel (vE tJ d) H E v):Rel (dP true (bS toC d)) H E v:=E9 (fun x hx=>(Pk hx).1) hd h
theorem afj:Tryz.prog.underlying 28=some (.slice 83):=by kernel_rfl
theorem xQ:Tryz.prog.bytesOf 83=24:=by kernel_rfl
def sW:Sh:=.st [.int .u64,.int .u64,.bool,.int .u64]
def pI {K:Type}:DataW K->P.Producer
 | .agg [a,b,c,e]=>⟨kH a,kH b,toB c,kH e⟩
 | _=>default
theorem FP {K:Type} {d:DataW K} (h:sW.wf d):sW.enc d=P.ay (pI d)/\K8 (pI d).offset:=by
 obtain ⟨ds,rfl,d1,r1,rfl,w1,d2,r2,rfl,w2,d3,r3,rfl,w3,d4,r4,rfl,w4,rfl⟩:=h
 refine ⟨?_,Es w4⟩
 simp only [sW,p9,lg,nH,gF w1,gF w2,Mg w3,gF w4]
 rfl
theorem TN {K:Type} {d:DataW K} (h:(Sh.sl sW).wf d):∀ x∈bS pI d,0<=x.offset/\x.offset<18446744073709551616:=by
 rcases h with rfl | ⟨xs,r,rfl,hx⟩
 · intro y hy;cases hy
 · intro y hy
   obtain ⟨x,hx',rfl⟩:=List.mem_map.1 hy
   exact (FP (hx x hx')).2
theorem ae9 {K:Type} {d:DataW K} (hd:(Sh.sl sW).wf d) {H:HH} {E:Env} {v:Value} (h:Rel (vE sW d) H E v):Rel (P.bG true (bS pI d)) H E v:=E9 (fun x hx=>(FP hx).1) hd h
theorem ac8:Tryz.prog.underlying 27=some (.slice 80):=by kernel_rfl
theorem abv:Tryz.prog.bytesOf 80=32:=by kernel_rfl
def L_:Sh:=.st [.str,.str]
def Lp {K:Type}:DataW K->kT
 | .agg [a,b]=>⟨toS a,toS b⟩
 | _=>default
theorem Rj {K:Type} {d:DataW K} (h:L_.wf d):L_.enc d=nO (Lp d):=by
 obtain ⟨ds,rfl,d1,r1,rfl,w1,d2,r2,rfl,w2,rfl⟩:=h
 simp only [L_,p9,lg,nH,sj w1,sj w2]
 rfl
def oV:Sh:=.st [L_,.int .u64,.int .u64,.sl oo,.sl sW,.sl tJ]
def rC {K:Type}:DataW K->Part
 | .agg [a,b,c,e,f,g]=>⟨Lp a,kH b,kH c,bS jw e,bS pI f,bS toC g⟩
 | _=>default
theorem Vg {K:Type} {d:DataW K} (hd:oV.wf d) {H:HH} {E:Env} {vs:List Value} (h:aI (oV.enc d) H E vs):aI (aU true (rC d)) H E vs:=by
 obtain ⟨ds,rfl,d1,r1,rfl,w1,d2,r2,rfl,w2,d3,r3,rfl,w3,d4,r4,rfl,w4,d5,r5,rfl,w5,d6,r6,rfl,w6,rfl⟩:=hd
 have e:oV.enc (DataW.agg [d1,d2,d3,d4,d5,d6])=[.y (.string (Lp d1).lo),.y (.string (Lp d1).hi),.y (.int .u64 (kH d2)),.y (.int .u64 (kH d3)),vE oo d4,vE sW d5,vE tJ d6]:=by
  simp only [oV,p9,lg,nH,u7,Rj w1,gF w2,gF w3]
  rfl
 rw [e] at h
 obtain ⟨v1,x1,rfl,h1,v2,x2,rfl,h2,v3,x3,rfl,h3,v4,x4,rfl,h4,v5,x5,rfl,h5,v6,x6,rfl,h6,v7,x7,rfl,h7,rfl⟩:=h
 exact ⟨_,_,rfl,h1,_,_,rfl,h2,_,_,rfl,h3,_,_,rfl,h4,_,_,rfl,ZW w4 h5,_,_,rfl,ae9 w5 h6,_,_,rfl,afS w6 h7,rfl⟩
theorem WH:∃ fs,Tryz.prog.underlying 30=some (.struct fs)/\fs.toList.map (·.type)=[24,25,25,26,27,28]:=qj (by kernel_rfl)
structure Qg (p:Part):Prop where
 rl:p.recs.length*64<=140737488351232
 pl:p.prods.length*32<=140737488351232
 cl:p.cons.length*24<=140737488351232
 po:∀ x∈p.prods,0<=x.offset/\x.offset<18446744073709551616
 co:wfC p.cons
theorem XT {K:Type} {d:DataW K} (hd:oV.wf d) (hw:(d.weights Tryz.prog 30).all (·<=reachBytes)=true):Qg (rC d):=by
 obtain ⟨ds,rfl,d1,r1,rfl,w1,d2,r2,rfl,w2,d3,r3,rfl,w3,d4,r4,rfl,w4,d5,r5,rfl,w5,d6,r6,rfl,w6,rfl⟩:=hd
 obtain ⟨fs,hf,ht⟩:=WH
 have h:=qw hf hw
 rw [ht] at h
 obtain ⟨h1,h⟩:=fK h
 obtain ⟨h2,h⟩:=fK h
 obtain ⟨h3,h⟩:=fK h
 obtain ⟨h4,h⟩:=fK h
 obtain ⟨h5,h⟩:=fK h
 obtain ⟨h6,h⟩:=fK h
 have k5:=nL pI ac8 h5
 have k6:=nL toC afj h6
 rw [abv] at k5
 rw [xQ] at k6
 exact ⟨Sw h4,k5,k6,TN w5,UO w6⟩
end Go.Proofs.YtnbhdjadlbhknaaGreatDoor

namespace Go.Proofs.YtnbhdjadlbhknaaGreatDoor.Q
open Go.Ax Go.Shelf Go.RowKit Go.ChangeShapes Go.WideShapes Go.ChangeAt Go.Proofs.YtnbhdjadlbhknaaGreatDoor Go.Proofs.YtnbhdjadlbhknaaGreatDoor.D Go.Proofs.YtnbhdjadlbhknaaGreatDoor.J
set_option maxRecDepth 1000000
structure Sml (p:Part):Prop where
 lo:p.rng.lo.size<=1048576
 hi:p.rng.hi.size<=1048576
 ep:dK p.epoch
 fr:dK p.frozen
 rn:p.recs.length<=1048576
 pn:p.prods.length<=1048576
 cn:p.cons.length<=1048576
 rv:∀ x∈p.recs,(dK x.off/\dK x.prod/\dK x.seq)/\x.key.size<=1048576/\x.val.length<=1048576
 pv:∀ x∈p.prods,dK x.id/\dK x.seq/\dK x.offset
 cv:∀ x∈p.cons,x.name.size<=1048576/\dK x.off
theorem Bg {α:Type} (f:α->List Int) (c:Nat):∀ l:List α,(∀ x∈l,(f x).length<=c)->(l.flatMap f).length<=l.length*c:=by
 intro l
 induction l with
 | nil=>intro _;simp
 | cons x l ih =>
   intro h
   have h1:=h x (by simp)
   have h2:=ih fun y hy=>h y (by simp [hy])
   rw [List.flatMap_cons,List.length_append,List.length_cons,Nat.succ_mul]
   omega
theorem Km {α:Type} [Inhabited α] {l:List α} {k:Nat} (h:k<l.length):l.getD k default∈l:=by
 simp [h]
theorem WJ {x:Rec} (h1:x.key.size<=1048576) (h2:x.val.length<=1048576):(g_ x).length<=2097300:=by
 have a1:=bD (aM x.key)
 have a2:=bD x.val
 have a3:=aG x.off
 have a4:=aG x.prod
 have a5:=aG x.seq
 have b1:=dF x.key
 simp only [g_,List.length_append]
 omega
theorem vC {l:List Rec} (hn:l.length<=1048576) (h:∀ x∈l,x.key.size<=1048576/\x.val.length<=1048576):(eD l).length<=2199200000000:=by
 have h1:=Bg g_ 2097300 l fun x hx=>WJ (h x hx).1 (h x hx).2
 have h2:=Nat.mul_le_mul_right 2097300 hn
 have h3:=aG (l.length:Int)
 simp only [eD,List.length_append]
 omega
theorem LP {p:Part} (h:Sml p):(f_ p).length<=70368744177664:=by
 have h1:=vC h.rn fun x hx=>(h.rv x hx).2
 have h2:=Bg kI 40 p.prods fun x _=>by
  have a1:=aG x.id
  have a2:=aG x.seq
  have a3:=aG x.offset
  have a4:(iQ x.here).length=1:=rfl
  simp only [kI,List.length_append]
  omega
 have h3:=Bg pQ 1048700 p.cons fun x hx=>by
  have a1:=aG x.off
  have a2:=bD (aM x.name)
  have a3:=dF x.name
  have a4:=(h.cv x hx).1
  simp only [pQ,List.length_append]
  omega
 have h4:=Nat.mul_le_mul_right 40 h.pn
 have h5:=Nat.mul_le_mul_right 1048700 h.cn
 have a1:=bD (aM p.rng.lo)
 have a2:=bD (aM p.rng.hi)
 have b1:=dF p.rng.lo
 have b2:=dF p.rng.hi
 have c1:=h.lo
 have c2:=h.hi
 have a3:=aG p.epoch
 have a4:=aG p.frozen
 have a5:=aG (p.prods.length:Int)
 have a6:=aG (p.cons.length:Int)
 simp only [f_,ny,jf,Jf,eu,List.length_append,List.take_length]
 omega
theorem af2 {p:Part} (h:Sml p):JH p where
 rg:=⟨by have:=h.lo;omega,by have:=h.hi;omega⟩
 ep:=h.ep
 fr:=h.fr
 ls:=⟨by have:=h.rn;omega,by have:=vC h.rn fun x hx=>(h.rv x hx).2;omega,fun k hk=>by
  obtain ⟨⟨h1,h2,h3⟩,h4,h5⟩:=h.rv _ (Km hk)
  exact ⟨h1,h2,h3,by omega,by omega⟩⟩
 pn:=by have:=h.pn;omega
 cn:=by have:=h.cn;omega
 n:=LP h
 pr:=fun k hk=>h.pv _ (Km hk)
 co:=fun k hk=>by
  obtain ⟨h1,h2⟩:=h.cv _ (Km hk)
  exact ⟨by omega,h2⟩
theorem o9 {K:Type} {d:DataW K} (h:(Sh.int .u64).wf d):dK (kH d):=by
 obtain ⟨h0,h1⟩:=Es h
 exact ⟨h0,h1⟩
theorem BA {H:Type} (d:DataW H):1<=Rows.uptoBulk d:=by
 cases d with
 | lit l=>cases l<;>simp [Rows.uptoBulk]
 | nil=>simp [Rows.uptoBulk]
 | ptr d=>simp [Rows.uptoBulk]
 | slice elems spare=>simp [Rows.uptoBulk]
 | agg parts=>simp [Rows.uptoBulk]
 | iface t d=>simp [Rows.uptoBulk]
 | map entries=>simp [Rows.uptoBulk]
 | held h=>simp [Rows.uptoBulk]
theorem nT {H:Type} {d:DataW H} {l:List (DataW H)} (h:d∈l):Rows.uptoBulk d<=Rows.uptoBulkAll l:=by
 induction l with
 | nil=>cases h
 | cons x r ih =>
   simp only [Rows.uptoBulkAll]
   cases List.mem_cons.1 h with
   | inl e=>subst e;omega
   | inr e=>have:=ih e;omega
theorem zU {H:Type} (l:List (DataW H)):l.length<=Rows.uptoBulkAll l:=by
 induction l with
 | nil=>simp [Rows.uptoBulkAll]
 | cons x r ih=>have:=BA x;simp only [Rows.uptoBulkAll,List.length_cons];omega
theorem jq {K α:Type} (to:DataW K->α) (d:DataW K):(bS to d).length<=Rows.uptoBulk d:=by
 cases d with
 | slice elems spare =>
   have:=zU elems
   simp only [Rows.uptoBulk,bS,List.length_map]
   omega
 | _=>simp [bS]
theorem eZ {H:Type} {d:DataW H} {l:List (DataW H)} (h:d∈l):Rows.uptoBulk d<=Rows.uptoBulk (DataW.agg l):=by
 have:=nT h
 simp only [Rows.uptoBulk]
 omega
theorem jZ {K:Type} {d:DataW K} (h:Sh.str.wf d):(toS d).size<=Rows.uptoBulk d:=by
 obtain ⟨l,rfl,_⟩:=h
 show (toS (DataW.lit (.string l))).size<=_
 simp only [toS,Rows.uptoBulk]
 first | omega | (simp [ByteArray.size]) | skip
theorem mem_of {K α:Type} {e:Sh} {to:DataW K->α} {Q:α->Prop} {M:Nat} (h:∀ d,e.wf d->Rows.uptoBulk d<=M->Q (to d)) {d:DataW K} (hd:(Sh.sl e).wf d) (hb:Rows.uptoBulk d<=M):∀ x∈bS to d,Q x:=by
 rcases hd with rfl | ⟨xs,r,rfl,hx⟩
 · intro y hy;cases hy
 · intro y hy
   obtain ⟨x,hx',rfl⟩:=List.mem_map.1 hy
   refine h x (hx x hx') (Nat.le_trans ?_ hb)
   have:=nT hx'
   simp only [Rows.uptoBulk]
   omega
theorem uq {K:Type} (d:DataW K) (h:oo.wf d) (hb:Rows.uptoBulk d<=1048576):(dK (jw d).off/\dK (jw d).prod/\dK (jw d).seq)/\(jw d).key.size<=1048576/\(jw d).val.length<=1048576:=by
 obtain ⟨ds,rfl,d1,r1,rfl,w1,d2,r2,rfl,w2,d3,r3,rfl,w3,d4,r4,rfl,w4,d5,r5,rfl,w5,rfl⟩:=h
 exact ⟨⟨o9 w1,o9 w4,o9 w5⟩,Nat.le_trans (jZ w2) (Nat.le_trans (eZ (by simp)) hb),Nat.le_trans (jq kH d3) (Nat.le_trans (eZ (by simp)) hb)⟩
theorem abK {K:Type} (d:DataW K) (h:sW.wf d) (_:Rows.uptoBulk d<=1048576):dK (pI d).id/\dK (pI d).seq/\dK (pI d).offset:=by
 obtain ⟨ds,rfl,d1,r1,rfl,w1,d2,r2,rfl,w2,d3,r3,rfl,w3,d4,r4,rfl,w4,rfl⟩:=h
 exact ⟨o9 w1,o9 w2,o9 w4⟩
theorem abt {K:Type} (d:DataW K) (h:tJ.wf d) (hb:Rows.uptoBulk d<=1048576):(toC d).name.size<=1048576/\dK (toC d).off:=by
 obtain ⟨ds,rfl,d1,r1,rfl,w1,d2,r2,rfl,w2,rfl⟩:=h
 exact ⟨Nat.le_trans (jZ w1) (Nat.le_trans (eZ (by simp)) hb),o9 w2⟩
theorem aas {K:Type} {d:DataW K} (h:oV.wf d) (hb:Rows.uptoBulk d<=1048576):Sml (rC d):=by
 obtain ⟨ds,rfl,d1,r1,rfl,w1,d2,r2,rfl,w2,d3,r3,rfl,w3,d4,r4,rfl,w4,d5,r5,rfl,w5,d6,r6,rfl,w6,rfl⟩:=h
 have b1:=Nat.le_trans (eZ (d:=d1) (l:=[d1,d2,d3,d4,d5,d6]) (by simp)) hb
 have b4:=Nat.le_trans (eZ (d:=d4) (l:=[d1,d2,d3,d4,d5,d6]) (by simp)) hb
 have b5:=Nat.le_trans (eZ (d:=d5) (l:=[d1,d2,d3,d4,d5,d6]) (by simp)) hb
 have b6:=Nat.le_trans (eZ (d:=d6) (l:=[d1,d2,d3,d4,d5,d6]) (by simp)) hb
 obtain ⟨es,rfl,e1,t1,rfl,v1,e2,t2,rfl,v2,rfl⟩:=w1
 exact ⟨Nat.le_trans (jZ v1) (Nat.le_trans (eZ (l:=[e1,e2]) (by simp)) b1),Nat.le_trans (jZ v2) (Nat.le_trans (eZ (l:=[e1,e2]) (by simp)) b1),o9 w2,o9 w3,
  Nat.le_trans (jq jw d4) b4,Nat.le_trans (jq pI d5) b5,Nat.le_trans (jq toC d6) b6,
  mem_of (to:=jw) (Q:=fun x=>(dK x.off/\dK x.prod/\dK x.seq)/\x.key.size<=1048576/\x.val.length<=1048576) uq w4 b4,
  mem_of (to:=pI) (Q:=fun x=>dK x.id/\dK x.seq/\dK x.offset) abK w5 b5,
  mem_of (to:=toC) (Q:=fun x=>x.name.size<=1048576/\dK x.off) abt w6 b6⟩
theorem ac5 {p:Part} (h:Qg p):uz p:=by
 obtain ⟨h1,h2,h3,h4,h5⟩:=h
 exact ⟨by omega,by omega,by omega,h4,h5⟩
end Go.Proofs.YtnbhdjadlbhknaaGreatDoor.Q

namespace Go.Proofs.YtnbhdjadlbhknaaGreatDoor.J
open Go.Ax
set_option maxRecDepth 1000000
theorem Mi (p:Part):Q.f_ p=gP p:=by
 have e1:Q.eD p.recs=gq p.recs:=rfl
 have e2:(Q.kI:P.Producer->List Int)=kI:=rfl
 have e3:(Q.pQ:Con->List Int)=pQ:=rfl
 have e4:Q.eu p.rng=eu p.rng:=rfl
 unfold Q.f_ Q.ny Q.jf Q.Jf gP Jf nP zI
 rw [e1,e2,e3,e4,List.take_length,List.take_length]
 simp only [List.append_assoc]
structure aga (x:Rec):Prop where
 u:Q.dK x.off/\Q.dK x.prod/\Q.dK x.seq
 k:x.key.size<=1048576
 v:x.val.length<=1048576
theorem Rv {l:List Rec} (hn:l.length<=1048576) (h:∀ x∈l,aga x):Q.HV l:=by
 have hb:=Q.vC hn fun x hx=>⟨(h x hx).k,(h x hx).v⟩
 refine ⟨by omega,by omega,fun k hk=>?_⟩
 have hx:=h _ (lG hk)
 exact ⟨hx.u.1,hx.u.2.1,hx.u.2.2,by have:=hx.k;omega,by have:=hx.v;omega⟩
theorem sU {v:Int} (h:nR v):Q.dK v:=⟨h.lo,h.hi⟩
theorem aaq {v:Int} (h:Q.dK v):nR v:=⟨h.v0,h.v1⟩
theorem acW {x:R.gI} (h:Qo x):AL x:=by
 have hn:=h.recs.n
 refine ⟨h.err,sU h.off,Rv (by omega) fun y hy=>?_⟩
 have:=h.recs.ok y hy
 exact ⟨⟨sU this.u.off,sU this.u.prod,sU this.u.seq⟩,by have:=this.k;omega,by have:=this.v;omega⟩
theorem ahE:BX ⟨165,0,false,[]⟩:=⟨⟨by decide,by decide⟩,jR,(fun k hk=>by cases hk),⟨by show (iK ⟨165,0,false,[]⟩).length+200<=_;decide⟩⟩
def Po (w:List Int):R.bJ:=if (lS w).2=0 then (lS w).1 else default
theorem acO {p:Part} {b:List Int} (hp:PtT p) (hy:D.uz p) (hk:Q.zR p) (hb:ig b):ApR p b (R.dQ p (Po b)) (R.dX p (Po b))/\QaR p b (R.dQ p (Po b)) (R.dX p (Po b))/\eO (R.dQ p (Po b)):=by
 have of:=Ry hb
 have oc:nR (Po b).off:=by
  unfold Po
  split
  · exact of
  · exact jR
 cases ho:aW p
 · have d1:R.dQ p (Po b)=default:=by unfold R.dQ R.RQ;rw [if_pos ho]
   have d2:R.dX p (Po b)=⟨165,0,false,[]⟩:=by unfold R.dX R.OE;rw [if_pos ho]
   have u1:=JW 165 ⟨by decide,by decide⟩
   refine ⟨⟨hb,hy.isIn,⟨of.lo,of.hi⟩,rfl,rfl,?_⟩,⟨hb,hk,hy.isIn,⟨of.lo,of.hi⟩,rfl,rfl,?_⟩,?_⟩
   · rw [d2];exact ahE
   · rw [d2];exact u1
   · rw [d1];exact ⟨by decide,by decide,by decide,fun k hk=>by cases hk⟩
 · have hx:=aaM (aed hp ho) oc
   exact ⟨⟨hb,hy.isIn,⟨of.lo,of.hi⟩,rfl,rfl,aey hx⟩,⟨hb,hk,hy.isIn,⟨of.lo,of.hi⟩,rfl,rfl,acW hx⟩,aeJ hy ho⟩
theorem abS {l:List Int} (h:ig l):(tL l).1.recs.length<=64:=by
 unfold tL
 split
 · have k3:=jJ (bg (bg (EY h.n h.b)).1).1
   have hc:=count_le (most:=64) k3
   have:=sK l (aK l (dM l (aB l (ji l default).2).2).2 64).1.toNat (aK l (dM l (aB l (ji l default).2).2).2 64).2 []
   show (jY l _ _ []).1.length<=64
   simp at this
   have e:(ji l default).2=(aB l default).2:=rfl
   rw [<- e] at hc
   refine Nat.le_trans this ?_
   omega
 · show (0:Nat)<=64
   omega
structure Y6 (c:R.bJ) (x:R.gI) (p:Part) (b:List Int):Prop where
 c1:Tv c
 c2:yU c
 x1:BX x
 x2:AL x
 p1:PtU p
 p2:Q.JH p
 t:PtT p
 y:D.uz p
 k:Q.zR p
 b1:ig b
theorem agR (c:R.bJ) (x:R.gI) (p:Part) (b:List Int) (h:Y6 c x p b):(bM true).Sat (au Tryz.prog 9 [.agg (Ra c x p b)] []):=by
 obtain ⟨h1,h2,h3,h4,h5,h6,h7,h8,h9,h10⟩:=h
 obtain ⟨d,e,e1⟩:∃ d e,(d,e)=lS b:=⟨_,_,rfl⟩
 obtain ⟨y,f,e2⟩:∃ d e,(d,e)=tL b:=⟨_,_,rfl⟩
 obtain ⟨q,j,e3⟩:∃ d e,(d,e)=mo b:=⟨_,_,rfl⟩
 obtain ⟨a1,a2,a3⟩:=acO h7 h8 h9 h10
 have l2:=abS h10
 rw [<- e2] at l2
 have l3:=abz h10
 rw [<- e3] at l3
 simp only at l2 l3
 generalize R.dQ p (Po b)=s at a1 a2 a3
 generalize R.dX p (Po b)=z at a1 a2
 have l2':y.recs.length<=9223372036854775806:=by omega
 have s1:=R.Dq q
 have s2:=R.Dq s
 have s3:=KV y
 refine aR (ht:=blH c x p b d e y f q j s z) Tryz.mixed rfl ?_
 rw [Yf c x p b d e y f q j s z]
 unfold af4 oL
 simp only [Mi,Nat.zero_add,h1,h2,h3,h4,h5,h6,h10,e1,e2,e3,a1,a2,a3,l2',l3,s1,s2,s3,aO,beq_self_eq_true]
 simp
end Go.Proofs.YtnbhdjadlbhknaaGreatDoor.J

namespace Go.Proofs.YtnbhdjadlbhknaaGreatDoor
open Go.Ax Go.Shelf Go.RowKit Go.ChangeShapes Go.WideShapes Go.ChangeAt
set_option maxRecDepth 1000000
def E8:Sh:=.st [.int .i64,.int .u64,.int .u64,.int .u64,.str,.sl (.int .u8),.int .u64,.int .i64,.str,.int .u64]
def QD {K:Type}:DataW K->R.bJ
 | .agg [a,b,c,d,e,f,g,h,i,j]=>⟨kH a,kH b,kH c,kH d,toS e,bS kH f,kH g,kH h,toS i,kH j⟩
 | _=>default
theorem abp {K:Type} {d:DataW K} (hd:E8.wf d):∃ a1 a2 a3 a4 a5 a6 a7 a8 a9 a10,d=.agg [a1,a2,a3,a4,a5,a6,a7,a8,a9,a10]/\(Sh.sl (.int .u8)).wf a6/\(Sh.int .u64).wf a7/\E8.enc d=[.y (.int .i64 (kH a1)),.y (.int .u64 (kH a2)),.y (.int .u64 (kH a3)),.y (.int .u64 (kH a4)),.y (.string (toS a5)),vE (.int .u8) a6,.y (.int .u64 (kH a7)),.y (.int .i64 (kH a8)),.y (.string (toS a9)),.y (.int .u64 (kH a10))]:=by
 obtain ⟨ds,rfl,d1,r1,rfl,w1,d2,r2,rfl,w2,d3,r3,rfl,w3,d4,r4,rfl,w4,d5,r5,rfl,w5,d6,r6,rfl,w6,d7,r7,rfl,w7,d8,r8,rfl,w8,d9,r9,rfl,w9,d10,r10,rfl,w10,rfl⟩:=hd
 refine ⟨d1,d2,d3,d4,d5,d6,d7,d8,d9,d10,rfl,w6,w7,?_⟩
 simp only [E8,p9,lg,nH,gF w1,gF w2,gF w3,gF w4,sj w5,u7,gF w7,gF w8,sj w9,gF w10]
 rfl
theorem ach:Tryz.prog.globalNamed "errors.errorType" = some 0:=by kernel_rfl
theorem acN:(Tryz.prog.cutTypes.find? (·.1 == "internal/reflectlite.rtype")).map (·.2)=some 191:=by kernel_rfl
theorem aaJ:((List.range Tryz.prog.types.size).filter fun t=>Tryz.prog.rowNamed t [101,114,114,111,114])=[74]:=by kernel_rfl
theorem afw {laid:List (String×DataW Unit)} {W:World} (hf:(laid.filter fun x=>x.2.handleName?.isSome)=[("errors.errorType",Rows.laid_errors_errorType)]) (h:laidMetH Tryz.prog laid W):adU W:=by
 unfold laidMetH at h
 rw [hf] at h
 obtain ⟨name,u,ty,e1,e2,e3,e4,e5⟩:=h.2 _ (List.mem_singleton.2 rfl)
 have en:name=[101,114,114,111,114]:=(Option.some.inj e1).symm
 subst en
 obtain rfl:=Option.some.inj (acN.symm.trans e2)
 have hm:ty∈(List.range Tryz.prog.types.size).filter fun t=>Tryz.prog.rowNamed t [101,114,114,111,114]:=List.mem_filter.2 ⟨List.mem_range.2 e3,e4⟩
 rw [aaJ] at hm
 obtain rfl:=List.mem_singleton.1 hm
 have hc:=World.var?_cell ach e5 0
 intro p hp
 obtain rfl:=List.mem_singleton.1 hp
 exact ⟨by kernel_rfl,hc⟩
noncomputable def Yn (os:Os):World :=
 { World.holding Tryz.prog os ⟨#[],#[],[]⟩ with heap:=(World.holding Tryz.prog os ⟨#[],#[],[]⟩).heap.modify 0 fun
  | .cells _ t frozen=>.cells #[.iface 191 (.agg #[typeHandle Tryz.prog 74])] t frozen
  | o=>o }
theorem G7 {P:Program} {w0:World} {laid:List (String×DataW Unit)} (args:Array Value) (hf:w0.layFits P laid []=true) (hi:w0.layIfaces P laid (w0.layVars P laid)=true) :
 laidMet P laid ((w0.layVars P laid).forCall (fun _ _=>0) ⟨#[],args,[]⟩).memory:=by
 have e1:(laid.filter fun x=>(laid.map (·.1)).contains x.1)=laid:=List.filter_eq_self.2 fun x hx=>List.contains_iff_mem.2 (List.mem_map.2 ⟨x,hx,rfl⟩)
 have e2:(laid.filter fun x=>!(laid.map (·.1)).contains x.1)=[]:=List.filter_eq_nil_iff.2 fun x hx=>by rw [List.contains_iff_mem.2 (List.mem_map.2 ⟨x,hx,rfl⟩)];simp
 have h:laidMet P laid (w0.layVars P laid):=laidMet_layVars (w0:=w0) (laid.map (·.1)) [] (by rw [e1]) (by rw [e1];exact hf) (by rw [e1];exact hi) (by rw [e2];exact LaidIn.none)
 exact h.of_heap (by simp [World.memory,World.forCall,Input.heap])
end Go.Proofs.YtnbhdjadlbhknaaGreatDoor

namespace Go.Proofs.YtnbhdjadlbhknaaGreatDoor.J
open Go.Ax Go.Shelf Go.RowKit Go.ChangeShapes Go.WideShapes Go.ChangeAt
set_option maxRecDepth 1000000
theorem gX {K:Type} {d:DataW K} (h:(Sh.int .u64).wf d):nR (kH d):=by
 obtain ⟨h0,h1⟩:=Es h
 exact ⟨h0,h1⟩
theorem xK {K:Type} {d:DataW K} (h:(Sh.int .i64).wf d):jB (kH d):=by
 obtain ⟨k,n,rfl,w⟩:=h
 have:=bounds_i64 w
 exact ⟨by show _<=n;omega,by show n<_;omega⟩
theorem afL {K:Type} {d:DataW K} (h:(Sh.int .u8).wf d):0<=kH d/\kH d<256:=by
 obtain ⟨k,n,rfl,w⟩:=h
 have:=bounds_u8 w
 exact ⟨by show 0<=n;omega,by show n<_;omega⟩
theorem QL {K:Type} {d:DataW K} (h:(Sh.sl (.int .u8)).wf d):Bytes (bS kH d):=by
 rcases h with rfl | ⟨xs,r,rfl,hx⟩
 · exact Bytes.nil
 · exact ⟨fun y hy=>by
    obtain ⟨x,hx',rfl⟩:=List.mem_map.1 hy
    exact afL (hx x hx')⟩
theorem mem_of {K α:Type} {e:Sh} {to:DataW K->α} {Q:α->Prop} (h:∀ d,e.wf d->Q (to d)) {d:DataW K} (hd:(Sh.sl e).wf d):∀ x∈bS to d,Q x:=by
 rcases hd with rfl | ⟨xs,r,rfl,hx⟩
 · intro y hy;cases hy
 · intro y hy
   obtain ⟨x,hx',rfl⟩:=List.mem_map.1 hy
   exact h x (hx x hx')
theorem abI {K:Type} {d:DataW K} (h:oo.wf d):DX (jw d)/\Bytes (jw d).val:=by
 obtain ⟨ds,rfl,d1,r1,rfl,w1,d2,r2,rfl,w2,d3,r3,rfl,w3,d4,r4,rfl,w4,d5,r5,rfl,w5,rfl⟩:=h
 exact ⟨⟨gX w1,gX w4,gX w5⟩,QL w3⟩
theorem abl {K:Type} {d:DataW K} (h:sW.wf d):Db (pI d):=by
 obtain ⟨ds,rfl,d1,r1,rfl,w1,d2,r2,rfl,w2,d3,r3,rfl,w3,d4,r4,rfl,w4,rfl⟩:=h
 exact ⟨gX w1,gX w2,gX w4⟩
theorem aaW {K:Type} {d:DataW K} (h:tJ.wf d):nR (toC d).off:=by
 obtain ⟨ds,rfl,d1,r1,rfl,w1,d2,r2,rfl,w2,rfl⟩:=h
 exact gX w2
theorem afR {K:Type} {d:DataW K} (h:oV.wf d):PtT (rC d):=by
 obtain ⟨ds,rfl,d1,r1,rfl,w1,d2,r2,rfl,w2,d3,r3,rfl,w3,d4,r4,rfl,w4,d5,r5,rfl,w5,d6,r6,rfl,w6,rfl⟩:=h
 exact ⟨gX w2,gX w3,mem_of (to:=jw) (Q:=fun x=>DX x/\Bytes x.val) (fun d=>abI) w4,mem_of (fun d=>abl) w5,mem_of (to:=toC) (Q:=fun x=>nR x.off) (fun d=>aaW) w6⟩
theorem BA {H:Type} (d:DataW H):1<=Rows.uptoBulk d:=by
 cases d with
 | lit l=>cases l<;>simp [Rows.uptoBulk]
 | nil=>simp [Rows.uptoBulk]
 | ptr d=>simp [Rows.uptoBulk]
 | slice elems spare=>simp [Rows.uptoBulk]
 | agg parts=>simp [Rows.uptoBulk]
 | iface t d=>simp [Rows.uptoBulk]
 | map entries=>simp [Rows.uptoBulk]
 | held h=>simp [Rows.uptoBulk]
theorem nT {H:Type} {d:DataW H} {l:List (DataW H)} (h:d∈l):Rows.uptoBulk d<=Rows.uptoBulkAll l:=by
 induction l with
 | nil=>cases h
 | cons x r ih =>
   simp only [Rows.uptoBulkAll]
   cases List.mem_cons.1 h with
   | inl e=>subst e;omega
   | inr e=>have:=ih e;omega
theorem zU {H:Type} (l:List (DataW H)):l.length<=Rows.uptoBulkAll l:=by
 induction l with
 | nil=>simp [Rows.uptoBulkAll]
 | cons x r ih=>have:=BA x;simp only [Rows.uptoBulkAll,List.length_cons];omega
theorem jq {K α:Type} (to:DataW K->α) (d:DataW K):(bS to d).length<=Rows.uptoBulk d:=by
 cases d with
 | slice elems spare =>
   have:=zU elems
   simp only [Rows.uptoBulk,bS,List.length_map]
   omega
 | _=>simp [bS]
theorem eZ {H:Type} {d:DataW H} {l:List (DataW H)} (h:d∈l):Rows.uptoBulk d<=Rows.uptoBulk (DataW.agg l):=by
 have:=nT h
 simp only [Rows.uptoBulk]
 omega
theorem jZ {K:Type} {d:DataW K} (h:Sh.str.wf d):(toS d).size<=Rows.uptoBulk d:=by
 obtain ⟨l,rfl,_⟩:=h
 show (toS (DataW.lit (.string l))).size<=_
 simp only [toS,Rows.uptoBulk]
 first | omega | (simp [ByteArray.size]) | skip
theorem FR {H:Type} {l:List (DataW H)} (hk:Rows.uptoSmall H l=true):∀ d∈l,Rows.uptoBulk d<=1048576:=by
 have:Rows.uptoBulkAll l<=1048576:=of_decide_eq_true hk
 intro d hd
 exact Nat.le_trans (nT hd) this
theorem af7 {K:Type} {d:DataW K} (h:E8.wf d) (hb:Rows.uptoBulk d<=1048576):CmT (QD d):=by
 obtain ⟨ds,rfl,d1,r1,rfl,w1,d2,r2,rfl,w2,d3,r3,rfl,w3,d4,r4,rfl,w4,d5,r5,rfl,w5,d6,r6,rfl,w6,d7,r7,rfl,w7,d8,r8,rfl,w8,d9,r9,rfl,w9,d10,r10,rfl,w10,rfl⟩:=h
 have b5:=Nat.le_trans (Nat.le_trans (jZ w5) (eZ (l:=[d1,d2,d3,d4,d5,d6,d7,d8,d9,d10]) (by simp))) hb
 have b6:=Nat.le_trans (Nat.le_trans (jq kH d6) (eZ (l:=[d1,d2,d3,d4,d5,d6,d7,d8,d9,d10]) (by simp))) hb
 have b9:=Nat.le_trans (Nat.le_trans (jZ w9) (eZ (l:=[d1,d2,d3,d4,d5,d6,d7,d8,d9,d10]) (by simp))) hb
 exact ⟨⟨xK w1,gX w2,gX w3,gX w4,gX w7,xK w8,gX w10,by show (toS d5).size+(bS kH d6).length+(toS d9).size+1000<=_;omega⟩,QL w6⟩
theorem af' {K:Type} {d:DataW K} (hd:E8.wf d) {H:HH} {E:Env} {vs:List Value} (h:aI (E8.enc d) H E vs):aI (R.dR (QD d)) H E vs:=by
 obtain ⟨a1,a2,a3,a4,a5,a6,a7,a8,a9,a10,rfl,wc,_,he⟩:=abp hd
 rw [he] at h
 obtain ⟨v1,x1,rfl,h1,v2,x2,rfl,h2,v3,x3,rfl,h3,v4,x4,rfl,h4,v5,x5,rfl,h5,v6,x6,rfl,h6,h7⟩:=h
 exact ⟨_,_,rfl,h1,_,_,rfl,h2,_,_,rfl,h3,_,_,rfl,h4,_,_,rfl,h5,_,_,rfl,aa0 wc h6,h7⟩
def shX:Sh:=.st [.int .i64,.int .u64,.bool,.sl oo]
def toX {K:Type}:DataW K->R.gI
 | .agg [a,b,c,d]=>⟨kH a,kH b,toB c,bS jw d⟩
 | _=>default
def NS:Sh:=.st [E8,shX,oV,.sl (.int .u8)]
def adw {K:Type}:DataW K->R.bJ
 | .agg [a,_,_,_]=>QD a
 | _=>default
def acU {K:Type}:DataW K->R.gI
 | .agg [_,b,_,_]=>toX b
 | _=>default
def afe {K:Type}:DataW K->Part
 | .agg [_,_,c,_]=>rC c
 | _=>default
def ad_ {K:Type}:DataW K->List Int
 | .agg [_,_,_,e]=>bS kH e
 | _=>[]
theorem oN {H:HH} {E:Env}:∀ {a b:List AV} {vs:List Value},aI (a++b) H E vs->∃ x y,vs=x++y/\aI a H E x/\aI b H E y
 | [],_,vs,h=>⟨[],vs,rfl,rfl,h⟩
 | _::_,_,_,h=>by
   obtain ⟨v,r,rfl,h1,h2⟩:=h
   obtain ⟨x,y,rfl,h3,h4⟩:=oN h2
   exact ⟨v::x,y,rfl,⟨v,x,rfl,h1,h3⟩,h4⟩
theorem ah6 {K:Type} {d:DataW K} (hd:shX.wf d) {H:HH} {E:Env} {vs:List Value} (h:aI (shX.enc d) H E vs):aI (R.oI (toX d)) H E vs:=by
 obtain ⟨ds,rfl,d1,r1,rfl,w1,d2,r2,rfl,w2,d3,r3,rfl,w3,d4,r4,rfl,w4,rfl⟩:=hd
 have e:shX.enc (DataW.agg [d1,d2,d3,d4])=[.y (.int .i64 (kH d1)),.y (.int .u64 (kH d2)),.y (.bool (toB d3)),vE oo d4]:=by
  simp only [shX,p9,lg,nH,u7,gF w1,gF w2,Mg w3]
  rfl
 rw [e] at h
 obtain ⟨v1,x1,rfl,h1,v2,x2,rfl,h2,v3,x3,rfl,h3,v4,x4,rfl,h4,rfl⟩:=h
 exact ⟨_,_,rfl,h1,_,_,rfl,h2,_,_,rfl,h3,_,_,rfl,ZW w4 h4,rfl⟩
theorem adM {K:Type} {d:DataW K} (hd:NS.wf d) {H:HH} {E:Env} {vs:List Value} (h:aI (NS.enc d) H E vs):aI (Ra (adw d) (acU d) (afe d) (ad_ d)) H E vs:=by
 obtain ⟨ds,rfl,d1,r1,rfl,w1,d2,r2,rfl,w2,d3,r3,rfl,w3,d4,r4,rfl,w4,rfl⟩:=hd
 have e:NS.enc (DataW.agg [d1,d2,d3,d4])=E8.enc d1++(shX.enc d2++(oV.enc d3++[vE (.int .u8) d4])):=by
  simp only [NS,p9,lg,nH,u7]
  rfl
 rw [e] at h
 obtain ⟨x1,y1,rfl,h1,h⟩:=oN h
 obtain ⟨x2,y2,rfl,h2,h⟩:=oN h
 obtain ⟨x3,y3,rfl,h3,h⟩:=oN h
 obtain ⟨v,r,rfl,h4,h5⟩:=h
 have k4:aI [bn true (bS kH d4)] H E (v::r):=⟨v,r,rfl,aa0 w4 h4,h5⟩
 show aI (R.dR (QD d1)++R.oI (toX d2)++aU true (rC d3)++[bn true (bS kH d4)]) H E _
 rw [List.append_assoc,List.append_assoc]
 exact aI.app (af' w1 h1) (aI.app (ah6 w2 h2) (aI.app (Vg w3 h3) k4))
theorem Zg:∃ fs,Tryz.prog.underlying 67=some (.struct fs)/\fs.toList.map (·.type)=[37,44,30,35]:=qj (by kernel_rfl)
theorem adD {K:Type} {d:DataW K} (h:E8.wf d) (hb:Rows.uptoBulk d<=1048576):yU (QD d):=by
 obtain ⟨ds,rfl,d1,r1,rfl,w1,d2,r2,rfl,w2,d3,r3,rfl,w3,d4,r4,rfl,w4,d5,r5,rfl,w5,d6,r6,rfl,w6,d7,r7,rfl,w7,d8,r8,rfl,w8,d9,r9,rfl,w9,d10,r10,rfl,w10,rfl⟩:=h
 have b5:=Nat.le_trans (Nat.le_trans (jZ w5) (eZ (l:=[d1,d2,d3,d4,d5,d6,d7,d8,d9,d10]) (by simp))) hb
 have b6:=Nat.le_trans (Nat.le_trans (jq kH d6) (eZ (l:=[d1,d2,d3,d4,d5,d6,d7,d8,d9,d10]) (by simp))) hb
 have b9:=Nat.le_trans (Nat.le_trans (jZ w9) (eZ (l:=[d1,d2,d3,d4,d5,d6,d7,d8,d9,d10]) (by simp))) hb
 exact ⟨xK w1,sU (gX w2),sU (gX w3),sU (gX w4),sU (gX w7),xK w8,sU (gX w10),by show (toS d5).size<=_;omega,by show (bS kH d6).length<=_;omega,by show (toS d9).size<=_;omega⟩
theorem ahr {K:Type} {d:DataW K} (h:shX.wf d) (hb:Rows.uptoBulk d<=1048576):BX (toX d)/\AL (toX d):=by
 obtain ⟨ds,rfl,d1,r1,rfl,w1,d2,r2,rfl,w2,d3,r3,rfl,w3,d4,r4,rfl,w4,rfl⟩:=h
 have b4:=Nat.le_trans (eZ (d:=d4) (l:=[d1,d2,d3,d4]) (by simp)) hb
 have hn:(bS jw d4).length<=1048576:=Nat.le_trans (jq jw d4) b4
 have hr:∀ x∈bS jw d4,aga x:=fun x hx=>by
  obtain ⟨h1,h2,h3⟩:=Q.mem_of (to:=jw) (Q:=fun x=>(Q.dK x.off/\Q.dK x.prod/\Q.dK x.seq)/\x.key.size<=1048576/\x.val.length<=1048576) Q.uq w4 b4 x hx
  exact ⟨h1,h2,h3⟩
 have hl:=Q.vC hn fun x hx=>⟨(hr x hx).k,(hr x hx).v⟩
 have hl':(gq (bS jw d4)).length<=2199200000000:=hl
 have a1:=fu (kH d1)
 have a2:=aG (kH d2)
 have a3:=rY (toB d3)
 refine ⟨⟨xK w1,gX w2,fun k hk=>?_,⟨?_⟩⟩,⟨xK w1,sU (gX w2),Rv hn hr⟩⟩
 · have:=(hr _ (lG hk)).u
   exact ⟨aaq this.1,aaq this.2.1,aaq this.2.2⟩
 · show (aF (kH d1)++aj (kH d2)++iQ (toB d3)++gq (bS jw d4)).length+200<=_
   simp only [List.length_append]
   omega
theorem ab2 {K:Type} {d:DataW K} (h:NS.wf d) (hb:Rows.uptoBulk d<=1048576) (hw:(d.weights Tryz.prog 67).all (·<=reachBytes)=true):Y6 (adw d) (acU d) (afe d) (ad_ d):=by
 obtain ⟨ds,rfl,d1,r1,rfl,w1,d2,r2,rfl,w2,d3,r3,rfl,w3,d4,r4,rfl,w4,rfl⟩:=h
 have b1:=Nat.le_trans (eZ (d:=d1) (l:=[d1,d2,d3,d4]) (by simp)) hb
 have b2:=Nat.le_trans (eZ (d:=d2) (l:=[d1,d2,d3,d4]) (by simp)) hb
 have b3:=Nat.le_trans (eZ (d:=d3) (l:=[d1,d2,d3,d4]) (by simp)) hb
 have b4:=Nat.le_trans (eZ (d:=d4) (l:=[d1,d2,d3,d4]) (by simp)) hb
 obtain ⟨fs,hf,ht⟩:=Zg
 have h:=qw hf hw
 rw [ht] at h
 obtain ⟨k1,h⟩:=fK h
 obtain ⟨k2,h⟩:=fK h
 obtain ⟨k3,h⟩:=fK h
 obtain ⟨x1,x2⟩:=ahr w2 b2
 have sm:=Q.aas w3 b3
 have ty:=Q.ac5 (XT w3 k3)
 have pt:=afR w3
 have pl:=Q.LP sm
 rw [Mi] at pl
 refine ⟨(af7 w1 b1).u,adD w1 b1,x1,x2,⟨pt.epoch,pt.frozen,fun k hk=>(pt.recs _ (lG hk)).1,fun k hk=>pt.prods _ (lG hk),fun k hk=>pt.cons _ (lG hk),⟨?_⟩⟩,Q.af2 sm,pt,ty,⟨ty,by have:=sm.pn;show (rC d3).prods.length<=_;omega,fun y hy=>(sm.rv y hy).1.2.2.v0⟩,⟨⟨?_⟩,QL w4⟩⟩
 · show (gP (rC d3)).length+200<=_
   omega
 · show (bS kH d4).length<=_
   have:=jq kH d4
   omega
end Go.Proofs.YtnbhdjadlbhknaaGreatDoor.J

namespace Go.Proofs.YtnbhdjadlbhknaaGreatDoor.J
open Go.Ax Go.Shelf Go.RowKit Go.ChangeShapes Go.WideShapes Go.ChangeAt
set_option maxRecDepth 1000000
def mM:List (String×DataW Unit):=Rows.partfsmBytesUptoRow.laid
noncomputable def jX (os:Os):World:=World.layVars Tryz.prog (Yn os) (mM.filter fun x=>x.2.handleName?.isNone)
theorem ql (os:Os) (args:Array Value):laidMetH Tryz.prog mM ((jX os).forCall (fun _ _=>0) ⟨#[],args,[]⟩).memory :=
 laidMetH_of_parts (G7 args (by kernel_rfl) (by kernel_rfl)) (by kernel_rfl)
theorem uh (os:Os) {H:Type} (enc:TypeId×Value->H):∃ places,DataW.whole enc Tryz.prog ((jX os).forCall (fun _ _=>0) ⟨#[],#[.agg #[.int .i64 0,.int .u64 0,.int .u64 0,.int .u64 0,.string ⟨#[]⟩,.slice Option.none 0 0,.int .u64 0,.int .i64 0,.string ⟨#[]⟩,.int .u64 0,.int .i64 0,.int .u64 0,.bool false,.slice Option.none 0 0,.string ⟨#[]⟩,.string ⟨#[]⟩,.int .u64 0,.int .u64 0,.slice Option.none 0 0,.slice Option.none 0 0,.slice Option.none 0 0,.slice Option.none 0 0]],[]⟩).memory Tryz.f9.params.toList Rows.partfsmBytesSpec.vars false (#[.agg #[.int .i64 0,.int .u64 0,.int .u64 0,.int .u64 0,.string ⟨#[]⟩,.slice Option.none 0 0,.int .u64 0,.int .i64 0,.string ⟨#[]⟩,.int .u64 0,.int .i64 0,.int .u64 0,.bool false,.slice Option.none 0 0,.string ⟨#[]⟩,.string ⟨#[]⟩,.int .u64 0,.int .u64 0,.slice Option.none 0 0,.slice Option.none 0 0,.slice Option.none 0 0,.slice Option.none 0 0]]:Array Value).toList 8=some ([.agg [.agg [.lit (.int .i64 0),.lit (.int .u64 0),.lit (.int .u64 0),.lit (.int .u64 0),.lit (.string []),.nil,.lit (.int .u64 0),.lit (.int .i64 0),.lit (.string []),.lit (.int .u64 0)],.agg [.lit (.int .i64 0),.lit (.int .u64 0),.lit (.bool false),.nil],.agg [.agg [.lit (.string []),.lit (.string [])],.lit (.int .u64 0),.lit (.int .u64 0),.nil,.nil,.nil],.nil]],[],places) :=
 ⟨[],by kernel_rfl⟩
theorem sQ (os:Os) (started:os.Started) (K:Type) (enc:TypeId×Value->K) (F:Stop.Interp) :
 ReturnsInHanded {} Tryz.checked os 9 .any ((Rows.OpenSpec.upto Rows.partfsmBytesSpec).preRow enc Tryz.prog Tryz.f9 Rows.partfsmBytesUptoRow.domain false Rows.partfsmBytesUptoRow.laid) (((Rows.OpenSpec.upto Rows.partfsmBytesSpec).at F).post enc Tryz.prog Tryz.f9 false true false false):=by
 obtain ⟨places,hx⟩:=uh os enc
 refine returnsInHanded_of_row (C:=Tryz.checked) (s:=Rows.OpenSpec.upto Rows.partfsmBytesSpec) Tryz.own started (by kernel_rfl) Tryz.func9
  (witness_row_at (enc:=enc) (C:=Tryz.checked) false (jX os) #[.agg #[.int .i64 0,.int .u64 0,.int .u64 0,.int .u64 0,.string ⟨#[]⟩,.slice Option.none 0 0,.int .u64 0,.int .i64 0,.string ⟨#[]⟩,.int .u64 0,.int .i64 0,.int .u64 0,.bool false,.slice Option.none 0 0,.string ⟨#[]⟩,.string ⟨#[]⟩,.int .u64 0,.int .u64 0,.slice Option.none 0 0,.slice Option.none 0 0,.slice Option.none 0 0,.slice Option.none 0 0]] rfl (by kernel_rfl) (by kernel_rfl) (by kernel_rfl)
    (OpenSpec.preRow_of_cond 8 hx (by kernel_rfl) (fun k hk=>by cases hk;kernel_rfl) (by kernel_rfl) (ql os _))) ?_
 intro W base args ds gs before hval0 hW _ hcond hsz hL _ _
 have hps:Tryz.f9.params.toList=[67]:=by kernel_rfl
 obtain ⟨p,q,hA,hV,hbef,hfz,hnd⟩:=id hW
 have hA:DataW.TrodAll enc Tryz.prog W 0 (fun _=>true) true Tryz.f9.params.toList args.toList ds p:=hA
 have hk:=FR (hcond _ rfl)
 rw [hps] at hA hsz
 have ⟨hr,hwf⟩:=I8 [NS] (by kernel_rfl) hA
 obtain ⟨v1,d1,e1,rfl,_⟩:=trodAll_one hA
 obtain ⟨_,_,g1,w1,_⟩:=hwf
 obtain ⟨rfl,_⟩:=List.cons.inj g1
 subst e1
 obtain ⟨h1,hs1⟩:=fK (P:=Tryz.prog) (t:=67) (d:=d1) hsz
 have r1:=hr.1
 obtain ⟨fs1,hf1,_⟩:=Zg
 have r1:=agI hf1 (hval0 0 _ _ (by kernel_rfl) rfl) (adM w1 r1)
 have b1:=hk d1 (by simp)
 exact JU (s:=Rows.partfsmBytesSpec) (XC (agR _ _ _ _ (ab2 w1 b1 h1))) (t:=4) (ds:=[d1]) ⟨_,_,rfl,r1,rfl⟩ (by kernel_rfl) Oq rfl rfl Tryz.laidOut Tryz.mapsRowed Tryz.oC (by rw [hps];intro t ht;simp only [List.mem_cons,List.not_mem_nil,or_false] at ht;rcases ht with rfl<;>exact of_decide_eq_true (by kernel_rfl)) hW (afw (by kernel_rfl) hL)
theorem tT:Rows.PartfsmBytesUptoSaid :=
 OpenClaim.holds_of_cond 9 Tryz.f9 rfl rfl rfl rfl rfl rfl rfl ⟨rfl,rfl,rfl,rfl,rfl⟩ rfl rfl rfl rfl rfl (by kernel_rfl) Tryz.func9 (by kernel_rfl)
  (of_decide_eq_true (by kernel_rfl)) (by unfold Func.isWrapper;first | (rw [if_pos (by decide +kernel)];kernel_rfl) | (rw [if_neg (by decide +kernel)];exact ⟨rfl,rfl⟩))
  (fun os started H enc _ F=>by rw [OpenClaim.pre_eq_preRow];exact sQ os started H enc F)
theorem vV:Rows.PartfsmBytesUptoCardSaid :=
 Claim7.holds_tied_plain_at .later [] [.data,.handle,.pinned] true (true, "4008c0ec14d4e8318941b98147842fa4797ed9bf7edcfa700debfb0742dcc49e") true
  tT (fun _ h=>by cases h) (by kernel_rfl) (fun _ h=>by cases h) partfsmBytesUpto_row_tie rfl ⟨rfl,rfl⟩ (by kernel_rfl) rfl
  (fun f fn hf hfn=>by
    obtain rfl:f=9:=Option.some.inj ((show Tryz.prog.funcNamed "gazette/gazettelaw16.PartfsmBytes" = some 9 by kernel_rfl).symm.trans hf) |>.symm
    obtain rfl:fn=Tryz.f9:=(Option.some.inj (Tryz.func9.symm.trans hfn)).symm
    exact ⟨by kernel_rfl,fun j t ht=>by
     rw [show Tryz.f9.params=#[67] by kernel_rfl] at ht
     have h3:t=67:=by
      rcases j with _ | j
      · exact (by simpa using ht.symm)
      · simp at ht
     rcases h3 with rfl
     · exact (show Tryz.prog.wantsStandIn 67=false by kernel_rfl)⟩)
  (by kernel_rfl)
end Go.Proofs.YtnbhdjadlbhknaaGreatDoor.J
namespace Go.Proofs.YtnbhdjadlbhknaaGreatDoor
theorem bytes_said:Rows.PartfsmBytesUptoCardSaid:=J.vV
end Go.Proofs.YtnbhdjadlbhknaaGreatDoor
