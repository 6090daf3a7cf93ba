/- PROVED: PartfsmDoes in its second form (arguments of bounded size): which state may be, and what a command does to it, is the document's; what was there stays, what came out is its owner's. -/
import Derived.Test.YtnbhdjadlbhknaaGreatDoorRows
import Derived.Test.YtnbhdjadlbhknaaGreatDoorTie
import Derived.Test.YtnbhdjadlbhknaaGreatDoorCards
import Derived.OpenShut
import Derived.Lay
import Derived.Handed
import Derived.SevenTiedAt
import Derived.Deep.DeepHandedRow
import Derived.LaidHandle
import Derived.Test.YtnbhdjadlbhknaaGreatDoorE12
import Derived.Test.YtnbhdjadlbhknaaGreatDoorW4
import Derived.Test.YtnbhdjadlbhknaaGreatDoorW7
import Derived.Test.YtnbhdjadlbhknaaGreatDoorW8
import Derived.Test.YtnbhdjadlbhknaaGreatDoorW9
import Derived.Test.YtnbhdjadlbhknaaGreatDoorW10
set_option linter.unusedVariables false
set_option linter.unusedSimpArgs false
set_option maxRecDepth 1000000
namespace Go.Proofs.YtnbhdjadlbhknaaGreatDoor
namespace J
open Go.Ax
theorem Vp (l:List Rec) (x:Rec):0<=R.kG l x/\R.kG l x<=999:=by
 unfold R.kG
 repeat' split
 all_goals decide
theorem Eh (l:List P.Producer) (x:P.Producer):0<=P.aI l x/\P.aI l x<=999:=by
 unfold P.aI
 repeat' split
 all_goals decide
theorem RG (l:List Con) (x:Con) (e:Int):0<=dH l x e/\dH l x e<=999:=by
 unfold dH
 repeat' split
 all_goals decide
theorem Xa (l:List Rec) (o:Int):0<=R.Ga l o/\R.Ga l o<=999:=by
 unfold R.Ga
 repeat' split
 all_goals decide
theorem Xj (p:Part) (c:R.cu):0<=R.tL p c/\R.tL p c<=999:=by
 unfold R.tL
 have h1:=Vp p.recs (R.newR c)
 have h2:=Eh p.prods (R.nL p c)
 repeat' split
 all_goals first | omega | decide
theorem YQ (p:Part) (c:R.cu):0<=R.vE p c/\R.vE p c<=999:=by
 unfold R.vE R.qE
 have h1:=RG p.cons ⟨c.name,c.off⟩ (IntKind.u64.wrap (p.recs.length:Nat))
 have h2:=Eh p.prods (R.nM c)
 repeat' split
 all_goals first | omega | decide
theorem U0 (p:Part) (c:R.cu):0<=R.lg p c/\R.lg p c<=999:=by
 unfold R.lg R.un9
 have h1:=Xj p c
 have h2:=YQ p c
 have h3:=Xa p.recs c.off
 repeat' split
 all_goals first | omega | decide
theorem P7 (x:Int):mY (IntKind.u64.wrap x):=by
 rw [wrU]
 exact ⟨by omega,by omega⟩
theorem ad8 {p:Part} (h:FZ p) (o m:Int):vN 64 yh (R.vS p.recs o m):=by
 have hl:(R.vS p.recs o m).length<=64:=by
  unfold R.vS R.Oz
  rw [List.length_take]
  repeat' split
  all_goals omega
 refine ⟨by omega,by omega,fun x hx=>h.recs.ok x ?_⟩
 unfold R.vS at hx
 exact List.mem_of_mem_drop (List.mem_of_mem_take hx)
theorem UZ {α:Type} {ok:α->Prop}:vN 64 ok []:=⟨by simp,by simp,fun x hx=>absurd hx (by simp)⟩
theorem Oh {l:List P.Producer} (h:∀ x∈l,tT x) (id:Int):tT (P.findD l id):=by
 unfold P.findD
 cases hf:l.find? (P.has id) with
 | none=>exact ⟨l7,l7,l7⟩
 | some x=>exact h x (List.mem_of_find?_eq_some hf)
theorem R9 {l:List Con} (h:∀ x∈l,MI x) (s:ByteArray):mY (gV l s):=by
 unfold gV Go.Proofs.YtnbhdjadlbhknaaGreatDoor.Dt
 cases hf:l.find? fun x=>BK x.name s with
 | none=>exact l7
 | some x=>exact (h x (List.mem_of_find?_eq_some hf)).o
end J
namespace R
open Go.Ax
theorem DK (p:Part) (l:List cu) {i:Nat} (h:i<l.length):l9 p l (i+1)=dQ (l9 p l i) (l.getD i default):=by
 unfold l9
 rw [List.take_add_one,List.foldl_append,List.getElem?_eq_getElem h]
 simp [List.getElem?_eq_getElem h]
structure aaz (l:List cu):Prop where
 n:l.length<=4611686018427387903
 o:∀ c∈l,0<=c.off/\c.off<18446744073709551616
theorem aaz.at {l:List cu} (h:aaz l) {i:Nat} (hi:i<l.length):0<=(l.getD i default).off/\(l.getD i default).off<18446744073709551616:=h.o _ (by simp [hi])
end R
namespace J
open Go.Ax
theorem ajd {c:R.cu} (h:WM c):mY (R.JU c):=by
 unfold R.JU
 split
 · exact h.u.plan
 · exact l7
theorem agD {p:Part} {c:R.cu} (hp:PtT p) (ho:aH p=true) (hc:WM c):PtT (R.dQ p c):=by
 have hr:R.h_ p.recs (R.newR c)=p.recs++[(R.newR c).to (IntKind.u64.wrap (p.recs.length:Nat))]:=rfl
 rcases R.G_ (c:=c) ho with e | ⟨_,_,_,⟨_,h1,e⟩ | ⟨_,h1,e⟩ | ⟨_,h1,e⟩⟩
 · rw [e];exact hp
 · rw [e]
   refine ⟨hp.epoch,hp.frozen,fun x hx=>?_,fun x hx=>?_,hp.cons⟩
   · have hx:x∈R.h_ p.recs (R.newR c):=hx
     rw [hr] at hx
     rcases List.mem_append.1 hx with hx | hx
     · exact hp.recs x hx
     · obtain rfl:=List.mem_singleton.1 hx
       exact ⟨⟨P7 _,hc.u.prod,hc.u.seq⟩,hc.b⟩
   · rcases P.BJ (show x∈P.aF p.prods (R.nL p c) from hx) with rfl | hx
     · have:=(R.KY ho).1
       exact ⟨hc.u.prod,hc.u.seq,⟨by show (0:Int)<=(p.recs.length:Int);omega,by show (p.recs.length:Int)<_;omega⟩⟩
     · exact hp.prods x hx
 · rw [e]
   refine ⟨hp.epoch,hp.frozen,hp.recs,fun x hx=>?_,fun x hx=>?_⟩
   · rcases P.BJ (show x∈P.aF p.prods (R.nM c) from hx) with rfl | hx
     · exact ⟨hc.u.prod,hc.u.seq,l7⟩
     · exact hp.prods x hx
   · exact put_mem (P:=fun z:Con=>mY z.off) (x:=⟨c.name,c.off⟩) hc.u.off p.cons hp.cons x hx
 · rw [e]
   exact ⟨hp.epoch,ajd hc,hp.recs,hp.prods,hp.cons⟩
structure PtG (p:Part):Prop where
 t:PtT p
 ok:aH p=true
 y:D.jH p
theorem PtG.st {p:Part} (h:PtG p):FZ p:=Qf h.t h.ok
theorem PtG.next {p:Part} {c:R.cu} (h:PtG p) (hc:WM c):PtG (R.dQ p c):=by
 obtain ⟨h1,h2⟩:=R.Qt h.y h.ok ⟨hc.u.off.lo,hc.u.off.hi⟩
 exact ⟨agD h.t h.ok hc,h1,h2⟩
theorem Vy {p:Part} {c:R.cu} (h:FZ p) (hc:mY c.off):afv (R.qp p c):=by
 have z0:yI 0:=⟨by decide,by decide⟩
 have n0:=UZ (ok:=yh)
 have hl:=h.recs.n
 have hj:mY (P.eu p.prods c.prod c.seq):=by
  unfold P.eu
  repeat' split
  all_goals first | exact l7 | skip
  exact (Oh h.prods.ok _).offset
 have hr:mY (gV p.cons c.name):=by
  exact R9 h.cons.ok _
 unfold R.qp
 repeat' split
 all_goals first
  | exact ⟨z0,l7,n0⟩
  | exact ⟨z0,hc,n0⟩
  | exact ⟨z0,⟨by show (0:Int)<=(p.recs.length:Int);omega,by show (p.recs.length:Int)<_;omega⟩,n0⟩
  | exact ⟨z0,hj,n0⟩
  | exact ⟨z0,hr,n0⟩
  | exact ⟨z0,P7 _,ad8 h _ _⟩
theorem aem {p:Part} {c:R.cu} (h:FZ p) (hc:mY c.off):afv (R.dX p c):=by
 have n0:=UZ (ok:=yh)
 have he:=U0 p c
 unfold R.dX R.PO
 repeat' split
 all_goals first
  | exact ⟨⟨by show (-9223372036854775808:Int)<=R.lg p c;omega,by show R.lg p c<_;omega⟩,l7,n0⟩
  | exact ⟨⟨by show (-9223372036854775808:Int)<=_;decide,by decide⟩,l7,n0⟩
  | exact Vy h hc
end J
namespace Q
open Go.Ax H D J
end Q
section
open Go.Ax Go.Shelf Go.RowKit Go.ChangeShapes Go.WideShapes Go.ChangeAt
def nR {K:Type}:DataW K->Int
 | .lit (.int _ a)=>a
 | _=>0
def toS {K:Type}:DataW K->ByteArray
 | .lit (.string l)=>⟨l.toArray⟩
 | _=>ByteArray.empty
def toB {K:Type}:DataW K->Bool
 | .lit (.bool b)=>b
 | _=>false
theorem gD {K:Type} {k:IntKind} {d:DataW K} (h:(Sh.int k).wf d):(Sh.int k).enc d=[.y (.int k (nR d))]:=by
 obtain ⟨k',n,rfl,_⟩:=h
 rfl
theorem sP {K:Type} {d:DataW K} (h:Sh.str.wf d):Sh.str.enc d=[.y (.string (toS d))]:=by
 obtain ⟨l,rfl,_⟩:=h
 rfl
theorem Wq {K:Type} {d:DataW K} (h:Sh.bool.wf d):Sh.bool.enc d=[.y (.bool (toB d))]:=by
 obtain ⟨l,rfl⟩:=h
 rfl
theorem wW {K:Type} (fs:List Sh) (ds:List (DataW K)):(Sh.st fs).enc (.agg ds)=Sh.FW fs ds:=by simp only [Sh.enc]
theorem ow {K:Type} (s:Sh) (r:List Sh) (d:DataW K) (ds:List (DataW K)):Sh.FW (s::r) (d::ds)=s.enc d++Sh.FW r ds:=by simp only [Sh.FW]
theorem sw {K:Type} (l:List (DataW K)):Sh.FW [] l=[]:=by simp only [Sh.FW]
theorem ail {P:Program} {W:World} {r:Reach} {base:Nat} {t:TypeId} {v:Value} {fs:Array Field} {l:List AV} {H:HH} {E:Env} (hu:P.underlying t=some (.struct fs)) (hv:Value.okWide P W r base t v) (h:aA l H E v.cells.toList):Rel (.agg l) H E v:=by
 obtain ⟨cs,rfl,_⟩:=okWide_struct hu hv
 exact ⟨cs,rfl,h⟩
theorem Tryz.own:ownKnob Tryz.prog.godebug=Option.none:=by kernel_rfl
theorem Tryz.laidOut:laidOutB Tryz.prog=true:=by kernel_rfl
theorem Tryz.mapsRowed:mapsRowed Tryz.prog=true:=by kernel_rfl
theorem Tryz.oF:oF Tryz.prog=true:=by kernel_rfl
theorem OH:Tryz.prog.underlying 4=some .bool:=by kernel_rfl
def yj (P:Program) (t:TypeId):Option (List TypeId):=match P.underlying t with | some (.struct fs)=>some (fs.toList.map (·.type)) | _=>Option.none
theorem Bu {P:Program} {t:TypeId} {l:List TypeId} (h:yj P t=some l):∃ fs,P.underlying t=some (.struct fs)/\fs.toList.map (·.type)=l:=by
 unfold yj at h
 split at h
 · rename_i fs hu
   exact ⟨fs,hu,Option.some.inj h⟩
 · cases h
def qw:Sh:=.st [.int .u64,.str,.sl (.int .u8),.int .u64,.int .u64]
def mD {K:Type}:DataW K->Rec
 | .agg [a,b,c,d,e]=>⟨nR a,toS b,bU nR c,nR d,nR e⟩
 | _=>default
theorem afz {K:Type} {d:DataW K} (hd:(Sh.sl (.int .u8)).wf d) {H:HH} {E:Env} {v:Value} (h:Rel (xk (.int .u8) d) H E v):Rel (ig true (bU nR d)) H E v:=FH (encA:=aJ) (fun x hx=>gD hx) hd h
theorem YN {K:Type} {d:DataW K} (hd:qw.wf d):∃ a b c e f,d=.agg [a,b,c,e,f]/\(Sh.sl (.int .u8)).wf c/\qw.enc d=[.y (.int .u64 (nR a)),.y (.string (toS b)),xk (.int .u8) c,.y (.int .u64 (nR e)),.y (.int .u64 (nR f))]:=by
 obtain ⟨ds,rfl,d1,r1,rfl,w1,d2,r2,rfl,w2,d3,r3,rfl,w3,d4,r4,rfl,w4,d5,r5,rfl,w5,rfl⟩:=hd
 refine ⟨d1,d2,d3,d4,d5,rfl,w3,?_⟩
 simp only [qw,wW,ow,sw,gD w1,sP w2,zh,gD w4,gD w5]
 rfl
theorem Tt {K:Type} {d:DataW K} (hd:qw.wf d) (j:Nat) (hj:j<5) (H:HH) (E:Env) (v:Value) (h:Rel (Ax.get (qw.enc d) j) H E v):Rel (Ax.get (encR (mD d)) j) H E v:=by
 obtain ⟨a,b,c,e,f,rfl,wc,he⟩:=YN hd
 rw [he] at h
 match j,hj with
 | 0,_=>exact h
 | 1,_=>exact h
 | 2,_=>exact afz wc h
 | 3,_=>exact h
 | 4,_=>exact h
theorem ahz {K:Type} {d:DataW K} (hd:(Sh.sl qw).wf d) {H:HH} {E:Env} {v:Value} (h:Rel (xk qw d) H E v):Rel (dL true (bU mD d)) H E v :=
 G7 (encA:=encR) (fun x hx j hj H E v=>Tt hx j hj H E v) hd h
theorem ae5:Tryz.prog.underlying 26=some (.slice 54):=by kernel_rfl
theorem gQ:Tryz.prog.bytesOf 54=64:=by kernel_rfl
theorem UY {K:Type} {d:DataW K} (hw:(d.weights Tryz.prog 26).all (·<=reachBytes)=true):(bU mD d).length*64<=140737488351232:=by
 have:=kg mD ae5 hw
 rwa [gQ] at this
def tu:Sh:=.st [.str,.int .u64]
def toC {K:Type}:DataW K->Con
 | .agg [a,b]=>⟨toS a,nR b⟩
 | _=>default
theorem FN {K:Type} {d:DataW K} (h:(Sh.int .u64).wf d):Ji (nR d):=by
 obtain ⟨k,n,rfl,w⟩:=h
 have:=bounds_u64 w
 exact ⟨by show 0<=n;omega,by show n<_;omega⟩
theorem Sl {K:Type} {d:DataW K} (h:tu.wf d):tu.enc d=aD (toC d)/\Ji (toC d).off:=by
 obtain ⟨ds,rfl,d1,r1,rfl,w1,d2,r2,rfl,w2,rfl⟩:=h
 refine ⟨?_,FN w2⟩
 simp only [tu,wW,ow,sw,sP w1,gD w2]
 rfl
theorem Xb {K:Type} {d:DataW K} (h:(Sh.sl tu).wf d):wfC (bU toC d):=by
 rcases h with rfl | ⟨xs,r,rfl,hx⟩
 · intro y hy;cases hy
 · intro y hy
   obtain ⟨x,hx',rfl⟩:=List.mem_map.1 hy
   exact (Sl (hx x hx')).2
theorem agn {K:Type} {d:DataW K} (hd:(Sh.sl tu).wf d) {H:HH} {E:Env} {v:Value} (h:Rel (xk tu d) H E v):Rel (dB true (bU toC d)) H E v:=FH (fun x hx=>(Sl hx).1) hd h
theorem afo:Tryz.prog.underlying 28=some (.slice 83):=by kernel_rfl
theorem xP:Tryz.prog.bytesOf 83=24:=by kernel_rfl
def tN:Sh:=.st [.int .u64,.int .u64,.bool,.int .u64]
def pJ {K:Type}:DataW K->P.Producer
 | .agg [a,b,c,e]=>⟨nR a,nR b,toB c,nR e⟩
 | _=>default
theorem Ju {K:Type} {d:DataW K} (h:tN.wf d):tN.enc d=P.ak (pJ d)/\Ji (pJ d).offset:=by
 obtain ⟨ds,rfl,d1,r1,rfl,w1,d2,r2,rfl,w2,d3,r3,rfl,w3,d4,r4,rfl,w4,rfl⟩:=h
 refine ⟨?_,FN w4⟩
 simp only [tN,wW,ow,sw,gD w1,gD w2,Wq w3,gD w4]
 rfl
theorem Vo {K:Type} {d:DataW K} (h:(Sh.sl tN).wf d):∀ x∈bU pJ d,0<=x.offset/\x.offset<18446744073709551616:=by
 rcases h with rfl | ⟨xs,r,rfl,hx⟩
 · intro y hy;cases hy
 · intro y hy
   obtain ⟨x,hx',rfl⟩:=List.mem_map.1 hy
   exact (Ju (hx x hx')).2
theorem aeV {K:Type} {d:DataW K} (hd:(Sh.sl tN).wf d) {H:HH} {E:Env} {v:Value} (h:Rel (xk tN d) H E v):Rel (P.bg true (bU pJ d)) H E v:=FH (fun x hx=>(Ju hx).1) hd h
theorem af5:Tryz.prog.underlying 27=some (.slice 80):=by kernel_rfl
theorem aef:Tryz.prog.bytesOf 80=32:=by kernel_rfl
def Lu:Sh:=.st [.str,.str]
def ML {K:Type}:DataW K->kJ
 | .agg [a,b]=>⟨toS a,toS b⟩
 | _=>default
theorem VT {K:Type} {d:DataW K} (h:Lu.wf d):Lu.enc d=mG (ML d):=by
 obtain ⟨ds,rfl,d1,r1,rfl,w1,d2,r2,rfl,w2,rfl⟩:=h
 simp only [Lu,wW,ow,sw,sP w1,sP w2]
 rfl
def pI:Sh:=.st [Lu,.int .u64,.int .u64,.sl qw,.sl tN,.sl tu]
def Ac {K:Type}:DataW K->Part
 | .agg [a,b,c,e,f,g]=>⟨ML a,nR b,nR c,bU mD e,bU pJ f,bU toC g⟩
 | _=>default
theorem Xh {K:Type} {d:DataW K} (hd:pI.wf d) {H:HH} {E:Env} {vs:List Value} (h:aA (pI.enc d) H E vs):aA (aX true (Ac d)) H E vs:=by
 obtain ⟨ds,rfl,d1,r1,rfl,w1,d2,r2,rfl,w2,d3,r3,rfl,w3,d4,r4,rfl,w4,d5,r5,rfl,w5,d6,r6,rfl,w6,rfl⟩:=hd
 have e:pI.enc (DataW.agg [d1,d2,d3,d4,d5,d6])=[.y (.string (ML d1).lo),.y (.string (ML d1).hi),.y (.int .u64 (nR d2)),.y (.int .u64 (nR d3)),xk qw d4,xk tN d5,xk tu d6]:=by
  simp only [pI,wW,ow,sw,zh,VT w1,gD w2,gD w3]
  rfl
 rw [e] at h
 obtain ⟨v1,x1,rfl,h1,v2,x2,rfl,h2,v3,x3,rfl,h3,v4,x4,rfl,h4,v5,x5,rfl,h5,v6,x6,rfl,h6,v7,x7,rfl,h7,rfl⟩:=h
 exact ⟨_,_,rfl,h1,_,_,rfl,h2,_,_,rfl,h3,_,_,rfl,h4,_,_,rfl,ahz w4 h5,_,_,rfl,aeV w5 h6,_,_,rfl,agn w6 h7,rfl⟩
theorem NM:∃ fs,Tryz.prog.underlying 30=some (.struct fs)/\fs.toList.map (·.type)=[24,25,25,26,27,28]:=Bu (by kernel_rfl)
structure VH (p:Part):Prop where
 rl:p.recs.length*64<=140737488351232
 pl:p.prods.length*32<=140737488351232
 cl:p.cons.length*24<=140737488351232
 po:∀ x∈p.prods,0<=x.offset/\x.offset<18446744073709551616
 co:wfC p.cons
theorem Wn {K:Type} {d:DataW K} (hd:pI.wf d) (hw:(d.weights Tryz.prog 30).all (·<=reachBytes)=true):VH (Ac d):=by
 obtain ⟨ds,rfl,d1,r1,rfl,w1,d2,r2,rfl,w2,d3,r3,rfl,w3,d4,r4,rfl,w4,d5,r5,rfl,w5,d6,r6,rfl,w6,rfl⟩:=hd
 obtain ⟨fs,hf,ht⟩:=NM
 have h:=zB hf hw
 rw [ht] at h
 obtain ⟨h1,h⟩:=gF h
 obtain ⟨h2,h⟩:=gF h
 obtain ⟨h3,h⟩:=gF h
 obtain ⟨h4,h⟩:=gF h
 obtain ⟨h5,h⟩:=gF h
 obtain ⟨h6,h⟩:=gF h
 have k5:=kg pJ af5 h5
 have k6:=kg toC afo h6
 rw [aef] at k5
 rw [xP] at k6
 exact ⟨UY h4,k5,k6,Vo w5,Xb w6⟩
end
namespace Q
open Go.Ax Go.Shelf Go.RowKit Go.ChangeShapes Go.WideShapes Go.ChangeAt D J
structure Sml (p:Part):Prop where
 lo:p.rng.lo.size<=1048576
 hi:p.rng.hi.size<=1048576
 ep:eZ p.epoch
 fr:eZ p.frozen
 rn:p.recs.length<=1048576
 pn:p.prods.length<=1048576
 cn:p.cons.length<=1048576
 rv:∀ x∈p.recs,(eZ x.off/\eZ x.prod/\eZ x.seq)/\x.key.size<=1048576/\x.val.length<=1048576
 pv:∀ x∈p.prods,eZ x.id/\eZ x.seq/\eZ x.offset
 cv:∀ x∈p.cons,x.name.size<=1048576/\eZ x.off
theorem Az {α:Type} (f:α->List Int) (c:Nat):∀ l:List α,(∀ x∈l,(f x).length<=c)->(l.flatMap f).length<=l.length*c:=by
 intro l
 induction l with
 | nil=>intro _;simp
 | cons x l ih =>
   intro h
   have h1:=h x (by simp)
   have h2:=ih fun y hy=>h y (by simp [hy])
   rw [List.flatMap_cons,List.length_append,List.length_cons,Nat.succ_mul]
   omega
theorem KN {α:Type} [Inhabited α] {l:List α} {k:Nat} (h:k<l.length):l.getD k default∈l:=by
 simp [h]
theorem Xp {x:Rec} (h1:x.key.size<=1048576) (h2:x.val.length<=1048576):(iZ x).length<=2097300:=by
 have a1:=iq (bD x.key)
 have a2:=iq x.val
 have a3:=dF x.off
 have a4:=dF x.prod
 have a5:=dF x.seq
 have b1:=gX x.key
 simp only [iZ,List.length_append]
 omega
theorem GX {l:List Rec} (hn:l.length<=1048576) (h:∀ x∈l,x.key.size<=1048576/\x.val.length<=1048576):(eB l).length<=2199200000000:=by
 have h1:=Az iZ 2097300 l fun x hx=>Xp (h x hx).1 (h x hx).2
 have h2:=Nat.mul_le_mul_right 2097300 hn
 have h3:=dF (l.length:Int)
 simp only [eB,List.length_append]
 omega
theorem Nl {p:Part} (h:Sml p):(dA p).length<=70368744177664:=by
 have h1:=GX h.rn fun x hx=>(h.rv x hx).2
 have h2:=Az jL 40 p.prods fun x _=>by
  have a1:=dF x.id
  have a2:=dF x.seq
  have a3:=dF x.offset
  have a4:(je x.here).length=1:=rfl
  simp only [jL,List.length_append]
  omega
 have h3:=Az pU 1048700 p.cons fun x hx=>by
  have a1:=dF x.off
  have a2:=iq (bD x.name)
  have a3:=gX x.name
  have a4:=(h.cv x hx).1
  simp only [pU,List.length_append]
  omega
 have h4:=Nat.mul_le_mul_right 40 h.pn
 have h5:=Nat.mul_le_mul_right 1048700 h.cn
 have a1:=iq (bD p.rng.lo)
 have a2:=iq (bD p.rng.hi)
 have b1:=gX p.rng.lo
 have b2:=gX p.rng.hi
 have c1:=h.lo
 have c2:=h.hi
 have a3:=dF p.epoch
 have a4:=dF p.frozen
 have a5:=dF (p.prods.length:Int)
 have a6:=dF (p.cons.length:Int)
 simp only [dA,mR,iF,PU,fU,List.length_append,List.take_length]
 omega
theorem ahy {p:Part} (h:Sml p):Fh p where
 rg:=⟨by have:=h.lo;omega,by have:=h.hi;omega⟩
 ep:=h.ep
 fr:=h.fr
 ls:=⟨by have:=h.rn;omega,by have:=GX h.rn fun x hx=>(h.rv x hx).2;omega,fun k hk=>by
  obtain ⟨⟨h1,h2,h3⟩,h4,h5⟩:=h.rv _ (KN hk)
  exact ⟨h1,h2,h3,by omega,by omega⟩⟩
 pn:=by have:=h.pn;omega
 cn:=by have:=h.cn;omega
 n:=Nl h
 pr:=fun k hk=>h.pv _ (KN hk)
 co:=fun k hk=>by
  obtain ⟨h1,h2⟩:=h.cv _ (KN hk)
  exact ⟨by omega,h2⟩
theorem oL {K:Type} {d:DataW K} (h:(Sh.int .u64).wf d):eZ (nR d):=by
 obtain ⟨h0,h1⟩:=FN h
 exact ⟨h0,h1⟩
theorem Bc {H:Type} (d:DataW H):1<=Rows.uptoBulk d:=by
 cases d with
 | lit l=>cases l<;>simp [Rows.uptoBulk]
 | nil=>simp [Rows.uptoBulk]
 | ptr d=>simp [Rows.uptoBulk]
 | slice elems spare=>simp [Rows.uptoBulk]
 | agg parts=>simp [Rows.uptoBulk]
 | iface t d=>simp [Rows.uptoBulk]
 | map entries=>simp [Rows.uptoBulk]
 | held h=>simp [Rows.uptoBulk]
theorem lY {H:Type} {d:DataW H} {l:List (DataW H)} (h:d∈l):Rows.uptoBulk d<=Rows.uptoBulkAll l:=by
 induction l with
 | nil=>cases h
 | cons x r ih =>
   simp only [Rows.uptoBulkAll]
   cases List.mem_cons.1 h with
   | inl e=>subst e;omega
   | inr e=>have:=ih e;omega
theorem Aj {H:Type} (l:List (DataW H)):l.length<=Rows.uptoBulkAll l:=by
 induction l with
 | nil=>simp [Rows.uptoBulkAll]
 | cons x r ih=>have:=Bc x;simp only [Rows.uptoBulkAll,List.length_cons];omega
theorem lW {K α:Type} (to:DataW K->α) (d:DataW K):(bU to d).length<=Rows.uptoBulk d:=by
 cases d with
 | slice elems spare =>
   have:=Aj elems
   simp only [Rows.uptoBulk,bU,List.length_map]
   omega
 | _=>simp [bU]
theorem gW {H:Type} {d:DataW H} {l:List (DataW H)} (h:d∈l):Rows.uptoBulk d<=Rows.uptoBulk (DataW.agg l):=by
 have:=lY h
 simp only [Rows.uptoBulk]
 omega
theorem mF {K:Type} {d:DataW K} (h:Sh.str.wf d):(toS d).size<=Rows.uptoBulk d:=by
 obtain ⟨l,rfl,_⟩:=h
 show (toS (DataW.lit (.string l))).size<=_
 simp only [toS,Rows.uptoBulk]
 first | omega | (simp [ByteArray.size]) | skip
theorem mem_of {K α:Type} {e:Sh} {to:DataW K->α} {Q:α->Prop} {M:Nat} (h:∀ d,e.wf d->Rows.uptoBulk d<=M->Q (to d)) {d:DataW K} (hd:(Sh.sl e).wf d) (hb:Rows.uptoBulk d<=M):∀ x∈bU to d,Q x:=by
 rcases hd with rfl | ⟨xs,r,rfl,hx⟩
 · intro y hy;cases hy
 · intro y hy
   obtain ⟨x,hx',rfl⟩:=List.mem_map.1 hy
   refine h x (hx x hx') (Nat.le_trans ?_ hb)
   have:=lY hx'
   simp only [Rows.uptoBulk]
   omega
theorem t_ {K:Type} (d:DataW K) (h:qw.wf d) (hb:Rows.uptoBulk d<=1048576):(eZ (mD d).off/\eZ (mD d).prod/\eZ (mD d).seq)/\(mD d).key.size<=1048576/\(mD d).val.length<=1048576:=by
 obtain ⟨ds,rfl,d1,r1,rfl,w1,d2,r2,rfl,w2,d3,r3,rfl,w3,d4,r4,rfl,w4,d5,r5,rfl,w5,rfl⟩:=h
 exact ⟨⟨oL w1,oL w4,oL w5⟩,Nat.le_trans (mF w2) (Nat.le_trans (gW (by simp)) hb),Nat.le_trans (lW nR d3) (Nat.le_trans (gW (by simp)) hb)⟩
theorem ad5 {K:Type} (d:DataW K) (h:tN.wf d) (_:Rows.uptoBulk d<=1048576):eZ (pJ d).id/\eZ (pJ d).seq/\eZ (pJ d).offset:=by
 obtain ⟨ds,rfl,d1,r1,rfl,w1,d2,r2,rfl,w2,d3,r3,rfl,w3,d4,r4,rfl,w4,rfl⟩:=h
 exact ⟨oL w1,oL w2,oL w4⟩
theorem adC {K:Type} (d:DataW K) (h:tu.wf d) (hb:Rows.uptoBulk d<=1048576):(toC d).name.size<=1048576/\eZ (toC d).off:=by
 obtain ⟨ds,rfl,d1,r1,rfl,w1,d2,r2,rfl,w2,rfl⟩:=h
 exact ⟨Nat.le_trans (mF w1) (Nat.le_trans (gW (by simp)) hb),oL w2⟩
theorem ab8 {K:Type} {d:DataW K} (h:pI.wf d) (hb:Rows.uptoBulk d<=1048576):Sml (Ac d):=by
 obtain ⟨ds,rfl,d1,r1,rfl,w1,d2,r2,rfl,w2,d3,r3,rfl,w3,d4,r4,rfl,w4,d5,r5,rfl,w5,d6,r6,rfl,w6,rfl⟩:=h
 have b1:=Nat.le_trans (gW (d:=d1) (l:=[d1,d2,d3,d4,d5,d6]) (by simp)) hb
 have b4:=Nat.le_trans (gW (d:=d4) (l:=[d1,d2,d3,d4,d5,d6]) (by simp)) hb
 have b5:=Nat.le_trans (gW (d:=d5) (l:=[d1,d2,d3,d4,d5,d6]) (by simp)) hb
 have b6:=Nat.le_trans (gW (d:=d6) (l:=[d1,d2,d3,d4,d5,d6]) (by simp)) hb
 obtain ⟨es,rfl,e1,t1,rfl,v1,e2,t2,rfl,v2,rfl⟩:=w1
 exact ⟨Nat.le_trans (mF v1) (Nat.le_trans (gW (l:=[e1,e2]) (by simp)) b1),Nat.le_trans (mF v2) (Nat.le_trans (gW (l:=[e1,e2]) (by simp)) b1),oL w2,oL w3,
  Nat.le_trans (lW mD d4) b4,Nat.le_trans (lW pJ d5) b5,Nat.le_trans (lW toC d6) b6,
  mem_of (to:=mD) (Q:=fun x=>(eZ x.off/\eZ x.prod/\eZ x.seq)/\x.key.size<=1048576/\x.val.length<=1048576) t_ w4 b4,
  mem_of (to:=pJ) (Q:=fun x=>eZ x.id/\eZ x.seq/\eZ x.offset) ad5 w5 b5,
  mem_of (to:=toC) (Q:=fun x=>x.name.size<=1048576/\eZ x.off) adC w6 b6⟩
theorem afF {p:Part} (h:VH p):jH p:=by
 obtain ⟨h1,h2,h3,h4,h5⟩:=h
 exact ⟨by omega,by omega,by omega,h4,h5⟩
end Q
namespace J
open Go.Ax
theorem Na (p:Part):Q.dA p=iy p:=by
 have e1:Q.eB p.recs=IY p.recs:=rfl
 have e2:(Q.jL:P.Producer->List Int)=jL:=rfl
 have e3:(Q.pU:Con->List Int)=pU:=rfl
 have e4:Q.fU p.rng=fU p.rng:=rfl
 unfold Q.dA Q.mR Q.iF Q.PU iy PU A9 Gi
 rw [e1,e2,e3,e4,List.take_length,List.take_length]
 simp only [List.append_assoc]
theorem AX {a b:Int} {r s:List Int} (ha:mY a) (hb:mY b) (h:au a++r=au b++s):a=b/\r=s:=by
 have e:=Vi ha r
 rw [h,Vi hb s] at e
 simp only [Prod.mk.injEq] at e
 obtain ⟨_,rfl,_⟩:=e
 exact ⟨rfl,List.append_cancel_left h⟩
structure Ln (n:Nat):Prop where
 h:(n:Int)<18446744073709551616
theorem Ln.u {n:Nat} (h:Ln n):mY (n:Int):=⟨by omega,h.h⟩
theorem LK {a b r s:List Int} (ha:Ln a.length) (hb:Ln b.length) (h:aQ a++r=aQ b++s):a=b/\r=s:=by
 unfold aQ at h
 rw [List.append_assoc,List.append_assoc] at h
 obtain ⟨e1,e2⟩:=AX ha.u hb.u h
 exact List.append_inj e2 (by omega)
theorem Nz (s:ByteArray):(bD s).length=s.size:=by
 unfold bD
 rw [List.length_map,Array.length_toList]
 rfl
theorem str_inj {a b:ByteArray} (h:bD a=bD b):a=b:=by
 unfold bD at h
 have e:a.data.toList=b.data.toList:=by
  refine List.map_inj_right (f:=fun x:UInt8=>((x.toNat:Nat):Int)) (fun x y hxy=>?_) |>.1 h
  have:x.toNat=y.toNat:=by omega
  exact UInt8.toNat_inj.1 this
 cases a;cases b
 congr
 exact Array.toList_inj.1 e
theorem Em {a b:ByteArray} {r s:List Int} (ha:Ln a.size) (hb:Ln b.size) (h:aQ (bD a)++r=aQ (bD b)++s):a=b/\r=s:=by
 obtain ⟨e1,e2⟩:=LK (by rw [Nz];exact ha) (by rw [Nz];exact hb) h
 exact ⟨str_inj e1,e2⟩
theorem YF {a b:Bool} {r s:List Int} (h:je a++r=je b++s):a=b/\r=s:=by
 unfold je at h
 cases a<;>cases b<;>simp_all
theorem Mr {α:Type} {enc:α->List Int} {ok:α->Prop} (hf:∀ a b r s,ok a->ok b->enc a++r=enc b++s->a=b/\r=s):∀ (l m:List α) (r s:List Int),(∀ x∈l,ok x)->(∀ x∈m,ok x)->l.length=m.length->l.flatMap enc++r=m.flatMap enc++s->l=m/\r=s
 | [],[],_,_,_,_,_,h=>⟨rfl,by simpa using h⟩
 | [],_::_,_,_,_,_,hl,_=>by simp at hl
 | _::_,[],_,_,_,_,hl,_=>by simp at hl
 | a::l,b::m,r,s,h1,h2,hl,h=>by
   simp only [List.flatMap_cons,List.append_assoc] at h
   obtain ⟨rfl,e⟩:=hf a b _ _ (h1 a (by simp)) (h2 b (by simp)) h
   obtain ⟨rfl,e2⟩:=Mr hf l m r s (fun x hx=>h1 x (by simp [hx])) (fun x hx=>h2 x (by simp [hx])) (by simpa using hl) e
   exact ⟨rfl,e2⟩
theorem FC {α:Type} {enc:α->List Int} {ok:α->Prop} (hf:∀ a b r s,ok a->ok b->enc a++r=enc b++s->a=b/\r=s) {l m:List α} {r s:List Int} (h1:∀ x∈l,ok x) (h2:∀ x∈m,ok x) (n1:Ln l.length) (n2:Ln m.length) (h:au (l.length:Int)++l.flatMap enc++r=au (m.length:Int)++m.flatMap enc++s):l=m/\r=s:=by
 rw [List.append_assoc,List.append_assoc] at h
 obtain ⟨e1,e2⟩:=AX n1.u n2.u h
 exact Mr hf l m r s h1 h2 (by omega) e2
structure InR (x:Rec):Prop where
 u:Ru x
 k:Ln x.key.size
 v:Ln x.val.length
theorem acE (a b:Rec) (r s:List Int) (ha:InR a) (hb:InR b) (h:iZ a++r=iZ b++s):a=b/\r=s:=by
 unfold iZ at h
 simp only [List.append_assoc] at h
 obtain ⟨e1,h⟩:=AX ha.u.off hb.u.off h
 obtain ⟨e2,h⟩:=Em ha.k hb.k h
 obtain ⟨e3,h⟩:=LK ha.v hb.v h
 obtain ⟨e4,h⟩:=AX ha.u.prod hb.u.prod h
 obtain ⟨e5,hz⟩:=AX ha.u.seq hb.u.seq h
 cases a;cases b
 simp only at e1 e2 e3 e4 e5
 subst e1 e2 e3 e4 e5
 exact ⟨rfl,hz⟩
theorem Xe (a b:P.Producer) (r s:List Int) (ha:tT a) (hb:tT b) (h:jL a++r=jL b++s):a=b/\r=s:=by
 unfold jL at h
 simp only [List.append_assoc] at h
 obtain ⟨e1,h⟩:=AX ha.id hb.id h
 obtain ⟨e2,h⟩:=AX ha.seq hb.seq h
 obtain ⟨e3,h⟩:=YF h
 obtain ⟨e4,hz⟩:=AX ha.offset hb.offset h
 cases a;cases b
 simp only at e1 e2 e3 e4
 subst e1 e2 e3 e4
 exact ⟨rfl,hz⟩
structure InC (x:Con):Prop where
 n:Ln x.name.size
 o:mY x.off
theorem ac5 (a b:Con) (r s:List Int) (ha:InC a) (hb:InC b) (h:pU a++r=pU b++s):a=b/\r=s:=by
 unfold pU at h
 simp only [List.append_assoc] at h
 obtain ⟨e1,h⟩:=Em ha.n hb.n h
 obtain ⟨e2,hz⟩:=AX ha.o hb.o h
 cases a;cases b
 simp only at e1 e2
 subst e1 e2
 exact ⟨rfl,hz⟩
structure InS (p:Part):Prop where
 lo:Ln p.rng.lo.size
 hi:Ln p.rng.hi.size
 epoch:mY p.epoch
 frozen:mY p.frozen
 recs:∀ x∈p.recs,InR x
 prods:∀ x∈p.prods,tT x
 cons:∀ x∈p.cons,InC x
 n1:Ln p.recs.length
 n2:Ln p.prods.length
 n3:Ln p.cons.length
theorem Y6 {p q:Part} (hp:InS p) (hq:InS q) (h:iy p=iy q):p=q:=by
 have h:iy p++[]=iy q++[]:=by rw [h]
 unfold iy PU fU IY A9 Gi at h
 simp only [List.append_assoc] at h
 obtain ⟨e1,h⟩:=Em hp.lo hq.lo h
 obtain ⟨e2,h⟩:=Em hp.hi hq.hi h
 obtain ⟨e3,h⟩:=AX hp.epoch hq.epoch h
 obtain ⟨e4,h⟩:=AX hp.frozen hq.frozen h
 rw [<- List.append_assoc (au (p.recs.length:Int)),<- List.append_assoc (au (q.recs.length:Int))] at h
 obtain ⟨e5,h⟩:=FC acE hp.recs hq.recs hp.n1 hq.n1 h
 rw [<- List.append_assoc (au (p.prods.length:Int)),<- List.append_assoc (au (q.prods.length:Int))] at h
 obtain ⟨e6,h⟩:=FC Xe hp.prods hq.prods hp.n2 hq.n2 h
 rw [<- List.append_assoc (au (p.cons.length:Int)),<- List.append_assoc (au (q.cons.length:Int))] at h
 obtain ⟨e7,h⟩:=FC ac5 hp.cons hq.cons hp.n3 hq.n3 h
 cases p with | mk r a b c d e=>cases q with | mk r' a' b' c' d' e' =>
 cases r;cases r'
 simp only at e1 e2 e3 e4 e5 e6 e7
 subst e1 e2 e3 e4 e5 e6 e7
 rfl
theorem agY {p:Part} (h:FZ p):InS p:=by
 have n1:=h.recs.n2
 have n2:=h.prods.n2
 have n3:=h.cons.n2
 refine ⟨⟨by have:=h.rng.lo;omega⟩,⟨by have:=h.rng.hi;omega⟩,h.epoch,h.frozen,fun x hx=>?_,h.prods.ok,fun x hx=>?_,⟨n1⟩,⟨n2⟩,⟨n3⟩⟩
 · have:=h.recs.ok x hx
   exact ⟨this.u,⟨by have:=this.k;omega⟩,⟨by have:=this.v;omega⟩⟩
 · have:=h.cons.ok x hx
   exact ⟨⟨by have:=this.n;omega⟩,this.o⟩
theorem N7 {p:Part} (hi:InS p) (hr:yO (iy p)) (h:(nH (iy p)).2=0):(nH (iy p)).1=p:=by
 obtain ⟨h1,h2,h3⟩:=adn hr h
 exact Y6 (agY h3) hi h1
end J
namespace N
open Go.Ax H Q R
theorem Um {α β:Type} (x:α×β):(x.1,x.2)=x:=rfl
structure Gd (p:Part):Prop where
 t:J.PtT p
 y:D.jH p
 sm:Q.Sml p
theorem u_n {n:Nat} (h:n<=1048576):J.mY (n:Int):=⟨by omega,by omega⟩
theorem Gd.bytes {p:Part} (h:Gd p):J.Bytes (J.iy p):=by
 have s:=h.sm
 have a1:J.Bytes (J.aQ (J.bD p.rng.lo)):=J.y7 (by have:=s.lo;omega)
 have a2:J.Bytes (J.aQ (J.bD p.rng.hi)):=J.y7 (by have:=s.hi;omega)
 have a3:J.Bytes (p.recs.flatMap J.iZ):=J.Bytes.flat fun x hx=>by
  obtain ⟨u,b⟩:=h.t.recs x hx
  obtain ⟨_,k,v⟩:=s.rv x hx
  unfold J.iZ
  exact ((((J.iV u.off).app (J.y7 (by omega))).app (J.MH b (by omega))).app (J.iV u.prod)).app (J.iV u.seq)
 have a4:J.Bytes (p.prods.flatMap J.jL):=J.Bytes.flat fun x hx=>by
  have u:=h.t.prods x hx
  unfold J.jL
  exact (((J.iV u.id).app (J.iV u.seq)).app (J.XQ _)).app (J.iV u.offset)
 have a5:J.Bytes (p.cons.flatMap J.pU):=J.Bytes.flat fun x hx=>by
  have u:=h.t.cons x hx
  obtain ⟨k,_⟩:=s.cv x hx
  unfold J.pU
  exact (J.y7 (by omega)).app (J.iV u)
 unfold J.iy J.PU J.fU J.IY J.A9 J.Gi
 exact (((((a1.app a2).app (J.iV h.t.epoch)).app (J.iV h.t.frozen)).app ((J.iV (u_n s.rn)).app a3)).app ((J.iV (u_n s.pn)).app a4)).app ((J.iV (u_n s.cn)).app a5)
theorem Gd.rl {p:Part} (h:Gd p):J.yO (dA p):=by
 refine ⟨⟨?_⟩,?_⟩
 · have:=Q.Nl h.sm
   omega
 · rw [J.Na]
   exact h.bytes
theorem Gd.ins {p:Part} (h:Gd p):J.InS p:=by
 have s:=h.sm
 refine ⟨⟨by have:=s.lo;omega⟩,⟨by have:=s.hi;omega⟩,h.t.epoch,h.t.frozen,fun x hx=>?_,h.t.prods,fun x hx=>?_,⟨by have:=s.rn;omega⟩,⟨by have:=s.pn;omega⟩,⟨by have:=s.cn;omega⟩⟩
 · obtain ⟨_,k,v⟩:=s.rv x hx
   exact ⟨(h.t.recs x hx).1,⟨by omega⟩,⟨by omega⟩⟩
 · obtain ⟨k,_⟩:=s.cv x hx
   exact ⟨⟨by omega⟩,h.t.cons x hx⟩
theorem Gd.ck {p:Part} (h:Gd p):Q.Bj p:=⟨h.y,by have:=h.sm.pn;omega,fun y hy=>(h.t.recs y hy).1.seq.lo⟩
theorem wL {v:Int} (h:J.mY v):Q.eZ v:=⟨h.lo,h.hi⟩
theorem ach {p:Part} (ht:J.PtT p) (ho:aH p=true):Q.Sml p:=by
 have s:=J.Qf ht ho
 have n1:=s.recs.n
 have n2:=s.prods.n
 have n3:=s.cons.n
 refine ⟨by have:=s.rng.lo;omega,by have:=s.rng.hi;omega,wL s.epoch,wL s.frozen,by omega,by omega,by omega,fun x hx=>?_,fun x hx=>?_,fun x hx=>?_⟩
 · have:=s.recs.ok x hx
   exact ⟨⟨wL this.u.off,wL this.u.prod,wL this.u.seq⟩,by have:=this.k;omega,by have:=this.v;omega⟩
 · have:=s.prods.ok x hx
   exact ⟨wL this.id,wL this.seq,wL this.offset⟩
 · have:=s.cons.ok x hx
   exact ⟨by have:=this.n;omega,wL this.o⟩
theorem aen:Gd default:=by
 have z:(0:Int)<=0/\(0:Int)<18446744073709551616:=by decide
 refine ⟨⟨⟨z.1,z.2⟩,⟨z.1,z.2⟩,fun x hx=>(by cases hx),fun x hx=>(by cases hx),fun x hx=>(by cases hx)⟩,⟨by decide,by decide,by decide,fun x hx=>(by cases hx),?_⟩,⟨by decide,by decide,⟨z.1,z.2⟩,⟨z.1,z.2⟩,by decide,by decide,by decide,fun x hx=>(by cases hx),fun x hx=>(by cases hx),fun x hx=>(by cases hx)⟩⟩
 intro x hx
 cases hx
theorem Yy {p:Part} {c:cu} (h:Gd p) (hc:J.WM c):Gd (dQ p c):=by
 cases ho:aH p
 · have:dQ p c=default:=by unfold dQ Wh;rw [if_pos ho]
   rw [this];exact aen
 · have o:0<=c.off/\c.off<18446744073709551616:=⟨hc.u.off.lo,hc.u.off.hi⟩
   obtain ⟨h1,h2⟩:=Qt (c:=c) h.y ho o
   have h3:=J.agD h.t ho hc
   exact ⟨h3,h2,ach h3 h1⟩
theorem aej {p:Part} {c:cu} (ho:aH p=true) (h:Ca p c (lg p c)=false):(dX p c).recs=[]:=by
 unfold dX PO
 rw [if_neg (by simp [ho])]
 split
 · rfl
 · rename_i k1
   split
   · rfl
   · rename_i k2
     split
     · rfl
     · rename_i k3
       have hf:jS p c=false:=by
        cases hk:jS p c
        · rfl
        · exfalso
          simp [Ca,hk] at h k1 k2 k3
          exact h k1 k2 k3
       unfold jS at hf
       simp only [Bool.and_eq_false_iff,beq_eq_false_iff_ne] at hf
       unfold qp
       repeat' split
       all_goals first
        | rfl
        | (exfalso;simp_all)
theorem Dx {p w:Part} {e:Int} {c:cu} (h:Gd p) (hc:J.WM c) (hw:(w,e)=J.nH (dA p)):Rf ⟨p,w,e,c,dQ p c,dX p c,(dX p c).recs⟩:=by
 have o:0<=c.off/\c.off<18446744073709551616:=⟨hc.u.off.lo,hc.u.off.hi⟩
 have hi:=h.y.isIn
 refine ⟨Q.ahy h.sm,h.rl,hw,⟨rfl,rfl,h.ck,hi,o⟩,hi,fun e0=>?_,?_⟩
 · have hr:=h.rl
   rw [J.Na] at hw hr
   have e1:e=(J.nH (J.iy p)).2:=congrArg Prod.snd hw
   have e2:w=(J.nH (J.iy p)).1:=congrArg Prod.fst hw
   have e3:=J.N7 h.ins hr (e1.symm.trans e0)
   rw [<- e2] at e3
   show eH p w=true
   rw [e3]
   exact DY p
 · simp only
   cases ho:aH p
   · left
     have e1:dQ p c=default:=by unfold dQ Wh;rw [if_pos ho]
     have e2:(dX p c).recs=[]:=by unfold dX PO;rw [if_pos ho]
     exact ⟨⟨rfl,rfl,rfl,by unfold mJ;rw [ho],hi,o⟩,e1,e2⟩
   · right
     obtain ⟨h1,h2⟩:=Qt (c:=c) h.y ho o
     have hp:=abG h1
     have hl:vo (dQ p c):=⟨h2.rl,h2.pl,h2.cl⟩
     cases hf:Ca p c (lg p c)
     · left
       exact ⟨⟨rfl,rfl,rfl,by unfold mJ;rw [ho];simp only;rw [hf],hi,o⟩,hl,hp,aej ho hf⟩
     · right
       have hx:=(J.aem (J.Qf h.t ho) hc.u.off).recs.n
       exact ⟨⟨rfl,rfl,rfl,by unfold mJ;rw [ho];simp only;rw [hf],hi,o⟩,hl,hp,trivial,by omega⟩
def afp (p:Part) (l:List cu) (i:Nat):Rd:=⟨l9 p l i,(J.nH (dA (l9 p l i))).1,(J.nH (dA (l9 p l i))).2,l.getD i default,l9 p l (i+1),dX (l9 p l i) (l.getD i default),(dX (l9 p l i) (l.getD i default)).recs⟩
structure Vj (l:List cu):Prop where
 n:l.length<=4611686018427387903
 o:∀ c∈l,J.WM c
theorem Vj.at {l:List cu} (h:Vj l) {i:Nat} (hi:i<l.length):J.WM (l.getD i default):=h.o _ (by simp [hi])
theorem UD {p:Part} {l:List cu} (hp:Gd p) (hl:Vj l):∀ i,Gd (l9 p l i)
 | 0=>by simpa [l9] using hp
 | i+1=>by
   have ih:=UD hp hl i
   by_cases hi:i<l.length
   · rw [DK p l hi]
     exact Yy ih (hl.at hi)
   · have e:l9 p l (i+1)=l9 p l i:=by
      unfold l9
      rw [List.take_of_length_le (by omega),List.take_of_length_le (by omega)]
     rw [e];exact ih
theorem run_end {p:Part} {l:List cu} {i:Nat} (hi:l.length<=i):l9 p l i=l9 p l l.length:=by
 unfold l9
 rw [List.take_of_length_le hi,List.take_of_length_le (Nat.le_refl _)]
theorem Sw (p:Part) (l:List cu):l9 p l 0=p:=by simp [l9]
attribute [local irreducible] J.nH dQ dX l9
theorem acL {p:Part} {l:List cu} (hp:Gd p) (hl:Vj l):U6 l (l9 p l) (afp p l):=by
 have hn:=hl.n
 refine ⟨by omega,fun i hi=>run_end hi,fun i hi=>?_⟩
 · have h1:=UD hp hl i
   have hw:=Um (J.nH (dA (l9 p l i)))
   have:=Dx h1 (hl.at hi) hw
   rw [<- DK p l hi] at this
   exact this
theorem ads (p:Part) (l:List cu) (hp:Gd p) (hl:Vj l):(aZ true).Sat (aB Tryz.prog 4 [.agg (aX true p),R.uh true l] []) :=
 aiz p l (l9 p l) (afp p l) (acL hp hl) (Sw p l) hp.y.isIn hp.ck
end N
section
open Go.Ax Go.Shelf Go.RowKit Go.ChangeShapes Go.WideShapes Go.ChangeAt
def Ci:Sh:=.st [.int .i64,.int .u64,.int .u64,.int .u64,.str,.sl (.int .u8),.int .u64,.int .i64,.str,.int .u64]
def J4 {K:Type}:DataW K->R.cu
 | .agg [a,b,c,d,e,f,g,h,i,j]=>⟨nR a,nR b,nR c,nR d,toS e,bU nR f,nR g,nR h,toS i,nR j⟩
 | _=>default
theorem adp {K:Type} {d:DataW K} (hd:Ci.wf d):∃ a1 a2 a3 a4 a5 a6 a7 a8 a9 a10,d=.agg [a1,a2,a3,a4,a5,a6,a7,a8,a9,a10]/\(Sh.sl (.int .u8)).wf a6/\(Sh.int .u64).wf a7/\Ci.enc d=[.y (.int .i64 (nR a1)),.y (.int .u64 (nR a2)),.y (.int .u64 (nR a3)),.y (.int .u64 (nR a4)),.y (.string (toS a5)),xk (.int .u8) a6,.y (.int .u64 (nR a7)),.y (.int .i64 (nR a8)),.y (.string (toS a9)),.y (.int .u64 (nR a10))]:=by
 obtain ⟨ds,rfl,d1,r1,rfl,w1,d2,r2,rfl,w2,d3,r3,rfl,w3,d4,r4,rfl,w4,d5,r5,rfl,w5,d6,r6,rfl,w6,d7,r7,rfl,w7,d8,r8,rfl,w8,d9,r9,rfl,w9,d10,r10,rfl,w10,rfl⟩:=hd
 refine ⟨d1,d2,d3,d4,d5,d6,d7,d8,d9,d10,rfl,w6,w7,?_⟩
 simp only [Ci,wW,ow,sw,gD w1,gD w2,gD w3,gD w4,sP w5,zh,gD w7,gD w8,sP w9,gD w10]
 rfl
theorem Xd {K:Type} {d:DataW K} (hd:Ci.wf d) (j:Nat) (hj:j<10) (H:HH) (E:Env) (v:Value) (h:Rel (Ax.get (Ci.enc d) j) H E v):Rel (Ax.get (R.bT (J4 d)) j) H E v:=by
 obtain ⟨a1,a2,a3,a4,a5,a6,a7,a8,a9,a10,rfl,wc,_,he⟩:=adp hd
 rw [he] at h
 match j,hj with
 | 0,_=>exact h
 | 1,_=>exact h
 | 2,_=>exact h
 | 3,_=>exact h
 | 4,_=>exact h
 | 5,_=>exact afz wc h
 | 6,_=>exact h
 | 7,_=>exact h
 | 8,_=>exact h
 | 9,_=>exact h
theorem ad_ {K:Type} {d:DataW K} (hd:(Sh.sl Ci).wf d) {H:HH} {E:Env} {v:Value} (h:Rel (xk Ci d) H E v):Rel (.ys true 10 (bU J4 d).length (ah R.bT (bU J4 d))) H E v :=
 G7 (encA:=R.bT) (fun x hx j hj H E v=>Xd hx j hj H E v) hd h
theorem Tg:Tryz.prog.underlying 39=some (.slice 37):=by kernel_rfl
theorem Zt:Tryz.prog.bytesOf 37=112:=by kernel_rfl
theorem OO {K:Type} {d:DataW K} (hw:(d.weights Tryz.prog 39).all (·<=reachBytes)=true):(bU J4 d).length*112<=140737488351232:=by
 have:=kg J4 Tg hw
 rwa [Zt] at this
theorem ac8:Tryz.prog.globalNamed "errors.errorType" = some 0:=by kernel_rfl
theorem ad9:(Tryz.prog.cutTypes.find? (·.1 == "internal/reflectlite.rtype")).map (·.2)=some 191:=by kernel_rfl
theorem ac_:((List.range Tryz.prog.types.size).filter fun t=>Tryz.prog.rowNamed t [101,114,114,111,114])=[74]:=by kernel_rfl
theorem agz {laid:List (String×DataW Unit)} {W:World} (hf:(laid.filter fun x=>x.2.handleName?.isSome)=[("errors.errorType",Rows.laid_errors_errorType)]) (h:laidMetH Tryz.prog laid W):ag1 W:=by
 unfold laidMetH at h
 rw [hf] at h
 obtain ⟨name,u,ty,e1,e2,e3,e4,e5⟩:=h.2 _ (List.mem_singleton.2 rfl)
 have en:name=[101,114,114,111,114]:=(Option.some.inj e1).symm
 subst en
 obtain rfl:=Option.some.inj (ad9.symm.trans e2)
 have hm:ty∈(List.range Tryz.prog.types.size).filter fun t=>Tryz.prog.rowNamed t [101,114,114,111,114]:=List.mem_filter.2 ⟨List.mem_range.2 e3,e4⟩
 rw [ac_] at hm
 obtain rfl:=List.mem_singleton.1 hm
 have hc:=World.var?_cell ac8 e5 0
 intro p hp
 obtain rfl:=List.mem_singleton.1 hp
 exact ⟨by kernel_rfl,hc⟩
noncomputable def Yz (os:Os):World :=
 { World.holding Tryz.prog os ⟨#[],#[],[]⟩ with heap:=(World.holding Tryz.prog os ⟨#[],#[],[]⟩).heap.modify 0 fun
  | .cells _ t frozen=>.cells #[.iface 191 (.agg #[typeHandle Tryz.prog 74])] t frozen
  | o=>o }
theorem Jb {P:Program} {w0:World} {laid:List (String×DataW Unit)} (args:Array Value) (hf:w0.layFits P laid []=true) (hi:w0.layIfaces P laid (w0.layVars P laid)=true) :
 laidMet P laid ((w0.layVars P laid).forCall (fun _ _=>0) ⟨#[],args,[]⟩).memory:=by
 have e1:(laid.filter fun x=>(laid.map (·.1)).contains x.1)=laid:=List.filter_eq_self.2 fun x hx=>List.contains_iff_mem.2 (List.mem_map.2 ⟨x,hx,rfl⟩)
 have e2:(laid.filter fun x=>!(laid.map (·.1)).contains x.1)=[]:=List.filter_eq_nil_iff.2 fun x hx=>by rw [List.contains_iff_mem.2 (List.mem_map.2 ⟨x,hx,rfl⟩)];simp
 have h:laidMet P laid (w0.layVars P laid):=laidMet_layVars (w0:=w0) (laid.map (·.1)) [] (by rw [e1]) (by rw [e1];exact hf) (by rw [e1];exact hi) (by rw [e2];exact LaidIn.none)
 exact h.of_heap (by simp [World.memory,World.forCall,Input.heap])
end
namespace J
open Go.Ax Go.Shelf Go.RowKit Go.ChangeShapes Go.WideShapes Go.ChangeAt
theorem jE {K:Type} {d:DataW K} (h:(Sh.int .u64).wf d):mY (nR d):=by
 obtain ⟨h0,h1⟩:=FN h
 exact ⟨h0,h1⟩
theorem QU {K:Type} {d:DataW K} (h:(Sh.int .i64).wf d):yI (nR d):=by
 obtain ⟨k,n,rfl,w⟩:=h
 have:=bounds_i64 w
 exact ⟨by show _<=n;omega,by show n<_;omega⟩
theorem agN {K:Type} {d:DataW K} (h:(Sh.int .u8).wf d):0<=nR d/\nR d<256:=by
 obtain ⟨k,n,rfl,w⟩:=h
 have:=bounds_u8 w
 exact ⟨by show 0<=n;omega,by show n<_;omega⟩
theorem abw {K:Type} {d:DataW K} (h:(Sh.sl (.int .u8)).wf d):Bytes (bU nR d):=by
 rcases h with rfl | ⟨xs,r,rfl,hx⟩
 · exact Bytes.nil
 · exact ⟨fun y hy=>by
    obtain ⟨x,hx',rfl⟩:=List.mem_map.1 hy
    exact agN (hx x hx')⟩
theorem mem_of {K α:Type} {e:Sh} {to:DataW K->α} {Q:α->Prop} (h:∀ d,e.wf d->Q (to d)) {d:DataW K} (hd:(Sh.sl e).wf d):∀ x∈bU to d,Q x:=by
 rcases hd with rfl | ⟨xs,r,rfl,hx⟩
 · intro y hy;cases hy
 · intro y hy
   obtain ⟨x,hx',rfl⟩:=List.mem_map.1 hy
   exact h x (hx x hx')
theorem aee {K:Type} {d:DataW K} (h:qw.wf d):Ru (mD d)/\Bytes (mD d).val:=by
 obtain ⟨ds,rfl,d1,r1,rfl,w1,d2,r2,rfl,w2,d3,r3,rfl,w3,d4,r4,rfl,w4,d5,r5,rfl,w5,rfl⟩:=h
 exact ⟨⟨jE w1,jE w4,jE w5⟩,abw w3⟩
theorem aci {K:Type} {d:DataW K} (h:tN.wf d):tT (pJ d):=by
 obtain ⟨ds,rfl,d1,r1,rfl,w1,d2,r2,rfl,w2,d3,r3,rfl,w3,d4,r4,rfl,w4,rfl⟩:=h
 exact ⟨jE w1,jE w2,jE w4⟩
theorem adG {K:Type} {d:DataW K} (h:tu.wf d):mY (toC d).off:=by
 obtain ⟨ds,rfl,d1,r1,rfl,w1,d2,r2,rfl,w2,rfl⟩:=h
 exact jE w2
theorem afP {K:Type} {d:DataW K} (h:pI.wf d):PtT (Ac d):=by
 obtain ⟨ds,rfl,d1,r1,rfl,w1,d2,r2,rfl,w2,d3,r3,rfl,w3,d4,r4,rfl,w4,d5,r5,rfl,w5,d6,r6,rfl,w6,rfl⟩:=h
 exact ⟨jE w2,jE w3,mem_of (to:=mD) (Q:=fun x=>Ru x/\Bytes x.val) (fun d=>aee) w4,mem_of (fun d=>aci) w5,mem_of (to:=toC) (Q:=fun x=>mY x.off) (fun d=>adG) w6⟩
theorem Bc {H:Type} (d:DataW H):1<=Rows.uptoBulk d:=by
 cases d with
 | lit l=>cases l<;>simp [Rows.uptoBulk]
 | nil=>simp [Rows.uptoBulk]
 | ptr d=>simp [Rows.uptoBulk]
 | slice elems spare=>simp [Rows.uptoBulk]
 | agg parts=>simp [Rows.uptoBulk]
 | iface t d=>simp [Rows.uptoBulk]
 | map entries=>simp [Rows.uptoBulk]
 | held h=>simp [Rows.uptoBulk]
theorem lY {H:Type} {d:DataW H} {l:List (DataW H)} (h:d∈l):Rows.uptoBulk d<=Rows.uptoBulkAll l:=by
 induction l with
 | nil=>cases h
 | cons x r ih =>
   simp only [Rows.uptoBulkAll]
   cases List.mem_cons.1 h with
   | inl e=>subst e;omega
   | inr e=>have:=ih e;omega
theorem Aj {H:Type} (l:List (DataW H)):l.length<=Rows.uptoBulkAll l:=by
 induction l with
 | nil=>simp [Rows.uptoBulkAll]
 | cons x r ih=>have:=Bc x;simp only [Rows.uptoBulkAll,List.length_cons];omega
theorem lW {K α:Type} (to:DataW K->α) (d:DataW K):(bU to d).length<=Rows.uptoBulk d:=by
 cases d with
 | slice elems spare =>
   have:=Aj elems
   simp only [Rows.uptoBulk,bU,List.length_map]
   omega
 | _=>simp [bU]
theorem gW {H:Type} {d:DataW H} {l:List (DataW H)} (h:d∈l):Rows.uptoBulk d<=Rows.uptoBulk (DataW.agg l):=by
 have:=lY h
 simp only [Rows.uptoBulk]
 omega
theorem mF {K:Type} {d:DataW K} (h:Sh.str.wf d):(toS d).size<=Rows.uptoBulk d:=by
 obtain ⟨l,rfl,_⟩:=h
 show (toS (DataW.lit (.string l))).size<=_
 simp only [toS,Rows.uptoBulk]
 first | omega | (simp [ByteArray.size]) | skip
theorem Iz {H:Type} {l:List (DataW H)} (hk:Rows.uptoSmall H l=true):∀ d∈l,Rows.uptoBulk d<=1048576:=by
 have:Rows.uptoBulkAll l<=1048576:=of_decide_eq_true hk
 intro d hd
 exact Nat.le_trans (lY hd) this
theorem ag5 {K:Type} {d:DataW K} (h:Ci.wf d) (hb:Rows.uptoBulk d<=1048576):WM (J4 d):=by
 obtain ⟨ds,rfl,d1,r1,rfl,w1,d2,r2,rfl,w2,d3,r3,rfl,w3,d4,r4,rfl,w4,d5,r5,rfl,w5,d6,r6,rfl,w6,d7,r7,rfl,w7,d8,r8,rfl,w8,d9,r9,rfl,w9,d10,r10,rfl,w10,rfl⟩:=h
 have b5:=Nat.le_trans (Nat.le_trans (mF w5) (gW (l:=[d1,d2,d3,d4,d5,d6,d7,d8,d9,d10]) (by simp))) hb
 have b6:=Nat.le_trans (Nat.le_trans (lW nR d6) (gW (l:=[d1,d2,d3,d4,d5,d6,d7,d8,d9,d10]) (by simp))) hb
 have b9:=Nat.le_trans (Nat.le_trans (mF w9) (gW (l:=[d1,d2,d3,d4,d5,d6,d7,d8,d9,d10]) (by simp))) hb
 exact ⟨⟨QU w1,jE w2,jE w3,jE w4,jE w7,QU w8,jE w10,by show (toS d5).size+(bU nR d6).length+(toS d9).size+1000<=_;omega⟩,abw w6⟩
end J
namespace J
open Go.Ax Go.Shelf Go.RowKit Go.ChangeShapes Go.WideShapes Go.ChangeAt
theorem acJ {K:Type} {d:DataW K} (hd:(Sh.sl Ci).wf d) (hb:Rows.uptoBulk d<=1048576):∀ c∈bU J4 d,WM c:=by
 rcases hd with rfl | ⟨xs,r,rfl,hx⟩
 · intro y hy;cases hy
 · intro y hy
   obtain ⟨x,hx',rfl⟩:=List.mem_map.1 hy
   refine ag5 (hx x hx') (Nat.le_trans ?_ hb)
   have:=lY hx'
   simp only [Rows.uptoBulk]
   omega
theorem aff {K:Type} {d:DataW K} (h:pI.wf d) (hb:Rows.uptoBulk d<=1048576) (hw:(d.weights Tryz.prog 30).all (·<=reachBytes)=true):N.Gd (Ac d):=⟨afP h,Q.afF (Wn h hw),Q.ab8 h hb⟩
def ni:List (String×DataW Unit):=Rows.partfsmDoesUptoRow.laid
noncomputable def jX (os:Os):World:=World.layVars Tryz.prog (Yz os) (ni.filter fun x=>x.2.handleName?.isNone)
theorem sU (os:Os) (args:Array Value):laidMetH Tryz.prog ni ((jX os).forCall (fun _ _=>0) ⟨#[],args,[]⟩).memory :=
 laidMetH_of_parts (Jb args (by kernel_rfl) (by kernel_rfl)) (by kernel_rfl)
theorem vD (os:Os) {H:Type} (enc:TypeId×Value->H):∃ places,DataW.whole enc Tryz.prog ((jX os).forCall (fun _ _=>0) ⟨#[],#[.agg #[.string ⟨#[]⟩,.string ⟨#[]⟩,.int .u64 0,.int .u64 0,.slice Option.none 0 0,.slice Option.none 0 0,.slice Option.none 0 0],.slice Option.none 0 0],[]⟩).memory Tryz.f4.params.toList Rows.partfsmDoesSpec.vars false (#[.agg #[.string ⟨#[]⟩,.string ⟨#[]⟩,.int .u64 0,.int .u64 0,.slice Option.none 0 0,.slice Option.none 0 0,.slice Option.none 0 0],.slice Option.none 0 0]:Array Value).toList 8=some ([.agg [.agg [.lit (.string []),.lit (.string [])],.lit (.int .u64 0),.lit (.int .u64 0),.nil,.nil,.nil],.nil],[],places) :=
 ⟨[],by kernel_rfl⟩
theorem ug (os:Os) (started:os.Started) (K:Type) (enc:TypeId×Value->K) (F:Stop.Interp) :
 ReturnsInHanded {} Tryz.checked os 4 .any ((Rows.OpenSpec.upto Rows.partfsmDoesSpec).preRow enc Tryz.prog Tryz.f4 Rows.partfsmDoesUptoRow.domain false Rows.partfsmDoesUptoRow.laid) (((Rows.OpenSpec.upto Rows.partfsmDoesSpec).at F).post enc Tryz.prog Tryz.f4 false true false false):=by
 obtain ⟨places,hx⟩:=vD os enc
 refine returnsInHanded_of_row (C:=Tryz.checked) (s:=Rows.OpenSpec.upto Rows.partfsmDoesSpec) Tryz.own started (by kernel_rfl) Tryz.func4
  (witness_row_at (enc:=enc) (C:=Tryz.checked) false (jX os) #[.agg #[.string ⟨#[]⟩,.string ⟨#[]⟩,.int .u64 0,.int .u64 0,.slice Option.none 0 0,.slice Option.none 0 0,.slice Option.none 0 0],.slice Option.none 0 0] rfl (by kernel_rfl) (by kernel_rfl) (by kernel_rfl)
    (OpenSpec.preRow_of_cond 8 hx (by kernel_rfl) (fun k hk=>by cases hk;kernel_rfl) (by kernel_rfl) (sU os _))) ?_
 intro W base args ds gs before hval0 hW _ hcond hsz hL _ _
 have hps:Tryz.f4.params.toList=[30,39]:=by kernel_rfl
 obtain ⟨p,q,hA,hV,hbef,hfz,hnd⟩:=id hW
 have hA:DataW.TrodAll enc Tryz.prog W 0 (fun _=>true) true Tryz.f4.params.toList args.toList ds p:=hA
 have hk:=Iz (hcond _ rfl)
 rw [hps] at hA hsz
 have ⟨hr,hwf⟩:=GV [pI,.sl Ci] (by kernel_rfl) hA
 obtain ⟨v1,v2,d1,d2,_,_,e1,rfl,_,_,_⟩:=trodAll_two hA
 obtain ⟨_,_,g1,w1,_,_,g2,w2,_⟩:=hwf
 obtain ⟨rfl,q1⟩:=List.cons.inj g1
 subst q1
 obtain ⟨rfl,_⟩:=List.cons.inj g2
 subst e1
 obtain ⟨h1,hs1⟩:=gF (P:=Tryz.prog) (t:=30) (d:=d1) hsz
 obtain ⟨h2,hs2⟩:=gF (P:=Tryz.prog) (t:=39) (d:=d2) hs1
 have r1:=hr.1
 obtain ⟨fs1,hf1,_⟩:=NM
 have r1:=ail hf1 (hval0 0 _ _ (by kernel_rfl) rfl) (Xh w1 r1)
 have r2:=hr.2.1
 rw [zh] at r2
 obtain ⟨s2,n2,c2,rfl⟩:=okWide_slice Tg (hval0 1 _ _ (by kernel_rfl) rfl)
 obtain ⟨_,_,er,r2,_⟩:=r2
 cases er
 have r2:=ad_ w2 r2
 have b1:=hk d1 (by simp)
 have b2:=hk d2 (by simp)
 exact KS (s:=Rows.partfsmDoesSpec) (ZL (N.ads _ _ (aff w1 b1 h1) ⟨by have:=OO h2;omega,acJ w2 b2⟩)) (t:=4) (ds:=[d1,d2]) ⟨_,_,rfl,r1,_,_,rfl,r2,rfl⟩ (by kernel_rfl) OH rfl rfl Tryz.laidOut Tryz.mapsRowed Tryz.oF (by rw [hps];intro t ht;simp only [List.mem_cons,List.not_mem_nil,or_false] at ht;rcases ht with rfl | rfl<;>exact of_decide_eq_true (by kernel_rfl)) hW (agz (by kernel_rfl) hL)
theorem vI:Rows.PartfsmDoesUptoSaid :=
 OpenClaim.holds_of_cond 4 Tryz.f4 rfl rfl rfl rfl rfl rfl rfl ⟨rfl,rfl,rfl,rfl,rfl⟩ rfl rfl rfl rfl rfl (by kernel_rfl) Tryz.func4 (by kernel_rfl)
  (of_decide_eq_true (by kernel_rfl)) (by unfold Func.isWrapper;first | (rw [if_pos (by decide +kernel)];kernel_rfl) | (rw [if_neg (by decide +kernel)];exact ⟨rfl,rfl⟩))
  (fun os started H enc _ F=>by rw [OpenClaim.pre_eq_preRow];exact ug os started H enc F)
theorem xG:Rows.PartfsmDoesUptoCardSaid :=
 Claim7.holds_tied_plain_at .later [] [.data,.handle,.pinned] true (true, "4008c0ec14d4e8318941b98147842fa4797ed9bf7edcfa700debfb0742dcc49e") true
  vI (fun _ h=>by cases h) (by kernel_rfl) (fun _ h=>by cases h) partfsmDoesUpto_row_tie rfl ⟨rfl,rfl⟩ (by kernel_rfl) rfl
  (fun f fn hf hfn=>by
    obtain rfl:f=4:=Option.some.inj ((show Tryz.prog.funcNamed "gazette/gazettelaw16.PartfsmDoes" = some 4 by kernel_rfl).symm.trans hf) |>.symm
    obtain rfl:fn=Tryz.f4:=(Option.some.inj (Tryz.func4.symm.trans hfn)).symm
    exact ⟨by kernel_rfl,fun j t ht=>by
     rw [show Tryz.f4.params=#[30,39] by kernel_rfl] at ht
     have h3:t=30∨t=39:=by
      rcases j with _ | _ | j
      · exact Or.inl (by simpa using ht.symm)
      · exact Or.inr ((by simpa using ht.symm))
      · simp at ht
     rcases h3 with rfl | rfl
     · exact (show Tryz.prog.wantsStandIn 30=false by kernel_rfl)
     · exact (show Tryz.prog.wantsStandIn 39=false by kernel_rfl)⟩)
  (by kernel_rfl)
end J
section
theorem does_said:Rows.PartfsmDoesUptoCardSaid:=J.xG
end
end Go.Proofs.YtnbhdjadlbhknaaGreatDoor
