import Derived.Test.YtnbhdjadlbhknaaGreatDoorW4
import Derived.Test.YtnbhdjadlbhknaaGreatDoorW6
set_option linter.unusedVariables false
set_option linter.unusedSimpArgs false
set_option maxRecDepth 1000000
namespace Go.Proofs.YtnbhdjadlbhknaaGreatDoor
open Go.Ax
namespace J
def dem:AV->AV
 | .ys _ sz n c=>.ys false sz n c
 | a=>a
theorem Fa {H:HH} (hH:(H true).le (H false)) {a:AV} {E:Env} {v:Value} (h:Rel a H E v):Rel (dem a) H E v:=by
 cases a with
 | ys b sz n c =>
   cases b with
   | false=>exact h
   | true =>
     obtain ⟨ad,cap,hu,hn,hk⟩:=h
     refine ⟨ad,cap,hu,hn,fun h0=>?_⟩
     obtain ⟨a',ha,hk⟩:=hk h0
     refine ⟨a',ha,fun k hkn j hj=>?_⟩
     obtain ⟨x,hx,h1,h2⟩:=hk k hkn j hj
     refine ⟨x,IH.oL hH hx,h1,Rel.mono (c k j) (fun b=>?_) h2⟩
     cases b with
     | false=>exact hH
     | true=>exact IH.le_refl _
 | _=>exact h
theorem HZ {H:HH} (hH:(H true).le (H false)) {E:Env}:∀ {l:List AV} {vs:List Value},aI l H E vs->aI (l.map dem) H E vs
 | [],_,h=>h
 | _::_,_,h=>by
   obtain ⟨v,r,hv,h1,h2⟩:=h
   exact ⟨v,r,hv,Fa hH h1,HZ hH h2⟩
theorem rZ {P:Program} {f:FuncId} {args:List AV} {M M':List aH} {r r':AV} {mv:List Nat} (hr:∀ (H:HH) (E:Env) (v:Value),(H true).le (H false)->Rel r H E v->Rel r' H E v) (h:fq P f args M r M' mv):fq P f args M r' M' mv:=by
 intro H E w vals hC hargs
 refine (h H E w vals hC hargs).mono ?_
 rintro e w' ⟨v,H',E',he,hv,hc,hev⟩
 exact ⟨v,H',E',he,hr _ _ _ hc.tf.1 hv,hc,hev⟩
noncomputable def lC0 (l:List Int) (s:RS) (most:Int) (t:List Rec) (s':RS):dO Tryz.prog:=⟨85,[rP,.y (.int .i64 most)],rM l s,.need (bL l s/\jC most/\most<=4096) (.need ((t,s')=f_ l s most) (.ret (bZ false t,rM l s',[]))),T.Sat.need fun h=>T.Sat.need fun e=>by
 have e1:t=(f_ l s most).1:=congrArg Prod.fst e
 have e2:s'=(f_ l s most).2:=congrArg Prod.snd e
 rw [e1,e2]
 have h1:au Tryz.prog 85 [rP,.y (.int .i64 most)] (rM l s) (bZ true (f_ l s most).1,rM l (f_ l s most).2,[]):=jN (l_c l s most h.2.1 h.2.2 h.1)
 have h2:au Tryz.prog 85 [rP,.y (.int .i64 most)] (rM l s) (bZ false (f_ l s most).1,rM l (f_ l s most).2,[]):=rZ (fun H E v hH hr=>by
  have:=Fa hH hr
  exact this) h1
 exact T.Sat.ret h2⟩
def Am (l:List Int):R.gJ×RS :=
 let a:=jr l default;let b:=aB l a.2;let c:=dM l b.2;let d:=f_ l c.2 64
 (⟨a.1,b.1,c.1,d.1⟩,d.2)
def uh (l:List Int):R.gJ×Int:=if bS l (Am l).2=0 then ((Am l).1,0) else (default,161)
def rxR (x:R.gJ) (e:Int):T An:=.ret (.tup [.agg (R.oJ x),.y (.int .i64 e)],[],[])
noncomputable def rxH (b:Bool) (l:List Int) (a:Int) (s1:RS) (u:Int) (s2:RS) (c:Bool) (s3:RS) (d:List Rec) (s4:RS):aC Tryz.prog:=zZ (hh _ bB (cs1 25 1 1 (nrC b l) (cs1 25 2 1 (iC l default a s1) (cs1 25 3 1 (uC l s1 u s2) (cs1 25 3 3 (bC l s2 c s3) (cs1 25 4 1 (lC l s3 64 d s4) (cs1 25 5 1 (dC l s4) bA)))))) bq)
def adP (b:Bool) (l:List Int) (a:Int) (s1:RS) (u:Int) (s2:RS) (c:Bool) (s3:RS) (d:List Rec) (s4:RS) (x:R.gJ) (e:Int):Prop :=
 ((b=b/\l.length=l.length/\ak l.length 1 (ah aD l) (ah aD l))/\True)/\True/\LOk l/\((0=0/\0=0)/\True)/\(((dI l l)/\(0:Int)=0/\(false=false/\true=true/\2<=2/\eT 2 (Ax.get [AV.y (.int .i64 0),AV.ifc 31 (AV.y (.int .i64 0))]) (Ax.get [AV.y (.int .i64 0),AV.ifc 31 (AV.y (.int .i64 0))]))/\True)/\True)/\bL l default/\(a,s1)=(zag (aB l default).fst,(aB l default).snd)/\((0=0/\0=0)/\True)/\((bV l s1 s1)/\True)/\bL l s1/\(u,s2)=aB l s1/\((0=0/\0=0)/\True)/\((bV l s2 s2)/\True)/\bL l s2/\(c,s3)=dM l s2/\((0=0/\0=0)/\(64:Int)=64/\True)/\((bV l s3 s3)/\True)/\(bL l s3/\jC 64/\(64:Int)<=4096)/\(d,s4)=f_ l s3 64/\((0=0/\0=0)/\True)/\((bV l s4 s4)/\True)/\bL l s4/\((bS l s4 != 0)=true->((0=x.err/\0=x.off/\false=x.old/\x.recs.length=0/\True)/\161=e/\True)/\True)/\((bS l s4 != 0)=false->((a=x.err/\u=x.off/\c=x.old/\(true=true/\d.length=x.recs.length/\ak d.length 5 (ah encR d) (ah encR x.recs))/\True)/\0=e/\True)/\True)
theorem Yf (b:Bool) (l:List Int) (a:Int) (s1:RS) (u:Int) (s2:RS) (c:Bool) (s3:RS) (d:List Rec) (s4:RS) (x:R.gJ) (e:Int):(aZ Tryz.prog (rxH b l a s1 u s2 c s3 d s4) 25 [bn b l] [] (rxR x e))=adP b l a s1 u s2 c s3 d s4 x e:=by kernel_rfl
def eY (l:List Int) (s:RS):P.Producer×RS :=
 let a:=aB l s;let b:=aB l a.2;let c:=dM l b.2;let d:=aB l c.2
 (⟨a.1,b.1,c.1,d.1⟩,d.2)
def iE (l:List Int) (s:RS):Con×RS :=
 let a:=jF l s 32;let b:=aB l a.2
 (⟨a.1,b.1⟩,b.2)
def jB {α:Type} (f:RS->α×RS):Nat->RS->List α->List α×RS
 | 0,s,a=>(a,s)
 | n+1,s,a=>jB f n (f s).2 (a++[(f s).1])
def kg (l:List Int) (s:RS):List P.Producer×RS:=jB (eY l) (aK l s 256).1.toNat (aK l s 256).2 []
def IW (l:List Int) (s:RS):List Con×RS:=jB (iE l) (aK l s 64).1.toNat (aK l s 64).2 []
structure BN where
 rng:kW
 epoch:Int
 frozen:Int
 recs:List Rec
def zB (l:List Int) (s:RS) (h:BN) (a:List P.Producer) (c:List Con):List aH:=[.box 30 [.s (.string ByteArray.empty),.s (.string ByteArray.empty),.s (.int .u64 0),.s (.int .u64 0),.s (.slice none 0 0),.s (.slice none 0 0),.s (.slice none 0 0)],.box 175 [bn true l,.y (.int .i64 s.at_),.opt s.f 206 (TF s)],.row 80 4 a.length none (ah P.ay a),SQ c,.box 30 [.y (.string h.rng.lo),.y (.string h.rng.hi),.y (.int .u64 h.epoch),.y (.int .u64 h.frozen),bZ false h.recs,.own 2 4 0 a.length,.own 3 2 0 c.length]]
structure PQ (l:List Int) (t:List P.Producer) (s':RS) where
 n:Nat
 s:RS
 a:List P.Producer
 e:jB (eY l) n s a=(t,s')
 h:bL l s
 m:a.length+n<=100000
structure CQ (l:List Int) (t:List Con) (s':RS) where
 n:Nat
 s:RS
 a:List Con
 e:jB (iE l) n s a=(t,s')
 h:bL l s
 m:a.length+n<=100000
def pqT (n:Nat):List AV:=mkT 75 [(2,.ptr 0 0 0 0),(4,rP),(5,.ptr 4 0 0 0),(6,.y (.int .i64 n))]
def cqT (n:Nat):List AV:=mkT 75 [(2,.ptr 0 0 0 0),(4,rP),(5,.ptr 4 0 0 0),(8,.y (.int .i64 n))]
def pqS (l:List Int) (h:BN) (t:List P.Producer) (s':RS) (_:Unit):Exit×List AV×List aH:=(.exit 0,pqT 0,zB l s' h t [])
def cqS (l:List Int) (h:BN) (p:List P.Producer) (t:List Con) (s':RS) (_:Unit):Exit×List AV×List aH:=(.exit 2,cqT 0,zB l s' h p t)
noncomputable def pqH (l:List Int) (s:RS) (a:Int) (s1:RS) (b:Int) (s2:RS) (c:Bool) (s3:RS) (d:Int) (s4:RS):aC Tryz.prog:=zZ (dS (hh _ bB (cs1 27 8 1 (uC l s a s1) (cs1 27 8 3 (uC l s1 b s2) (cs1 27 9 1 (bC l s2 c s3) (cs1 27 9 3 (uC l s3 d s4) bA)))) bq) (nk 27 10 6 4 noSh))
def ady (l:List Int) (h:BN) (t:List P.Producer) (s':RS) (q:PQ l t s') (a:Int) (s1:RS) (b:Int) (s2:RS) (c:Bool) (s3:RS) (d:Int) (s4:RS):Prop :=
 (decide (0<(q.n:Int))=true->((0=0/\0=0)/\True)/\((bV l q.s q.s)/\True)/\bL l q.s/\(a,s1)=aB l q.s/\((0=0/\0=0)/\True)/\((bV l s1 s1)/\True)/\bL l s1/\(b,s2)=aB l s1/\((0=0/\0=0)/\True)/\((bV l s2 s2)/\True)/\bL l s2/\(c,s3)=dM l s2/\((0=0/\0=0)/\True)/\((bV l s3 s3)/\True)/\bL l s3/\(d,s4)=aB l s3/\(decide (q.a.length=q.a.length)&&decide (q.a.length+1<=9223372036854775807)&&decide ((q.a.length+1)*32<=140737488355328))=true/\∃ (j:PQ l t s'),j.n<q.n/\(((0=0/\0=0)/\(0=0/\0=0)/\(0=0/\0=0)/\IntKind.i64.wrap ((q.n:Int) - 1)=(j.n:Int)/\True)/\((ByteArray.empty=ByteArray.empty/\ByteArray.empty=ByteArray.empty/\(0:Int)=0/\(0:Int)=0/\True/\True/\True/\True)/\(bV l s4 j.s)/\(q.a.length+1=j.a.length/\ak (q.a.length+1) 4 (aL q.a.length (ah P.ay q.a) fun (k j:Nat)=>Ax.get [AV.y (.int .u64 a),AV.y (.int .u64 b),AV.y (.bool c),AV.y (.int .u64 d)] (k*4+j)) (ah P.ay j.a))/\(0=0/\ak 0 2 (ah aJ []) (ah aJ []))/\(h.rng.lo=h.rng.lo/\h.rng.hi=h.rng.hi/\h.epoch=h.epoch/\h.frozen=h.frozen/\(false=false/\h.recs.length=h.recs.length/\ak h.recs.length 5 (ah encR h.recs) (ah encR h.recs))/\(0=0/\q.a.length+1=j.a.length)/\(0=0/\0=0)/\True)/\True)/\true=true)/\true=true/\()=())/\(decide (0<(q.n:Int))=false->((0=0/\0=0)/\(0=0/\0=0)/\(0=0/\0=0)/\(q.n:Int)=0/\True)/\((ByteArray.empty=ByteArray.empty/\ByteArray.empty=ByteArray.empty/\(0:Int)=0/\(0:Int)=0/\True/\True/\True/\True)/\(bV l q.s s')/\(q.a.length=t.length/\ak q.a.length 4 (ah P.ay q.a) (ah P.ay t))/\(0=0/\ak 0 2 (ah aJ []) (ah aJ []))/\(h.rng.lo=h.rng.lo/\h.rng.hi=h.rng.hi/\h.epoch=h.epoch/\h.frozen=h.frozen/\(false=false/\h.recs.length=h.recs.length/\ak h.recs.length 5 (ah encR h.recs) (ah encR h.recs))/\(0=0/\q.a.length=t.length)/\(0=0/\0=0)/\True)/\True)/\true=true)
theorem WH (l:List Int) (h:BN) (t:List P.Producer) (s':RS) (q:PQ l t s') (a:Int) (s1:RS) (b:Int) (s2:RS) (c:Bool) (s3:RS) (d:Int) (s4:RS):(cu Tryz.prog (pqH l q.s a s1 b s2 c s3 d s4) 27 6 (fun q:PQ l t s'=>q.n) (fun q=>pqT q.n) (fun q=>zB l q.s h q.a []) [2,5,6] (fun _=>.ret ()) (pqS l h t s') q)=ady l h t s' q a s1 b s2 c s3 d s4:=by kernel_rfl
noncomputable def cqH (l:List Int) (s:RS) (a:ByteArray) (s1:RS) (b:Int) (s2:RS):aC Tryz.prog:=zZ (dS (hh _ bB (cs1 27 14 1 (sC l s 32 a s1) (cs1 27 15 1 (uC l s1 b s2) bA)) bq) (nk 27 16 6 5 noSh))
def ae4 (l:List Int) (h:BN) (p:List P.Producer) (t:List Con) (s':RS) (q:CQ l t s') (a:ByteArray) (s1:RS) (b:Int) (s2:RS):Prop :=
 (decide (0<(q.n:Int))=true->((0=0/\0=0)/\(32:Int)=32/\True)/\((bV l q.s q.s)/\True)/\(bL l q.s/\jC 32)/\(a,s1)=(strOf (aU l q.s 32).fst,(aU l q.s 32).snd)/\((0=0/\0=0)/\True)/\((bV l s1 s1)/\True)/\bL l s1/\(b,s2)=aB l s1/\(decide (q.a.length=q.a.length)&&decide (q.a.length+1<=9223372036854775807)&&decide ((q.a.length+1)*24<=140737488355328))=true/\∃ (j:CQ l t s'),j.n<q.n/\(((0=0/\0=0)/\(0=0/\0=0)/\(0=0/\0=0)/\IntKind.i64.wrap ((q.n:Int) - 1)=(j.n:Int)/\True)/\((ByteArray.empty=ByteArray.empty/\ByteArray.empty=ByteArray.empty/\(0:Int)=0/\(0:Int)=0/\True/\True/\True/\True)/\(bV l s2 j.s)/\(p.length=p.length/\ak p.length 4 (ah P.ay p) (ah P.ay p))/\(q.a.length+1=j.a.length/\ak (q.a.length+1) 2 (aL q.a.length (ah aJ q.a) fun (k j:Nat)=>Ax.get [AV.y (.string a),AV.y (.int .u64 b)] (k*2+j)) (ah aJ j.a))/\(h.rng.lo=h.rng.lo/\h.rng.hi=h.rng.hi/\h.epoch=h.epoch/\h.frozen=h.frozen/\(false=false/\h.recs.length=h.recs.length/\ak h.recs.length 5 (ah encR h.recs) (ah encR h.recs))/\(0=0/\p.length=p.length)/\(0=0/\q.a.length+1=j.a.length)/\True)/\True)/\true=true)/\true=true/\()=())/\(decide (0<(q.n:Int))=false->((0=0/\0=0)/\(0=0/\0=0)/\(0=0/\0=0)/\(q.n:Int)=0/\True)/\((ByteArray.empty=ByteArray.empty/\ByteArray.empty=ByteArray.empty/\(0:Int)=0/\(0:Int)=0/\True/\True/\True/\True)/\(bV l q.s s')/\(p.length=p.length/\ak p.length 4 (ah P.ay p) (ah P.ay p))/\(q.a.length=t.length/\ak q.a.length 2 (ah aJ q.a) (ah aJ t))/\(h.rng.lo=h.rng.lo/\h.rng.hi=h.rng.hi/\h.epoch=h.epoch/\h.frozen=h.frozen/\(false=false/\h.recs.length=h.recs.length/\ak h.recs.length 5 (ah encR h.recs) (ah encR h.recs))/\(0=0/\p.length=p.length)/\(0=0/\q.a.length=t.length)/\True)/\True)/\true=true)
theorem Yc (l:List Int) (h:BN) (p:List P.Producer) (t:List Con) (s':RS) (q:CQ l t s') (a:ByteArray) (s1:RS) (b:Int) (s2:RS):(cu Tryz.prog (cqH l q.s a s1 b s2) 27 12 (fun q:CQ l t s'=>q.n) (fun q=>cqT q.n) (fun q=>zB l q.s h p q.a) [3,5,6] (fun _=>.ret ()) (cqS l h p t s') q)=ae4 l h p t s' q a s1 b s2:=by kernel_rfl
def yL (l:List Int):BN×RS :=
 let g:=j_ l default;let e:=aB l g.2;let f:=aB l e.2;let r:=f_ l f.2 4096
 (⟨g.1,e.1,f.1,r.1⟩,r.2)
def nV (l:List Int):Part×RS :=
 let h:=yL l;let p:=kg l h.2;let c:=IW l p.2
 (⟨h.1.rng,h.1.epoch,h.1.frozen,h.1.recs,p.1,c.1⟩,c.2)
def mI (l:List Int):Part×Int:=if bS l (nV l).2=0/\aX (nV l).1=true then ((nV l).1,0) else (default,165)
def FK (p:Part):List AV:=[.y (.string p.rng.lo),.y (.string p.rng.hi),.y (.int .u64 p.epoch),.y (.int .u64 p.frozen),bZ false p.recs,P.bG true p.prods,dR true p.cons]
def rpR (p:Part) (e:Int):T An:=.ret (.tup [.agg (FK p),.y (.int .i64 e)],[],[])
structure Ms (l:List Int) where
 g:kW
 s1:RS
 ep:Int
 s2:RS
 fr:Int
 s3:RS
 rc:List Rec
 s4:RS
 n1:Int
 s5:RS
 t6:List P.Producer
 s6:RS
 n2:Int
 s7:RS
 t8:List Con
 s8:RS
 q:PQ l t6 s6
 r:CQ l t8 s8
abbrev Ms.hd {l:List Int} (x:Ms l):BN:=⟨x.g,x.ep,x.fr,x.rc⟩
abbrev Ms.p {l:List Int} (x:Ms l):Part:=⟨x.g,x.ep,x.fr,x.rc,x.t6,x.t8⟩
noncomputable def Y4 (b:Bool) (l:List Int) (x:Ms l):aC Tryz.prog:=zZ (dS (hh _ (nu 27 6 (eP (fun q:PQ l x.t6 x.s6=>pqT q.n) (fun q=>zB l q.s x.hd q.a []) [2,5,6] (fun _=>.ret ()) (pqS l x.hd x.t6 x.s6) x.q) (nu 27 12 (eP (fun q:CQ l x.t8 x.s8=>cqT q.n) (fun q=>zB l q.s x.hd x.t6 q.a) [3,5,6] (fun _=>.ret ()) (cqS l x.hd x.t6 x.t8 x.s8) x.r) bB)) (cs1 27 1 1 (nrC b l) (cs1 27 2 1 (gC l default x.g x.s1) (cs1 27 3 1 (uC l x.s1 x.ep x.s2) (cs1 27 3 3 (uC l x.s2 x.fr x.s3) (cs1 27 4 1 (lC0 l x.s3 4096 x.rc x.s4) (cs1 27 5 1 (cC l x.s4 256 x.n1 x.s5) (cs1 27 11 1 (cC l x.s6 64 x.n2 x.s7) (cs1 27 17 1 (dC l x.s8) (cs1 27 17 5 (pcC false x.p) bA))))))))) bq) (nk 27 2 2 1096 (nk 27 19 0 779 noSh)))
def Gv (b:Bool) (l:List Int) (x:Ms l) (p:Part) (e:Int):Prop :=
 ((b=b/\l.length=l.length/\ak l.length 1 (ah aD l) (ah aD l))/\True)/\True/\LOk l/\((0=0/\0=0)/\True)/\(((dI l l)/\(0:Int)=0/\(false=false/\true=true/\2<=2/\eT 2 (Ax.get [AV.y (.int .i64 0),AV.ifc 31 (AV.y (.int .i64 0))]) (Ax.get [AV.y (.int .i64 0),AV.ifc 31 (AV.y (.int .i64 0))]))/\True)/\True)/\bL l default/\(x.g,x.s1)=j_ l default/\((0=0/\0=0)/\True)/\((bV l x.s1 x.s1)/\True)/\bL l x.s1/\(x.ep,x.s2)=aB l x.s1/\((0=0/\0=0)/\True)/\((bV l x.s2 x.s2)/\True)/\bL l x.s2/\(x.fr,x.s3)=aB l x.s2/\((0=0/\0=0)/\(4096:Int)=4096/\True)/\((bV l x.s3 x.s3)/\True)/\(bL l x.s3/\jC 4096/\(4096:Int)<=4096)/\(x.rc,x.s4)=f_ l x.s3 4096/\((0=0/\0=0)/\(256:Int)=256/\True)/\((bV l x.s4 x.s4)/\True)/\(bL l x.s4/\jC 256)/\(x.n1,x.s5)=aK l x.s4 256/\(((0=0/\0=0)/\(0=0/\0=0)/\(0=0/\0=0)/\x.n1=(x.q.n:Int)/\True)/\(({ data:=#[]:ByteArray }=ByteArray.empty/\{ data:=#[]:ByteArray }=ByteArray.empty/\(0:Int)=0/\(0:Int)=0/\True/\True/\True/\True)/\(bV l x.s5 x.q.s)/\(0=x.q.a.length/\ak 0 4 (fun (x x_1:Nat)=>AV.junk) (ah P.ay x.q.a))/\(0=0/\ak 0 2 (fun (x x_1:Nat)=>AV.junk) (ah aJ []))/\(x.g.lo=x.g.lo/\x.g.hi=x.g.hi/\x.ep=x.ep/\x.fr=x.fr/\(false=false/\x.rc.length=x.rc.length/\ak x.rc.length 5 (ah encR x.rc) (ah encR x.rc))/\(0=0/\0=x.q.a.length)/\(0=0/\0=0)/\True)/\True)/\true=true)/\aQ Tryz.prog 27 6 (aS Tryz.prog 27 6) { t:=pqT x.q.n,m:=zB l x.q.s (Ms.hd x) x.q.a [],mv:=[]:St } (T.map (bU [2,5,6] (pqS l (Ms.hd x) x.t6 x.s6)) ((fun (x:PQ l x.t6 x.s6)=>T.ret ()) x.q))/\((0=0/\0=0)/\(64:Int)=64/\True)/\((bV l x.s6 x.s6)/\True)/\(bL l x.s6/\jC 64)/\(x.n2,x.s7)=aK l x.s6 64/\(((0=0/\0=0)/\(0=0/\0=0)/\(0=0/\0=0)/\x.n2=(x.r.n:Int)/\True)/\((ByteArray.empty=ByteArray.empty/\ByteArray.empty=ByteArray.empty/\(0:Int)=0/\(0:Int)=0/\True/\True/\True/\True)/\(bV l x.s7 x.r.s)/\(x.t6.length=x.t6.length/\ak x.t6.length 4 (ah P.ay x.t6) (ah P.ay x.t6))/\(0=x.r.a.length/\ak 0 2 (ah aJ []) (ah aJ x.r.a))/\(x.g.lo=x.g.lo/\x.g.hi=x.g.hi/\x.ep=x.ep/\x.fr=x.fr/\(false=false/\x.rc.length=x.rc.length/\ak x.rc.length 5 (ah encR x.rc) (ah encR x.rc))/\(0=0/\x.t6.length=x.t6.length)/\(0=0/\0=x.r.a.length)/\True)/\True)/\true=true)/\aQ Tryz.prog 27 12 (aS Tryz.prog 27 12) { t:=cqT x.r.n,m:=zB l x.r.s (Ms.hd x) x.t6 x.r.a,mv:=[]:St } (T.map (bU [3,5,6] (cqS l (Ms.hd x) x.t6 x.t8 x.s8)) ((fun (x:CQ l x.t8 x.s8)=>T.ret ()) x.r))/\((0=0/\0=0)/\True)/\((bV l x.s8 x.s8)/\True)/\bL l x.s8/\((bS l x.s8 != 0)=true->(({ data:=#[]:ByteArray }=p.rng.lo/\{ data:=#[]:ByteArray }=p.rng.hi/\0=p.epoch/\0=p.frozen/\p.recs.length=0/\p.prods.length=0/\p.cons.length=0/\True)/\165=e/\True)/\True)/\((bS l x.s8 != 0)=false->((x.g.lo=x.g.lo/\x.g.hi=x.g.hi/\x.ep=x.ep/\x.fr=x.fr/\(false=false/\x.rc.length=x.rc.length/\ak x.rc.length 5 (ah encR x.rc) (ah encR x.rc))/\(false=false/\x.t6.length=x.t6.length/\ak x.t6.length 4 (Ax.rowAt 0 (ah P.ay x.t6)) (ah P.ay x.t6))/\(false=false/\x.t8.length=x.t8.length/\ak x.t8.length 2 (Ax.rowAt 0 (ah aJ x.t8)) (ah aJ x.t8))/\True)/\True)/\True/\eO (Ms.p x)/\(aX (Ms.p x)=true->true=true/\True/\(∀ k,k<x.t6.length->∀ j,j<4->dK (ah P.ay x.t6 k j)=true)/\(∀ k,k<x.t8.length->∀ j,j<2->dK (ah aJ x.t8 k j)=true)/\((x.g.lo=p.rng.lo/\x.g.hi=p.rng.hi/\x.ep=p.epoch/\x.fr=p.frozen/\(false=false/\x.rc.length=p.recs.length/\ak x.rc.length 5 (ah encR x.rc) (ah encR p.recs))/\(true=true/\x.t6.length=p.prods.length/\ak x.t6.length 4 (Ax.rowAt 0 (ah P.ay x.t6)) (ah P.ay p.prods))/\(true=true/\x.t8.length=p.cons.length/\ak x.t8.length 2 (Ax.rowAt 0 (ah aJ x.t8)) (ah aJ p.cons))/\True)/\0=e/\True)/\True)/\(aX (Ms.p x)=false->true=true/\True/\(({ data:=#[]:ByteArray }=p.rng.lo/\{ data:=#[]:ByteArray }=p.rng.hi/\0=p.epoch/\0=p.frozen/\p.recs.length=0/\p.prods.length=0/\p.cons.length=0/\True)/\165=e/\True)/\True))
theorem wB (b:Bool) (l:List Int) (x:Ms l) (p:Part) (e:Int):(aZ Tryz.prog (Y4 b l x) 27 [bn b l] [] (rpR p e))=Gv b l x p e:=by kernel_rfl
theorem jG {l:List Int} {s:RS} (h:bL l s):bL l (dM l s).2:=by
 unfold dM
 split
 · exact h
 · split
   · exact qH h (by decide) h.at_
   · split
     · exact qH h (by decide) h.at_
     · have:=h.at_
       exact ⟨h.n,by show s.at_+1<=l.length;omega,h.b,h.bad⟩
theorem Gb (l:List Int):∀ n s a,bL l s->bL l (kJ l n s a).2
 | 0,s,a,h=>h
 | n+1,s,a,h=>by
   unfold kJ
   split
   · exact h
   · exact Gb l n _ _ (uK h)
theorem uN {l:List Int} {s:RS} {most:Int} (h:bL l s):bL l (f_ l s most).2:=Gb l _ _ _ (gI h).1
theorem DW:jC 64:=⟨by decide,by decide⟩
theorem G6:jC 4096:=⟨by decide,by decide⟩
theorem ag_ (b:Bool) (l:List Int) (h:iq l):(rxR (uh l).1 (uh l).2).Sat (au Tryz.prog 25 [bn b l] []):=by
 have hl:=h.n
 have k0:=EY h.n h.b
 obtain ⟨a,s1,e1⟩:∃ v t,(v,t)=jr l default:=⟨_,_,rfl⟩
 have k1:=xV k0 e1
 obtain ⟨u,s2,e2⟩:∃ v t,(v,t)=aB l s1:=⟨_,_,rfl⟩
 have k2:=(iF k1 e2).1
 obtain ⟨c,s3,e3⟩:∃ v t,(v,t)=dM l s2:=⟨_,_,rfl⟩
 have k3:bL l s3:=by have:=jG k2;rw [<- e3] at this;exact this
 obtain ⟨d,s4,e4⟩:∃ v t,(v,t)=f_ l s3 64:=⟨_,_,rfl⟩
 have k4:bL l s4:=by have:=uN (most:=64) k3;rw [<- e4] at this;exact this
 have hr:Am l=(⟨a,u,c,d⟩,s4):=by
  unfold Am
  simp only [<- e1,<- e2,<- e3,<- e4]
 refine aR (ht:=rxH b l a s1 u s2 c s3 d s4) Tryz.mixed rfl ?_
 rw [Yf b l a s1 u s2 c s3 d s4 (uh l).1 (uh l).2]
 unfold adP uh
 rw [hr]
 have q:=DW
 have z0:(default:R.gJ)=⟨0,0,false,[]⟩:=rfl
 obtain ⟨p1,p2⟩:=Prod.mk.inj e1
 by_cases hd:bS l s4=0
 · simp [hl,k0,k1,k2,k3,k4,q,hd,z0]
   repeat' with_reducible apply And.intro
   all_goals assumption
 · simp [hl,k0,k1,k2,k3,k4,q,hd,z0]
   repeat' with_reducible apply And.intro
   all_goals assumption
noncomputable def rxC (b:Bool) (l:List Int) (x:R.gJ) (e:Int):dO Tryz.prog:=⟨25,[bn b l],[],.need (iq l) (.need ((x,e)=uh l) (rxR x e)),T.Sat.need fun h=>T.Sat.need fun q=>by
 have e1:x=(uh l).1:=congrArg Prod.fst q
 have e2:e=(uh l).2:=congrArg Prod.snd q
 rw [e1,e2]
 exact ag_ b l h⟩
theorem rz {l:List Int} {s:RS} (h:bL l s):bL l (eY l s).2:=(bf (jG (bf (bf h).1).1)).1
theorem L6 {l:List Int} {s:RS} (h:bL l s):bL l (iE l s).2:=(bf (ng h rfl)).1
theorem zn {α:Type} {l:List Int} {f:RS->α×RS} (hf:∀ s,bL l s->bL l (f s).2):∀ n s a,bL l s->bL l (jB f n s a).2
 | 0,s,a,h=>h
 | n+1,s,a,h=>by
   unfold jB
   exact zn hf n _ _ (hf s h)
theorem rD {α:Type} {f:RS->α×RS}:∀ n s a,(jB f n s a).1.length=a.length+n
 | 0,s,a=>rfl
 | n+1,s,a=>by
   unfold jB
   rw [rD n]
   simp
   omega
theorem AL {α:Type} {l:List Int} {f:RS->α×RS} {Q:α->Prop} (hf:∀ s,bL l s->bL l (f s).2/\Q (f s).1):∀ n s a,bL l s->(∀ x∈a,Q x)->∀ x∈(jB f n s a).1,Q x
 | 0,s,a,h,ha=>ha
 | n+1,s,a,h,ha=>by
   unfold jB
   refine AL hf n _ _ (hf s h).1 fun x hx=>?_
   rcases List.mem_append.1 hx with hx | hx
   · exact ha x hx
   · obtain rfl:=List.mem_singleton.1 hx
     exact (hf s h).2
theorem count_le {l:List Int} {s:RS} {most:Int} (h:bL l s):(aK l s most).1<=max most 0/\0<=(aK l s most).1:=by
 have h2:=(gI (most:=most) h).2.1.lo
 refine ⟨?_,h2⟩
 unfold aK
 split
 · simp;omega
 · split
   · simp;omega
   · split
     · simp;omega
     · rename_i a b c
       have:¬ (most<0∨most<(aB l s).1):=b
       omega
theorem XB (l:List Int) (h:BN) (t:List P.Producer) (s':RS) (q:PQ l t s'):aQ Tryz.prog 27 6 (aS Tryz.prog 27 6) ⟨pqT q.n,zB l q.s h q.a [],[]⟩ (T.map (bU [2,5,6] (pqS l h t s')) (.ret ())):=by
 refine dU (P:=Tryz.prog) (f:=27) (k:=6) (ι:=PQ l t s') (μ:=fun q=>q.n) (ht:=fun q=>pqH l q.s (aB l q.s).1 (aB l q.s).2 (aB l (aB l q.s).2).1 (aB l (aB l q.s).2).2 (dM l (aB l (aB l q.s).2).2).1 (dM l (aB l (aB l q.s).2).2).2 (aB l (dM l (aB l (aB l q.s).2).2).2).1 (aB l (dM l (aB l (aB l q.s).2).2).2).2) (qG:=fun q=>pqT q.n) (stM:=fun q=>zB l q.s h q.a []) (X:=[2,5,6]) (o:=fun _=>.ret ()) (S:=pqS l h t s') Tryz.mixed (fun _=>rfl) (fun q=>?_) q
 rw [WH]
 unfold ady
 obtain ⟨n,s,a,e,hs,m⟩:=q
 simp only
 cases n with
 | zero =>
   have e1:a=t:=congrArg Prod.fst e
   have e2:s=s':=congrArg Prod.snd e
   subst e1 e2
   simp
 | succ n =>
   have hd:decide ((0:Int)<((n+1:Nat):Int))=true:=by simp only [decide_eq_true_eq];omega
   have k1:=(bf hs).1
   have k2:=(bf k1).1
   have k3:=jG k2
   have k4:=(bf k3).1
   have e1:jB (eY l) n (eY l s).2 (a++[(eY l s).1])=(t,s'):=e
   have w:IntKind.wrap IntKind.i64 (((n+1:Nat):Int) - 1)=(n:Int):=by rw [wrap_i64 (by omega) (by omega)];omega
   have ha:=jo (enc:=P.ay) (l:=a) (n:=a.length) (sz:=4) (x:=(eY l s).1) (cs:=P.ay (eY l s).1) rfl (fun j hj=>bN _)
   simp only [hd,w]
   simp [hs,k1,k2,k3]
   refine ⟨by omega,⟨n,(eY l s).2,a++[(eY l s).1],e1,k4,by simp;omega⟩,by show n<n+1;omega,rfl,?_⟩
   simp [eY]
   exact ha
theorem VB (l:List Int) (h:BN) (p:List P.Producer) (t:List Con) (s':RS) (q:CQ l t s'):aQ Tryz.prog 27 12 (aS Tryz.prog 27 12) ⟨cqT q.n,zB l q.s h p q.a,[]⟩ (T.map (bU [3,5,6] (cqS l h p t s')) (.ret ())):=by
 refine dU (P:=Tryz.prog) (f:=27) (k:=12) (ι:=CQ l t s') (μ:=fun q=>q.n) (ht:=fun q=>cqH l q.s (jF l q.s 32).1 (jF l q.s 32).2 (aB l (jF l q.s 32).2).1 (aB l (jF l q.s 32).2).2) (qG:=fun q=>cqT q.n) (stM:=fun q=>zB l q.s h p q.a) (X:=[3,5,6]) (o:=fun _=>.ret ()) (S:=cqS l h p t s') Tryz.mixed (fun _=>rfl) (fun q=>?_) q
 rw [Yc]
 unfold ae4
 obtain ⟨n,s,a,e,hs,m⟩:=q
 simp only
 cases n with
 | zero =>
   have e1:a=t:=congrArg Prod.fst e
   have e2:s=s':=congrArg Prod.snd e
   subst e1 e2
   simp
 | succ n =>
   have hd:decide ((0:Int)<((n+1:Nat):Int))=true:=by simp only [decide_eq_true_eq];omega
   have k1:bL l (jF l s 32).2:=ng hs rfl
   have k2:=(bf k1).1
   have e1:jB (iE l) n (iE l s).2 (a++[(iE l s).1])=(t,s'):=e
   have w:IntKind.wrap IntKind.i64 (((n+1:Nat):Int) - 1)=(n:Int):=by rw [wrap_i64 (by omega) (by omega)];omega
   have ha:=jo (enc:=aJ) (l:=a) (n:=a.length) (sz:=2) (x:=(iE l s).1) (cs:=aJ (iE l s).1) rfl (fun j hj=>bN _)
   have z:=qI
   simp only [hd,w]
   simp [hs,k1,z]
   refine ⟨⟨rfl,rfl⟩,by omega,⟨n,(iE l s).2,a++[(iE l s).1],e1,k2,by simp;omega⟩,by show n<n+1;omega,rfl,?_⟩
   simp [iE]
   exact ha
theorem rY (l:List Int):∀ n s a,(kJ l n s a).1.length<=a.length+n
 | 0,s,a=>Nat.le_refl _
 | n+1,s,a=>by
   unfold kJ
   split
   · simp
   · have:=rY l n (eH l s).2 (a++[(eH l s).1])
     rw [List.length_append] at this
     simp at this
     omega
theorem aao (l:List P.Producer):∀ k,k<l.length->∀ j,j<4->dK (ah P.ay l k j)=true:=by
 intro k hk j hj
 have:j=0∨j=1∨j=2∨j=3:=by omega
 rcases this with rfl | rfl | rfl | rfl<;>rfl
theorem YU (l:List Con):∀ k,k<l.length->∀ j,j<2->dK (ah aJ l k j)=true:=by
 intro k hk j hj
 have:j=0∨j=1:=by omega
 rcases this with rfl | rfl<;>rfl
theorem ag0 (b:Bool) (l:List Int) (h:iq l):(rpR (mI l).1 (mI l).2).Sat (au Tryz.prog 27 [bn b l] []):=by
 have hl:=h.n
 have k0:=EY h.n h.b
 obtain ⟨g,s1,e1⟩:∃ v t,(v,t)=j_ l default:=⟨_,_,rfl⟩
 have k1:bL l s1:=by have:=Jj k0;rw [<- e1] at this;exact this
 obtain ⟨ep,s2,e2⟩:∃ v t,(v,t)=aB l s1:=⟨_,_,rfl⟩
 have k2:=(iF k1 e2).1
 obtain ⟨fr,s3,e3⟩:∃ v t,(v,t)=aB l s2:=⟨_,_,rfl⟩
 have k3:=(iF k2 e3).1
 obtain ⟨rc,s4,e4⟩:∃ v t,(v,t)=f_ l s3 4096:=⟨_,_,rfl⟩
 have k4:bL l s4:=by have:=uN (most:=4096) k3;rw [<- e4] at this;exact this
 obtain ⟨n1,s5,e5⟩:∃ v t,(v,t)=aK l s4 256:=⟨_,_,rfl⟩
 have k5:bL l s5:=by have:=(gI (most:=256) k4).1;rw [<- e5] at this;exact this
 have c5:=count_le (most:=256) k4
 rw [<- e5] at c5
 obtain ⟨t6,s6,e6⟩:∃ v t,(v,t)=jB (eY l) n1.toNat s5 []:=⟨_,_,rfl⟩
 have k6:bL l s6:=by have:=zn (f:=eY l) (fun s h=>rz h) n1.toNat s5 [] k5;rw [<- e6] at this;exact this
 obtain ⟨n2,s7,e7⟩:∃ v t,(v,t)=aK l s6 64:=⟨_,_,rfl⟩
 have k7:bL l s7:=by have:=(gI (most:=64) k6).1;rw [<- e7] at this;exact this
 have c7:=count_le (most:=64) k6
 rw [<- e7] at c7
 obtain ⟨t8,s8,e8⟩:∃ v t,(v,t)=jB (iE l) n2.toNat s7 []:=⟨_,_,rfl⟩
 have k8:bL l s8:=by have:=zn (f:=iE l) (fun s h=>L6 h) n2.toNat s7 [] k7;rw [<- e8] at this;exact this
 simp only at c5 c7
 have hr:nV l=(⟨g,ep,fr,rc,t6,t8⟩,s8):=by
  unfold nV yL kg IW
  simp only [<- e1,<- e2,<- e3,<- e4,<- e5,<- e6,<- e7,<- e8]
 have l6:t6.length=n1.toNat:=by have:=rD (f:=eY l) n1.toNat s5 [];rw [<- e6] at this;simpa using this
 have l8:t8.length=n2.toNat:=by have:=rD (f:=iE l) n2.toNat s7 [];rw [<- e8] at this;simpa using this
 have l4:rc.length<=4096:=by
  have c4:=count_le (most:=4096) k3
  have:=rY l (aK l s3 4096).1.toNat (aK l s3 4096).2 []
  have e:(rc,s4)=kJ l (aK l s3 4096).1.toNat (aK l s3 4096).2 []:=e4
  rw [<- e] at this
  simp at this
  omega
 have po:∀ k,k<t6.length->0<=(t6.getD k default).offset:=by
  have:=AL (Q:=fun x:P.Producer=>0<=x.offset) (f:=eY l) (fun s h=>⟨rz h,(bf (jG (bf (bf h).1).1)).2.lo⟩) n1.toNat s5 [] k5 (fun x hx=>by cases hx)
  rw [<- e6] at this
  intro k hk
  have hm:t6.getD k default∈t6:=by
   simp only [List.getD,List.getElem?_eq_getElem hk,Option.getD_some]
   exact List.getElem_mem hk
  exact this _ hm
 have hpi:eO ⟨g,ep,fr,rc,t6,t8⟩:=⟨by show rc.length<=_;omega,by show t6.length<=_;omega,by show t8.length<=_;omega,po⟩
 have q1:∃ q:PQ l t6 s6,q.n=n1.toNat/\q.s=s5/\q.a=[]:=⟨⟨n1.toNat,s5,[],e6.symm,k5,by simp;omega⟩,rfl,rfl,rfl⟩
 obtain ⟨q,q1,q2,q3⟩:=q1
 have q4:∃ q:CQ l t8 s8,q.n=n2.toNat/\q.s=s7/\q.a=[]:=⟨⟨n2.toNat,s7,[],e8.symm,k7,by simp;omega⟩,rfl,rfl,rfl⟩
 obtain ⟨r,r1,r2,r3⟩:=q4
 have lp:=XB l ⟨g,ep,fr,rc⟩ t6 s6 q
 have lq:=VB l ⟨g,ep,fr,rc⟩ t6 t8 s8 r
 refine aR (ht:=Y4 b l ⟨g,s1,ep,s2,fr,s3,rc,s4,n1,s5,t6,s6,n2,s7,t8,s8,q,r⟩) Tryz.mixed rfl ?_
 rw [wB b l ⟨g,s1,ep,s2,fr,s3,rc,s4,n1,s5,t6,s6,n2,s7,t8,s8,q,r⟩ (mI l).1 (mI l).2]
 unfold Gv mI
 rw [hr]
 have z64:=DW
 have z256:=rU
 have z4096:=G6
 have z0:(default:Part)=⟨⟨ByteArray.empty,ByteArray.empty⟩,0,0,[],[],[]⟩:=rfl
 have z1:ByteArray.empty=(⟨#[]⟩:ByteArray):=rfl
 have w1:((n1.toNat:Nat):Int)=n1:=by omega
 have w2:((n2.toNat:Nat):Int)=n2:=by omega
 have hr6:ak t6.length 4 (Ax.rowAt 0 (ah P.ay t6)) (ah P.ay t6):=fun k hk j hj=>bN _
 have hr8:ak t8.length 2 (Ax.rowAt 0 (ah aJ t8)) (ah aJ t8):=fun k hk j hj=>bN _
 have tp:=aao t6
 have tc:=YU t8
 rw [q1,q2,q3] at lp
 rw [r1,r2,r3] at lq
 simp only [q1,q2,q3,r1,r2,r3,w1,w2]
 have f1:j_ l default=(g,s1):=e1.symm
 have f2:aB l s1=(ep,s2):=e2.symm
 by_cases hd:bS l s8=0
 · cases hw:aX (⟨g,ep,fr,rc,t6,t8⟩:Part)
   · simp [hl,k0,k1,k2,k3,k4,k5,k6,k7,k8,z64,z256,z4096,hd,hw,hpi,z0,z1,hr6,hr8,e1,e2,e3,e4,e5,e7]
     repeat' with_reducible apply And.intro
     all_goals first | assumption | skip
   · simp [hl,k0,k1,k2,k3,k4,k5,k6,k7,k8,z64,z256,z4096,hd,hw,hpi,z0,z1,hr6,hr8,e1,e2,e3,e4,e5,e7]
     repeat' with_reducible apply And.intro
     all_goals first | assumption | skip
 · simp [hl,k0,k1,k2,k3,k4,k5,k6,k7,k8,z64,z256,z4096,hd,hpi,z0,z1,hr6,hr8,e1,e2,e3,e4,e5,e7]
   repeat' with_reducible apply And.intro
   all_goals first | assumption | skip
def XH (p:Part) (e:Int):T An:=.ret (.tup [.agg (aW false p),.y (.int .i64 e)],[],[])
theorem MO {H:HH} (hH:(H true).le (H false)) {p:Part} {e:Int} {E:Env} {v:Value} (h:Rel (.tup [.agg (FK p),.y (.int .i64 e)]) H E v):Rel (.tup [.agg (aW false p),.y (.int .i64 e)]) H E v:=by
 obtain ⟨vs,hu,a,r,hr,h1,h2⟩:=h
 obtain ⟨us,hu2,h3⟩:=h1
 exact ⟨vs,hu,a,r,hr,⟨us,hu2,HZ hH h3⟩,h2⟩
theorem ah2 (b:Bool) (l:List Int) (h:iq l):(XH (mI l).1 (mI l).2).Sat (au Tryz.prog 27 [bn b l] []):=by
 have h1:au Tryz.prog 27 [bn b l] [] (.tup [.agg (FK (mI l).1),.y (.int .i64 (mI l).2)],[],[]):=jN (ag0 b l h)
 have h2:au Tryz.prog 27 [bn b l] [] (.tup [.agg (aW false (mI l).1),.y (.int .i64 (mI l).2)],[],[]):=rZ (fun H E v hH hr=>MO hH hr) h1
 exact T.Sat.ret h2
noncomputable def rpC (b:Bool) (l:List Int) (p:Part) (e:Int):dO Tryz.prog:=⟨27,[bn b l],[],.need (iq l) (.need ((p,e)=mI l) (XH p e)),T.Sat.need fun h=>T.Sat.need fun q=>by
 have e1:p=(mI l).1:=congrArg Prod.fst q
 have e2:e=(mI l).2:=congrArg Prod.snd q
 rw [e1,e2]
 exact ah2 b l h⟩
def gP {α:Type} (f:RS->α×RS):Nat->RS->List α->List α×RS
 | 0,s,a=>(a,s)
 | n+1,s,a=>if s.e != 0 then (a,s) else gP f n (f s).2 (a++[(f s).1])
def gu (l:List Int) (s:RS) (most:Int):List Rec×RS:=gP (eH l) (aK l s most).1.toNat (aK l s most).2 []
theorem zf {l:List Int} {s:RS} (h:s.e≠0):aB l s=(0,s):=by
 unfold aB
 rw [if_pos (by simpa using h)]
theorem K9 {l:List Int} {s:RS} (h:s.e≠0):dM l s=(false,s):=by
 unfold dM
 rw [if_pos (by simpa using h)]
theorem Gw {l:List Int} {s:RS} {m:Int} (h:s.e≠0):aK l s m=(0,s):=by
 unfold aK
 rw [zf h,if_pos (by simpa using h)]
theorem Sv {l:List Int} {s:RS} {m:Int} (h:s.e≠0):aU l s m=([],s):=by
 unfold aU
 rw [Gw h,if_pos (by simpa using h)]
theorem acJ {l:List Int} {s:RS} {m:Int} (h:s.e≠0):(jF l s m).2=s:=by
 unfold jF
 rw [Sv h]
theorem Ma {l:List Int} {s:RS} (h:s.e≠0):(eY l s).2=s:=by
 unfold eY
 simp only [zf h,K9 h]
theorem QN {l:List Int} {s:RS} (h:s.e≠0):(iE l s).2=s:=by
 unfold iE
 simp only [zf h,acJ h]
theorem Ee {α:Type} {f:RS->α×RS} (hf:∀ s,s.e≠0->(f s).2=s):∀ n s a,s.e≠0->(jB f n s a).2=s
 | 0,s,a,_=>rfl
 | n+1,s,a,h=>by
   unfold jB
   rw [hf s h]
   exact Ee hf n s _ h
theorem Ai (l:List Int):∀ n s a,(gP (eH l) n s a).2=(kJ l n s a).2/\((kJ l n s a).2.e=0->(gP (eH l) n s a).1=(kJ l n s a).1)
 | 0,s,a=>⟨rfl,fun _=>rfl⟩
 | n+1,s,a=>by
   unfold gP kJ
   by_cases h:s.e=0
   · have h0:(s.e != 0)=false:=by simp [h]
     simp only [h0,Bool.false_eq_true,if_false]
     exact Ai l n _ _
   · have h0:(s.e != 0)=true:=by simpa using h
     simp only [h0,if_true]
     exact ⟨trivial,fun e=>absurd e h⟩
theorem uq {α:Type} {f:RS->α×RS} (hf:∀ s,s.e≠0->(f s).2=s):∀ n s a,(gP f n s a).2=(jB f n s a).2/\((jB f n s a).2.e=0->(gP f n s a).1=(jB f n s a).1)
 | 0,s,a=>⟨rfl,fun _=>rfl⟩
 | n+1,s,a=>by
   by_cases h:s.e=0
   · have h0:(s.e != 0)=false:=by simp [h]
     unfold gP jB
     simp only [h0,Bool.false_eq_true,if_false]
     exact uq hf n _ _
   · have h0:(s.e != 0)=true:=by simpa using h
     have h1:=Ee hf (n+1) s a h
     rw [h1]
     unfold gP
     simp only [h0,if_true]
     exact ⟨trivial,fun e=>absurd e h⟩
theorem BL (l:List Int) (s:RS) (m:Int):(gu l s m).2=(f_ l s m).2/\((f_ l s m).2.e=0->(gu l s m).1=(f_ l s m).1):=Ai l _ _ _
def xW (l:List Int):R.gJ×RS :=
 let a:=jr l default;let b:=aB l a.2;let c:=dM l b.2;let d:=gu l c.2 64
 (⟨a.1,b.1,c.1,d.1⟩,d.2)
theorem RF {l:List Int} {s:RS} (h:bS l s=0):s.e=0:=by
 unfold bS at h
 split at h
 · cases h
 · exact h
theorem aeB (l:List Int):(if bS l (xW l).2=0 then ((xW l).1,(0:Int)) else (default,161))=uh l:=by
 have h:=BL l (dM l (aB l (jr l default).2).2).2 64
 have h1:(xW l).2=(Am l).2:=h.1
 unfold uh
 rw [h1]
 by_cases hd:bS l (Am l).2=0
 · rw [if_pos hd,if_pos hd]
   have h2:=h.2 (RF hd)
   unfold xW Am
   simp only [h2]
 · rw [if_neg hd,if_neg hd]
def xK (l:List Int) (s:RS):List P.Producer×RS:=gP (eY l) (aK l s 256).1.toNat (aK l s 256).2 []
def Ll (l:List Int) (s:RS):List Con×RS:=gP (iE l) (aK l s 64).1.toNat (aK l s 64).2 []
def UK (l:List Int):BN×RS :=
 let g:=j_ l default;let e:=aB l g.2;let f:=aB l e.2;let r:=gu l f.2 4096
 (⟨g.1,e.1,f.1,r.1⟩,r.2)
def qh (l:List Int):Part×RS :=
 let h:=UK l;let p:=xK l h.2;let c:=Ll l p.2
 (⟨h.1.rng,h.1.epoch,h.1.frozen,h.1.recs,p.1,c.1⟩,c.2)
theorem K7 {l:List Int} {s:RS} {m:Int} (h:(aK l s m).2.e=0):s.e=0:=by
 by_cases hs:s.e=0
 · exact hs
 · rw [Gw hs] at h;exact h
theorem Te {α:Type} {f:RS->α×RS} (hf:∀ s,s.e≠0->(f s).2=s) {n:Nat} {s:RS} {a:List α} (h:(jB f n s a).2.e=0):s.e=0:=by
 by_cases hs:s.e=0
 · exact hs
 · rw [Ee hf n s a hs] at h;exact h
theorem aev (l:List Int):(if bS l (qh l).2=0/\aX (qh l).1=true then ((qh l).1,(0:Int)) else (default,165))=mI l:=by
 have k1:=BL l (aB l (aB l (j_ l default).2).2).2 4096
 have e1:(UK l).2=(yL l).2:=k1.1
 have k2:=uq (f:=eY l) (fun s h=>Ma h) (aK l (yL l).2 256).1.toNat (aK l (yL l).2 256).2 []
 have e2:(xK l (UK l).2).2=(kg l (yL l).2).2:=by rw [e1];exact k2.1
 have k3:=uq (f:=iE l) (fun s h=>QN h) (aK l (kg l (yL l).2).2 64).1.toNat (aK l (kg l (yL l).2).2 64).2 []
 have e3:(qh l).2=(nV l).2:=by
  show (Ll l (xK l (UK l).2).2).2=(IW l (kg l (yL l).2).2).2
  rw [e2];exact k3.1
 unfold mI
 rw [e3]
 by_cases hd:bS l (nV l).2=0
 · have h3:(IW l (kg l (yL l).2).2).2.e=0:=RF hd
   have c3:=k3.2 h3
   have h2:(kg l (yL l).2).2.e=0:=K7 (Te (fun s h=>QN h) h3)
   have c2:=k2.2 h2
   have h1:(yL l).2.e=0:=K7 (Te (fun s h=>Ma h) h2)
   have c1:=k1.2 h1
   have f1:(UK l).1=(yL l).1:=by
    unfold UK yL
    simp only [c1]
   have f2:(xK l (UK l).2).1=(kg l (yL l).2).1:=by rw [e1];exact c2
   have f3:(Ll l (xK l (UK l).2).2).1=(IW l (kg l (yL l).2).2).1:=by rw [e2];exact c3
   have f:(qh l).1=(nV l).1:=by
    unfold qh nV
    simp only [f1,f2,f3]
   rw [f]
 · rw [if_neg (fun h=>hd h.1),if_neg (fun h=>hd h.1)]
def qP:AV:=.ptr 1 0 0 0
def qM (l:List Int) (s:RS):List aH:=[.dead,.box 95 [bn true l,.y (.int .i64 s.at_),.y (.int .i64 s.e),.y (.int .i64 s.bad)]]
def dx (l:List Int) (s t:RS):Prop:=(true=true/\List.length l=List.length l/\ak (List.length l) (1:Nat) (ah aD l) (ah aD l))/\(↑s.at_:Int)=(↑t.at_:Int)/\s.e=t.e/\s.bad=t.bad/\True
@[simp] theorem agj (l:List Int) (s t:RS):dx l s t=((true=true/\List.length l=List.length l/\ak (List.length l) (1:Nat) (ah aD l) (ah aD l))/\(↑s.at_:Int)=(↑t.at_:Int)/\s.e=t.e/\s.bad=t.bad/\True):=rfl
noncomputable def Fe:aC Tryz.prog->aC Tryz.prog:=fun h=>rW h [118,57,97,60,59,61,62,56,119,58]
def qT (l:List Int) (s:RS) (i:Nat) (v:Int):List AV:=mkT 88 [(0,qP),(3,.y (.int .u64 v)),(4,.y (.int .i64 i))]
def qS (l:List Int) (w:Int) (s':RS) (_:Unit):Exit×List AV×List aH:=(.ret,mkT 88 [(2,.y (.int .u64 w))],qM l s')
def AQ (l:List Int) (s:RS) (w:Int) (q:UQ l s):Prop:=(IntKind.u64.wrap (q.v+IntKind.u64.wrap (IntKind.u64.wrap (IntKind.u8.wrap ((BitVec.toNat (BitVec.ofInt 8 (l.getD (Int.toNat (IntKind.i64.wrap ((s.at_:Int)+(q.i:Int)))) 0) &&& BitVec.ofInt 8 127)):Int))*2 ^ min (Int.toNat (IntKind.i64.wrap (7*(q.i:Int)))) 64))=w/\True)
def AU (l:List Int) (s:RS) (w:Int) (s':RS) (q:UQ l s):Prop:=(decide (l.getD (Int.toNat (IntKind.i64.wrap ((s.at_:Int)+(q.i:Int)))) (0:Int)<128)=true->((l.getD (Int.toNat (IntKind.i64.wrap ((s.at_:Int)+(q.i:Int)))) (0:Int)==0)=true->(decide (0<(q.i:Int))=true->((s.e==0)=true->(0=w/\True)/\(((dI l l)/\(s.at_:Int)=(s'.at_:Int)/\12=s'.e/\(s.at_:Int)=s'.bad/\True)/\True)/\true=true)/\((s.e==0)=false->(0=w/\True)/\((dx l s s')/\True)/\true=true))/\(decide (0<(q.i:Int))=false->(AQ l s w q)/\(((dI l l)/\IntKind.i64.wrap (IntKind.i64.wrap ((s.at_:Int)+(q.i:Int))+1)=(s'.at_:Int)/\s.e=s'.e/\s.bad=s'.bad/\True)/\True)/\true=true))/\((l.getD (Int.toNat (IntKind.i64.wrap ((s.at_:Int)+(q.i:Int)))) (0:Int)==0)=false->(AQ l s w q)/\(((dI l l)/\IntKind.i64.wrap (IntKind.i64.wrap ((s.at_:Int)+(q.i:Int))+1)=(s'.at_:Int)/\s.e=s'.e/\s.bad=s'.bad/\True)/\True)/\true=true))
def Bd (l:List Int) (s:RS) (q:UQ l s):Prop:=(decide (l.getD (Int.toNat (IntKind.i64.wrap ((s.at_:Int)+(q.i:Int)))) (0:Int)<128)=false->∃ (j:UQ l s),10 - j.i<10 - q.i/\(((0=0/\0=0)/\IntKind.u64.wrap (q.v+IntKind.u64.wrap (IntKind.u64.wrap (IntKind.u8.wrap ((BitVec.toNat (BitVec.ofInt 8 (l.getD (Int.toNat (IntKind.i64.wrap ((s.at_:Int)+(q.i:Int)))) 0) &&& BitVec.ofInt 8 127)):Int))*2 ^ min (Int.toNat (IntKind.i64.wrap (7*(q.i:Int)))) 64))=j.v/\IntKind.i64.wrap ((q.i:Int)+1)=(j.i:Int)/\True)/\((dx l s s)/\True)/\true=true)/\true=true/\()=())
def Zx (l:List Int) (s:RS) (w:Int) (s':RS) (q:UQ l s):Prop :=
 (decide ((l.length:Int)<=IntKind.i64.wrap ((s.at_:Int)+(q.i:Int)))=true->((s.e==0)=true->(0=w/\True)/\(((dI l l)/\(s.at_:Int)=(s'.at_:Int)/\11=s'.e/\(s.at_:Int)=s'.bad/\True)/\True)/\true=true)/\((s.e==0)=false->(0=w/\True)/\((dx l s s')/\True)/\true=true))/\(decide ((l.length:Int)<=IntKind.i64.wrap ((s.at_:Int)+(q.i:Int)))=false->(decide (0<=IntKind.i64.wrap ((s.at_:Int)+(q.i:Int)))&&decide (IntKind.i64.wrap ((s.at_:Int)+(q.i:Int))<(l.length:Int)))=true/\(((q.i:Int)==9)=true->((l.getD (Int.toNat (IntKind.i64.wrap ((s.at_:Int)+(q.i:Int)))) 0 != 1)=true->((s.e==0)=true->(0=w/\True)/\(((dI l l)/\(s.at_:Int)=(s'.at_:Int)/\12=s'.e/\(s.at_:Int)=s'.bad/\True)/\True)/\true=true)/\((s.e==0)=false->(0=w/\True)/\((dx l s s')/\True)/\true=true))/\((l.getD (Int.toNat (IntKind.i64.wrap ((s.at_:Int)+(q.i:Int)))) 0 != 1)=false->true=true/\decide (0<=IntKind.i64.wrap (7*(q.i:Int)))=true/\(AU l s w s' q)/\(Bd l s q)))/\(((q.i:Int)==9)=false->true=true/\decide (0<=IntKind.i64.wrap (7*(q.i:Int)))=true/\(AU l s w s' q)/\(Bd l s q)))
theorem Pj (l:List Int) (s:RS) (w:Int) (s':RS) (q:UQ l s):(cu Tryz.prog (Fe (hT _)) 57 6 (fun q:UQ l s=>10 - q.i) (fun q=>qT l s q.i q.v) (fun q=>qM l s) [] (fun _=>.ret ()) (qS l w s') q)=Zx l s w s' q:=by kernel_rfl
noncomputable def quH (l:List Int) (s:RS) (w:Int) (s':RS) (q:UQ l s):aC Tryz.prog:=Fe (hh _ (nu 57 6 (eP (fun q:UQ l s=>qT l s q.i q.v) (fun _=>qM l s) [] (fun _=>.ret ()) (qS l w s') q) bB) bA bq)
def quR (l:List Int) (w:Int) (s':RS):T An:=.ret (.y (.int .u64 w),qM l s',[])
def adf (l:List Int) (s:RS) (w:Int) (s':RS) (q:UQ l s):Prop :=
 ((s.e != 0)=true->0=w/\(dx l s s')/\True)/\((s.e != 0)=false->(((0=0/\0=0)/\0=q.v/\0=(q.i:Int)/\True)/\((dx l s s)/\True)/\true=true)/\aQ Tryz.prog 57 6 (aS Tryz.prog 57 6) { t:=qT l s q.i q.v,m:=qM l s,mv:=[]:St } (T.map (bU [] (qS l w s')) ((fun (x:UQ l s)=>T.ret ()) q))/\w=w/\(dx l s' s')/\True)
theorem Yw (l:List Int) (s:RS) (w:Int) (s':RS) (q:UQ l s):(eU Tryz.prog (quH l s w s' q) 57 [qP] (qM l s) (quR l w s'))=adf l s w s' q:=by kernel_rfl
theorem agP {v c:Int} {i:Nat} (hi:i<=9) (v0:0<=v) (v1:v<2 ^ (7*i)) (c0:0<=c) (c1:c<256) (h9:i=9->c=1) :
 IntKind.wrap IntKind.u64 (v+IntKind.wrap IntKind.u64 (IntKind.wrap IntKind.u64 (IntKind.wrap IntKind.u8 (↑(BitVec.toNat (BitVec.ofInt (8:Nat) c &&& BitVec.ofInt (8:Nat) (127:Int))):Int))*(2:Int) ^ min (Int.toNat (IntKind.wrap IntKind.i64 ((7:Int)*(↑i:Int)))) (64:Nat)))=v+(c % 128)*2 ^ (7*i):=by
 rw [II c c0 c1,uF,wrap_i64 (by omega) (by omega)]
 have e1:c % 128 % 256=c % 128:=by omega
 have e2:min (Int.toNat (7*(i:Int))) 64=7*i:=by omega
 rw [e1,e2,Zd (c % 128)]
 have e3:c % 128 % 18446744073709551616=c % 128:=by omega
 rw [e3]
 obtain ⟨m0,m1⟩:=abK (d:=c % 128) hi (by omega) (by omega) (fun h=>by have:=h9 h;omega)
 rw [Zd (c % 128*2 ^ (7*i)),Int.emod_eq_of_lt m0 m1,Zd]
 obtain ⟨n0,n1⟩:=Mf (c:=c) v0 v1
 refine Int.emod_eq_of_lt n0 ?_
 by_cases hi9:i=9
 · have:=h9 hi9
   subst this
   subst hi9
   have e:((1:Int) % 128)*2 ^ (7*9)=9223372036854775808:=by decide
   have e2:(2:Int) ^ (7*9)=9223372036854775808:=by decide
   rw [e2] at v1
   rw [e]
   omega
 · have hp9:(2:Int) ^ (7*(i+1))<=9223372036854775808:=(RG (by omega)).1
   omega
theorem EI {l:List Int} {s:RS} {e:Int} (h:s.e=0) (he:(kP l s).1=e) (hn:e≠0):aB l s=(0,⟨s.at_,e,s.at_⟩):=by
 unfold aB dW
 rw [he,if_neg (by simp [h]),if_neg hn,if_neg (by simp [h])]
theorem WI {l:List Int} {s:RS} {v:Int} {n:Nat} (h:s.e=0) (he:kP l s=(0,v,n)):aB l s=(v,⟨s.at_+n,s.e,s.bad⟩):=by
 unfold aB
 rw [he,if_neg (by simp [h]),if_pos rfl]
theorem Vn (l:List Int) (s:RS) (hs:bL l s) (h0:s.e=0) (w:Int) (s':RS) (hp:(w,s')=aB l s) (q:UQ l s):aQ Tryz.prog 57 6 (aS Tryz.prog 57 6) ⟨qT l s q.i q.v,qM l s,[]⟩ (T.map (bU [] (qS l w s')) (.ret ())):=by
 refine dU (P:=Tryz.prog) (f:=57) (k:=6) (ι:=UQ l s) (μ:=fun q=>10 - q.i) (ht:=fun _=>Fe (hT _)) (qG:=fun q=>qT l s q.i q.v) (stM:=fun q=>qM l s) (X:=[]) (o:=fun _=>.ret ()) (S:=qS l w s') Tryz.mixed (fun _=>rfl) (fun q=>?_) q
 rw [Pj l s w s' q]
 unfold Zx Bd AU AQ
 obtain ⟨i,v,hi,hi9,he,v0,v1⟩:=q
 have hn:=hs.n
 have hat:=hs.at_
 have hlen:(l.drop s.at_).length=l.length - s.at_:=List.length_drop
 have h0':(s.e != 0)=false:=by simp [h0]
 have w1:IntKind.wrap IntKind.i64 ((s.at_:Int)+(i:Int))=((s.at_+i:Nat):Int):=by rw [wrap_i64 (by omega) (by omega)];omega
 simp only [w1,Int.toNat_natCast,Nat.zero_add]
 by_cases h:i<(l.drop s.at_).length
 · have hd:decide ((l.length:Int)<=((s.at_+i:Nat):Int))=false:=by simp only [decide_eq_false_iff_not];omega
   have hd2:decide (((s.at_+i:Nat):Int)<(l.length:Int))=true:=by simp only [decide_eq_true_eq];omega
   have hg:l.getD (s.at_+i) 0=(l.drop s.at_).getD i 0:=by simp [List.getD]
   have hcm:(l.drop s.at_).getD i 0∈l:=by
    refine List.mem_of_mem_drop (i:=s.at_) ?_
    simp only [List.getD,List.getElem?_eq_getElem h,Option.getD_some]
    exact List.getElem_mem h
   obtain ⟨c0,c1⟩:=hs.b.b _ hcm
   rw [GU _ i h,OJ] at he
   obtain ⟨c,hc⟩:∃ c,(l.drop s.at_).getD i 0=c:=⟨_,rfl⟩
   rw [hc] at he c0 c1 hg
   have hg':l.getD (s.at_+i) default=c:=hg
   have hw7:decide ((0:Int)<=IntKind.wrap IntKind.i64 ((7:Int)*(i:Int)))=true:=by rw [wrap_i64 (by omega) (by omega)];simp;omega
   have w2:IntKind.wrap IntKind.i64 (((s.at_+i:Nat):Int)+1)=((s.at_+(i+1):Nat):Int):=by rw [wrap_i64 (by omega) (by omega)];omega
   have w3:IntKind.wrap IntKind.i64 ((i:Int)+1)=((i+1:Nat):Int):=by rw [wrap_i64 (by omega) (by omega)];omega
   have hp0:decide ((0:Int)<=((s.at_+i:Nat):Int))=true:=by simp only [decide_eq_true_eq];omega
   have he0:(s.e==0)=true:=by simp [h0]
   have hcl:=aO l.length 1 (ah aD l)
   simp only [hd,hd2,hg,hg',hw7,w2,w3,hp0,he0]
   by_cases hA:i=9/\c≠1
   · rw [if_pos hA] at he
     obtain ⟨rfl,rfl⟩:=Prod.mk.inj (hp.trans (EI h0 (e:=12) (by rw [<- he]) (by decide)))
     have b1:((i:Int)==9)=true:=by simp;omega
     have b2:(c != 1)=true:=by simpa using hA.2
     simp [b1,b2,hcl]
   · rw [if_neg hA] at he
     have h9:i=9->c=1:=fun h=>by
      by_cases hc:c=1
      · exact hc
      · exact absurd ⟨h,hc⟩ hA
     have hor:=agP hi9 v0 v1 c0 c1 h9
     obtain ⟨n0,n1⟩:=Mf (c:=c) v0 v1
     simp only [hor]
     have b12:(((i:Int)==9)=true->(c != 1)=false):=fun hb=>by
      have:i=9:=by simp at hb;omega
      rw [h9 this]
      rfl
     by_cases h128:128<=c
     · rw [if_pos h128] at he
       have hi8:i<=8:=by
        by_cases h:i=9
        · have:=h9 h;omega
        · omega
       have b1:((i:Int)==9)=false:=by simp;omega
       have b2:decide (c<(128:Int))=false:=by simp;omega
       simp only [b1,b2]
       simp [hcl]
       refine ⟨⟨i+1,v+(c % 128)*2 ^ (7*i),by omega,by omega,he,n0,n1⟩,by show 10 - (i+1)<10 - i;omega,rfl,?_⟩
       show ((i:Int)+1)=((i+1:Nat):Int)
       omega
     · rw [if_neg h128] at he
       have b2:decide (c<(128:Int))=true:=by simp;omega
       by_cases hz:c=0/\0<i
       · rw [if_pos hz] at he
         obtain ⟨rfl,rfl⟩:=Prod.mk.inj (hp.trans (EI h0 (e:=12) (by rw [<- he]) (by decide)))
         have b1:((i:Int)==9)=false:=by
          by_cases h:i=9
          · have:=h9 h;omega
          · simp;omega
         have b3:decide ((0:Int)<(i:Int))=true:=by simp;omega
         simp [b1,b2,b3,hz.1,hcl]
         intro hzz
         exact absurd hzz (by omega)
       · rw [if_neg hz] at he
         obtain ⟨rfl,rfl⟩:=Prod.mk.inj (hp.trans (WI h0 (v:=v+(c % 128)*2 ^ (7*i)) (n:=i+1) he.symm))
         have b3:((c==0)=true->decide ((0:Int)<(i:Int))=false):=fun hb=>by
          have:c=0:=by simpa using hb
          simp
          by_cases hh:0<i
          · exact absurd ⟨this,hh⟩ hz
          · omega
         simp only [b2]
         by_cases hi9':i=9
         · have hc1:=h9 hi9'
           have b1:((i:Int)==9)=true:=by simp;omega
           simp only [b1,b12 b1]
           simp [hc1,hcl]
         · have b1:((i:Int)==9)=false:=by simp;omega
           simp only [b1]
           cases hzz:(c==0)
           · simp [hcl]
           · simp only [b3 hzz]
             simp [hcl]
 · obtain rfl:i=(l.drop s.at_).length:=by omega
   have e0:(l.drop s.at_).drop (l.drop s.at_).length=[]:=List.drop_length
   rw [e0,OJ] at he
   obtain ⟨rfl,rfl⟩:=Prod.mk.inj (hp.trans (EI h0 (e:=11) (by rw [<- he]) (by decide)))
   have hd:decide ((l.length:Int)<=((s.at_+(l.drop s.at_).length:Nat):Int))=true:=by simp only [decide_eq_true_eq];omega
   have he0:(s.e==0)=true:=by simp [h0]
   have hcl:=aO l.length 1 (ah aD l)
   simp only [hd,he0]
   simp [hcl]
theorem ahB (l:List Int) (s:RS) (hs:bL l s):(quR l (aB l s).1 (aB l s).2).Sat (au Tryz.prog 57 [qP] (qM l s)):=by
 refine dG (ht:=quH l s (aB l s).1 (aB l s).2 ⟨0,0,by omega,by omega,rfl,by decide,by decide⟩) Tryz.mixed rfl ?_
 rw [Yw l s (aB l s).1 (aB l s).2 ⟨0,0,by omega,by omega,rfl,by decide,by decide⟩]
 unfold adf
 have hcl:=aO l.length 1 (ah aD l)
 by_cases he:s.e=0
 · have lp:=Vn l s hs he (aB l s).1 (aB l s).2 rfl ⟨0,0,by omega,by omega,rfl,by decide,by decide⟩
   have h0:(s.e != 0)=false:=by simp [he]
   simp only [h0]
   simp [hcl,lp]
   try exact lp
 · have h0:(s.e != 0)=true:=by simpa using he
   rw [zf he]
   simp only [h0]
   simp [hcl]
noncomputable def Cy (l:List Int) (s:RS) (w:Int) (s':RS):dO Tryz.prog:=⟨57,[qP],qM l s,.need (bL l s) (.need ((w,s')=aB l s) (quR l w s')),T.Sat.need fun h=>T.Sat.need fun e=>by
 have e1:w=(aB l s).1:=congrArg Prod.fst e
 have e2:s'=(aB l s).2:=congrArg Prod.snd e
 rw [e1,e2]
 exact ahB l s h⟩
noncomputable def qiH (l:List Int) (s:RS) (w:Int) (s':RS):aC Tryz.prog:=Fe (hh _ bB (cs1 97 1 1 (Cy l s w s') bA) bq)
def XC (l:List Int) (w:Int) (s':RS):T An:=.ret (.y (.int .i64 w),qM l s',[])
def af5 (l:List Int) (s:RS) (w:Int) (s':RS):Prop :=
 ((0=0/\0=0)/\True)/\((dx l s s)/\True)/\bL l s/\(w,s')=aB l s/\true=true/\((Int.tmod w (2:Int)==1)=true->true=true/\IntKind.i64.wrap (IntKind.i64.wrap (0 - IntKind.i64.wrap (IntKind.u64.wrap (Int.tdiv w 2))) - 1)=zag w/\(dx l s' s')/\True)/\((Int.tmod w (2:Int)==1)=false->true=true/\IntKind.i64.wrap (IntKind.u64.wrap (Int.tdiv w 2))=zag w/\(dx l s' s')/\True)
theorem U7 (l:List Int) (s:RS) (w:Int) (s':RS):(eU Tryz.prog (qiH l s w s') 97 [qP] (qM l s) (XC l (zag w) s'))=af5 l s w s':=by kernel_rfl
def qbR (l:List Int) (w:Bool) (s':RS):T An:=.ret (.y (.bool w),qM l s',[])
def ac3 (l:List Int) (s:RS) (w:Bool) (s':RS):Prop :=
 ((s.e != 0)=true->false=w/\(dx l s s')/\True)/\((s.e != 0)=false->(decide ((l.length:Int)<=(s.at_:Int))=true->((s.e==0)=true->false=w/\((dI l l)/\(s.at_:Int)=(s'.at_:Int)/\11=s'.e/\(s.at_:Int)=s'.bad/\True)/\True)/\((s.e==0)=false->false=w/\(dx l s s')/\True))/\(decide ((l.length:Int)<=(s.at_:Int))=false->(true&&decide ((s.at_:Int)<(l.length:Int)))=true/\(decide (1<l.getD (Int.toNat (s.at_:Int)) 0)=true->((s.e==0)=true->false=w/\((dI l l)/\(s.at_:Int)=(s'.at_:Int)/\16=s'.e/\(s.at_:Int)=s'.bad/\True)/\True)/\((s.e==0)=false->false=w/\(dx l s s')/\True))/\(decide (1<l.getD (Int.toNat (s.at_:Int)) 0)=false->(decide (0<=IntKind.i64.wrap (IntKind.i64.wrap ((s.at_:Int)+1) - 1))&&decide (IntKind.i64.wrap (IntKind.i64.wrap ((s.at_:Int)+1) - 1)<(l.length:Int)))=true/\(l.getD (Int.toNat (IntKind.i64.wrap (IntKind.i64.wrap ((s.at_:Int)+1) - 1))) (0:Int)==1)=w/\((dI l l)/\IntKind.i64.wrap ((s.at_:Int)+1)=(s'.at_:Int)/\s.e=s'.e/\s.bad=s'.bad/\True)/\True)))
theorem Yk (l:List Int) (s:RS) (w:Bool) (s':RS):(eU Tryz.prog (Fe (hT _)) 60 [qP] (qM l s) (qbR l w s'))=ac3 l s w s':=by kernel_rfl
noncomputable def qcH (l:List Int) (s:RS) (v:Int) (s1:RS):aC Tryz.prog:=Fe (hh _ bB (cs1 59 2 1 (Cy l s v s1) bA) bq)
def adJ (l:List Int) (s:RS) (most:Int) (v:Int) (s1:RS) (w:Int) (s':RS):Prop :=
 ((0=0/\0=0)/\True)/\((dx l s s)/\True)/\bL l s/\(v,s1)=aB l s/\((s1.e != 0)=true->0=w/\(dx l s1 s')/\True)/\((s1.e != 0)=false->(decide (most<0)=true->((s1.e==0)=true->0=w/\((dI l l)/\(s.at_:Int)=(s'.at_:Int)/\13=s'.e/\(s.at_:Int)=s'.bad/\True)/\True)/\((s1.e==0)=false->0=w/\(dx l s1 s')/\True))/\(decide (most<0)=false->(decide (IntKind.u64.wrap most<v)=true->((s1.e==0)=true->0=w/\((dI l l)/\(s.at_:Int)=(s'.at_:Int)/\13=s'.e/\(s.at_:Int)=s'.bad/\True)/\True)/\((s1.e==0)=false->0=w/\(dx l s1 s')/\True))/\(decide (IntKind.u64.wrap most<v)=false->(decide (IntKind.u64.wrap (IntKind.i64.wrap ((l.length:Int) - (s1.at_:Int)))<v)=true->((s1.e==0)=true->0=w/\((dI l l)/\(s.at_:Int)=(s'.at_:Int)/\11=s'.e/\(s.at_:Int)=s'.bad/\True)/\True)/\((s1.e==0)=false->0=w/\(dx l s1 s')/\True))/\(decide (IntKind.u64.wrap (IntKind.i64.wrap ((l.length:Int) - (s1.at_:Int)))<v)=false->IntKind.i64.wrap v=w/\(dx l s1 s')/\True))))
theorem WW (l:List Int) (s:RS) (most:Int) (v:Int) (s1:RS) (w:Int) (s':RS):(eU Tryz.prog (qcH l s v s1) 59 [qP,.y (.int .i64 most)] (qM l s) (XC l w s'))=adJ l s most v s1 w s':=by kernel_rfl
def adF (l:List Int) (s:RS) (w:Int):Prop :=
 ((s.e==0)=true->(decide ((s.at_:Int)<(l.length:Int))=true->15=w/\(dx l s s)/\True)/\(decide ((s.at_:Int)<(l.length:Int))=false->s.e=w/\(dx l s s)/\True))/\((s.e==0)=false->s.e=w/\(dx l s s)/\True)
theorem UR (l:List Int) (s:RS) (w:Int):(eU Tryz.prog (Fe (hT _)) 62 [qP] (qM l s) (XC l w s))=adF l s w:=by kernel_rfl
theorem agv (l:List Int) (s:RS) (hs:bL l s):(XC l (jr l s).1 (jr l s).2).Sat (au Tryz.prog 97 [qP] (qM l s)):=by
 have hu:=(bf hs).2
 refine dG (ht:=qiH l s (aB l s).1 (aB l s).2) Tryz.mixed rfl ?_
 unfold jr
 rw [U7 l s (aB l s).1 (aB l s).2]
 unfold af5
 have hcl:=aO l.length 1 (ah aD l)
 have h0:=hu.lo
 have h1:=hu.hi
 generalize hw:(aB l s).1=w at *
 have t1:Int.tmod w 2=w % 2:=Int.tmod_eq_emod_of_nonneg h0
 have t2:Int.tdiv w 2=w / 2:=Int.tdiv_eq_ediv_of_nonneg h0
 rw [t1,t2]
 have w1:IntKind.wrap IntKind.u64 (w / 2)=w / 2:=wrap_u64 (by omega) (by omega)
 have w2:IntKind.wrap IntKind.i64 (w / 2)=w / 2:=wrap_i64 (by omega) (by omega)
 have w3:IntKind.wrap IntKind.i64 (0 - w / 2)=-(w / 2):=by rw [wrap_i64 (by omega) (by omega)];omega
 have w4:IntKind.wrap IntKind.i64 (-(w / 2) - 1)=-(w / 2) - 1:=wrap_i64 (by omega) (by omega)
 simp only [w1,w2,w3,w4]
 unfold zag
 have e:(w,(aB l s).2)=aB l s:=by rw [<- hw]
 by_cases h:w % 2=0
 · have b:(w % 2==1)=false:=by simp [h]
   simp [hs,hcl,e,b,h]
 · have b:(w % 2==1)=true:=by simp;omega
   simp [hs,hcl,e,b,h]
noncomputable def qiC (l:List Int) (s:RS) (w:Int) (s':RS):dO Tryz.prog:=⟨97,[qP],qM l s,.need (bL l s) (.need ((w,s')=jr l s) (XC l w s')),T.Sat.need fun h=>T.Sat.need fun e=>by
 have e1:w=(jr l s).1:=congrArg Prod.fst e
 have e2:s'=(jr l s).2:=congrArg Prod.snd e
 rw [e1,e2]
 exact agv l s h⟩
theorem ahM (l:List Int) (s:RS) (hs:bL l s):(qbR l (dM l s).1 (dM l s).2).Sat (au Tryz.prog 60 [qP] (qM l s)):=by
 have hat:=hs.at_
 have hn:=hs.n
 refine dG (ht:=Fe (hT _)) Tryz.mixed rfl ?_
 rw [Yk l s (dM l s).1 (dM l s).2]
 unfold ac3
 have hcl:=aO l.length 1 (ah aD l)
 by_cases he:s.e=0
 · have h0:(s.e != 0)=false:=by simp [he]
   have h0':(s.e==0)=true:=by simp [he]
   by_cases h1:s.at_=l.length
   · have hw:dM l s=(false,dW s 11 s.at_):=by unfold dM;simp [h0,h1]
     have b1:decide ((l.length:Int)<=(s.at_:Int))=true:=by simp;omega
     rw [hw]
     unfold dW
     simp only [b1,h0,h0']
     simp [hcl]
   · have b1:decide ((l.length:Int)<=(s.at_:Int))=false:=by simp;omega
     have b2:decide ((s.at_:Int)<(l.length:Int))=true:=by simp;omega
     by_cases h2:1<l.getD s.at_ 0
     · have hw:dM l s=(false,dW s 16 s.at_):=by unfold dM;simp only [h0,h1,h2];simp
       have b3:decide ((1:Int)<l.getD s.at_ 0)=true:=by simpa using h2
       rw [hw]
       unfold dW
       simp only [b1,b2,Int.toNat_natCast,Nat.zero_add,b3,h0,h0']
       simp [hcl]
     · have hw:dM l s=(l.getD s.at_ 0==1,⟨s.at_+1,s.e,s.bad⟩):=by unfold dM;simp only [h0,h1,h2];simp
       have b3:decide ((1:Int)<l.getD s.at_ 0)=false:=by simpa using h2
       have w1:IntKind.wrap IntKind.i64 ((s.at_:Int)+1)=((s.at_+1:Nat):Int):=by rw [wrap_i64 (by omega) (by omega)];omega
       have w2:IntKind.wrap IntKind.i64 (((s.at_+1:Nat):Int) - 1)=(s.at_:Int):=by rw [wrap_i64 (by omega) (by omega)];omega
       rw [hw]
       simp only [b1,b2,Int.toNat_natCast,Nat.zero_add,b3,w1,w2,h0,h0']
       simp [hcl,he]
 · have h0:(s.e != 0)=true:=by simpa using he
   rw [K9 he]
   simp only [h0]
   simp [hcl]
noncomputable def qbC (l:List Int) (s:RS) (w:Bool) (s':RS):dO Tryz.prog:=⟨60,[qP],qM l s,.need (bL l s) (.need ((w,s')=dM l s) (qbR l w s')),T.Sat.need fun h=>T.Sat.need fun e=>by
 have e1:w=(dM l s).1:=congrArg Prod.fst e
 have e2:s'=(dM l s).2:=congrArg Prod.snd e
 rw [e1,e2]
 exact ahM l s h⟩
theorem ahc (l:List Int) (s:RS) (most:Int) (hm:jC most) (hs:bL l s):(XC l (aK l s most).1 (aK l s most).2).Sat (au Tryz.prog 59 [qP,.y (.int .i64 most)] (qM l s)):=by
 obtain ⟨hs1,hu⟩:=bf hs
 have hn:=hs.n
 have hat:=hs1.at_
 refine dG (ht:=qcH l s (aB l s).1 (aB l s).2) Tryz.mixed rfl ?_
 rw [WW l s most (aB l s).1 (aB l s).2 (aK l s most).1 (aK l s most).2]
 unfold adJ
 have hcl:=aO l.length 1 (ah aD l)
 obtain ⟨v,s1,hv⟩:∃ v s1,aB l s=(v,s1):=⟨_,_,rfl⟩
 unfold aK
 rw [hv] at hs1 hu hat ⊢
 simp only at hs1 hu hat ⊢
 have hv0:=hu.lo
 have hv1:=hu.hi
 by_cases he:s1.e=0
 · have h0:(s1.e != 0)=false:=by simp [he]
   have h0':(s1.e==0)=true:=by simp [he]
   by_cases h1:most<0
   · have b1:decide (most<0)=true:=by simpa using h1
     simp only [b1,h0,h0']
     simp [hs,h1,dW,he,hcl]
   · have b1:decide (most<0)=false:=by simpa using h1
     have w1:IntKind.wrap IntKind.u64 most=most:=wrap_u64 (by omega) (by have:=hm.hi;omega)
     have w2:IntKind.wrap IntKind.i64 ((l.length:Int) - s1.at_)=(l.length:Int) - s1.at_:=wrap_i64 (by omega) (by omega)
     have w3:IntKind.wrap IntKind.u64 ((l.length:Int) - s1.at_)=(l.length:Int) - s1.at_:=wrap_u64 (by omega) (by omega)
     simp only [b1,w1,w2,w3,h0,h0']
     by_cases h2:most<v
     · have b2:decide (most<v)=true:=by simpa using h2
       simp only [b2]
       simp [hs,h1,h2,dW,he,hcl]
     · have b2:decide (most<v)=false:=by simpa using h2
       simp only [b2]
       by_cases h3:(l.length:Int) - s1.at_<v
       · have b3:decide ((l.length:Int) - s1.at_<v)=true:=by simpa using h3
         simp only [b3]
         simp [hs,h1,h2,h3,dW,he,hcl]
       · have b3:decide ((l.length:Int) - s1.at_<v)=false:=by simpa using h3
         have w4:IntKind.wrap IntKind.i64 v=v:=wrap_i64 (by omega) (by omega)
         simp only [b3,w4]
         simp [hs,h1,h2,h3,he,hcl]
 · have h0:(s1.e != 0)=true:=by simpa using he
   simp only [h0]
   simp [hs,hcl]
noncomputable def qcC (l:List Int) (s:RS) (most:Int) (w:Int) (s':RS):dO Tryz.prog:=⟨59,[qP,.y (.int .i64 most)],qM l s,.need (bL l s/\jC most) (.need ((w,s')=aK l s most) (XC l w s')),T.Sat.need fun h=>T.Sat.need fun e=>by
 have e1:w=(aK l s most).1:=congrArg Prod.fst e
 have e2:s'=(aK l s most).2:=congrArg Prod.snd e
 rw [e1,e2]
 exact ahc l s most h.2 h.1⟩
theorem ag9 (l:List Int) (s:RS) (hs:bL l s):(XC l (bS l s) s).Sat (au Tryz.prog 62 [qP] (qM l s)):=by
 refine dG (ht:=Fe (hT _)) Tryz.mixed rfl ?_
 rw [UR l s (bS l s)]
 unfold adF bS
 have hcl:=aO l.length 1 (ah aD l)
 by_cases h:s.e=0
 · by_cases h2:s.at_<l.length
   · simp [h,h2,hcl]
   · simp [h,h2,hcl]
 · simp [h,hcl]
noncomputable def Y8 (l:List Int) (s:RS):dO Tryz.prog:=⟨62,[qP],qM l s,.need (bL l s) (XC l (bS l s) s),T.Sat.need fun h=>ag9 l s h⟩
def qyR (l:List Int) (t:List Int) (s':RS):T An:=.ret (bn true t,qM l s',[2])
noncomputable def qyH (l:List Int) (s:RS) (most:Int) (n:Int) (s1:RS):aC Tryz.prog:=Fe (dS (hh _ bB (cs1 61 1 2 (qcC l s most n s1) bA) bq) (nk 61 5 17 779 noSh))
def adK (l:List Int) (s:RS) (most:Int) (n:Int) (s1:RS) (t:List Int) (s':RS):Prop :=
 ((0=0/\0=0)/\most=most/\True)/\((dx l s s)/\True)/\(bL l s/\jC most)/\(n,s1)=aK l s most/\((s1.e != 0)=true->t.length=0/\(dx l s1 s')/\True)/\((s1.e != 0)=false->(decide (0<=IntKind.i64.wrap (IntKind.i64.wrap ((s1.at_:Int)+n) - n))&&decide (IntKind.i64.wrap (IntKind.i64.wrap ((s1.at_:Int)+n) - n)<=IntKind.i64.wrap ((s1.at_:Int)+n))&&decide (IntKind.i64.wrap ((s1.at_:Int)+n)<=(l.length:Int)))=true/\(decide (0+(Int.toNat (IntKind.i64.wrap ((s1.at_:Int)+n)) - Int.toNat (IntKind.i64.wrap (IntKind.i64.wrap ((s1.at_:Int)+n) - n)))<=9223372036854775807)&&decide ((0+(Int.toNat (IntKind.i64.wrap ((s1.at_:Int)+n)) - Int.toNat (IntKind.i64.wrap (IntKind.i64.wrap ((s1.at_:Int)+n) - n))))*1<=140737488355328))=true/\(∀ k,k<0+(Int.toNat (IntKind.i64.wrap ((s1.at_:Int)+n)) - Int.toNat (IntKind.i64.wrap (IntKind.i64.wrap ((s1.at_:Int)+n) - n)))->∀ j,j<1->dK (aL 0 (fun (k j:Nat)=>AV.junk) (fun (k:Nat)=>ah aD l (Int.toNat (IntKind.i64.wrap (IntKind.i64.wrap ((s1.at_:Int)+n) - n))+k)) k j)=true)/\(true=true/\0+(Int.toNat (IntKind.i64.wrap ((s1.at_:Int)+n)) - Int.toNat (IntKind.i64.wrap (IntKind.i64.wrap ((s1.at_:Int)+n) - n)))=t.length/\ak (0+(Int.toNat (IntKind.i64.wrap ((s1.at_:Int)+n)) - Int.toNat (IntKind.i64.wrap (IntKind.i64.wrap ((s1.at_:Int)+n) - n)))) 1 (Ax.rowAt 0 (aL 0 (fun (k j:Nat)=>AV.junk) fun (k:Nat)=>ah aD l (Int.toNat (IntKind.i64.wrap (IntKind.i64.wrap ((s1.at_:Int)+n) - n))+k))) (ah aD t))/\((dI l l)/\IntKind.i64.wrap ((s1.at_:Int)+n)=(s'.at_:Int)/\s1.e=s'.e/\s1.bad=s'.bad/\True)/\True)
theorem Xe (l:List Int) (s:RS) (most:Int) (n:Int) (s1:RS) (t:List Int) (s':RS):(eU Tryz.prog (qyH l s most n s1) 61 [qP,.y (.int .i64 most)] (qM l s) (qyR l t s'))=adK l s most n s1 t s':=by kernel_rfl
theorem aeP {f:FuncId} {args:List AV} {M:List aH} {l t:List Int} {s:RS} (hM:getM M 2=.dead) (h:(qyR l t s).Sat (au Tryz.prog f args M)):(T.ret (bn true t,qM l s,[]):T An).Sat (au Tryz.prog f args M):=by
 have h1:au Tryz.prog f args M (bn true t,qM l s,[2]):=jN h
 have h2:au Tryz.prog f args M (bn true t,qM l s,[]):=lI h1 fun i hi=>by
  obtain rfl:=List.mem_singleton.1 hi
  exact .inr hM
 exact T.Sat.ret h2
theorem ahe (l:List Int) (s:RS) (most:Int) (hm:jC most) (hs:bL l s):(T.ret (bn true (aU l s most).1,qM l (aU l s most).2,[]):T An).Sat (au Tryz.prog 61 [qP,.y (.int .i64 most)] (qM l s)):=by
 refine aeP rfl ?_
 obtain ⟨hs1,hu,hle⟩:=gI (most:=most) hs
 have hn:=hs.n
 have hat:=hs1.at_
 refine dG (ht:=qyH l s most (aK l s most).1 (aK l s most).2) Tryz.mixed rfl ?_
 rw [Xe l s most (aK l s most).1 (aK l s most).2 (aU l s most).1 (aU l s most).2]
 unfold adK
 have hcl:=aO l.length 1 (ah aD l)
 unfold aU
 obtain ⟨n,s1,hv⟩:∃ v s1,aK l s most=(v,s1):=⟨_,_,rfl⟩
 rw [hv] at hs1 hu hat hle ⊢
 simp only at hs1 hu hat hle ⊢
 have hv0:=hu.lo
 by_cases he:s1.e=0
 · have h0:(s1.e != 0)=false:=by simp [he]
   have hle:=hle he
   have w1:IntKind.wrap IntKind.i64 ((s1.at_:Int)+n)=(s1.at_:Int)+n:=wrap_i64 (by omega) (by omega)
   have w2:IntKind.wrap IntKind.i64 ((s1.at_:Int)+n - n)=(s1.at_:Int):=by rw [wrap_i64 (by omega) (by omega)];omega
   simp only [w1,w2,Int.toNat_natCast,h0,Nat.zero_add]
   obtain ⟨m,rfl⟩:=Int.eq_ofNat_of_zero_le hv0
   have e1:((s1.at_:Int)+(m:Int)).toNat - s1.at_=m:=by omega
   have e2:((l.drop s1.at_).take m).length=m:=by rw [List.length_take,List.length_drop];omega
   have hc:ak m 1 (Ax.rowAt 0 (aL 0 (fun (k j:Nat)=>AV.junk) fun (k:Nat)=>ah aD l (s1.at_+k))) (ah aD ((l.drop s1.at_).take m)):=by
    intro k hk j hj
    unfold Ax.rowAt aL ah
    have:((l.drop s1.at_).take m).getD k default=l.getD (s1.at_+k) default:=by simp [List.getD,List.getElem?_take,hk]
    rw [this]
    simp
   have ht:∀ (k:Nat),k<m->∀ (j:Nat),j<1->dK (aL 0 (fun (k j:Nat)=>AV.junk) (fun (k:Nat)=>ah aD l (s1.at_+k)) k j)=true:=fun k hk j hj=>by
    obtain rfl:j=0:=by omega
    unfold aL
    simp
    rfl
   simp only [e1,Int.toNat_natCast]
   have b1:decide ((0:Int)<=(s1.at_:Int))=true:=by simp
   have b2:decide ((s1.at_:Int)<=(s1.at_:Int)+(m:Int))=true:=by simp only [decide_eq_true_eq];omega
   have b3:decide ((s1.at_:Int)+(m:Int)<=(l.length:Int))=true:=by simp;omega
   have b4:decide (m<=9223372036854775807)=true:=by simp;omega
   have b5:decide (m*1<=140737488355328)=true:=by simp;omega
   simp only [b1,b2,b3,b4,b5,hcl,hs,hm,hc,e2]
   simp
   exact ⟨fun k hk=>ht k hk 0 (by decide),by omega,hc⟩
 · have h0:(s1.e != 0)=true:=by simpa using he
   simp only [h0]
   simp [hs,hm,hcl]
noncomputable def XP (l:List Int) (s:RS) (most:Int) (t:List Int) (s':RS):dO Tryz.prog:=⟨61,[qP,.y (.int .i64 most)],qM l s,.need (bL l s/\jC most) (.need ((t,s')=aU l s most) (.ret (bn true t,qM l s',[]))),T.Sat.need fun h=>T.Sat.need fun e=>by
 have e1:t=(aU l s most).1:=congrArg Prod.fst e
 have e2:s'=(aU l s most).2:=congrArg Prod.snd e
 rw [e1,e2]
 exact ahe l s most h.2 h.1⟩
def qgR (l:List Int) (r:kW) (s':RS):T An:=.ret (.agg (nN r),qM l s',[])
noncomputable def qgH (l:List Int) (s:RS) (a:List Int) (s1:RS) (b:List Int) (s2:RS):aC Tryz.prog:=Fe (hh _ bB (cs1 56 1 1 (XP l s 32 a s1) (cs1 56 2 1 (XP l s1 32 b s2) bA)) bq)
def afm (l:List Int) (s:RS) (a:List Int) (s1:RS) (b:List Int) (s2:RS) (r:kW):Prop :=
 ((0=0/\0=0)/\(32:Int)=32/\True)/\((dx l s s)/\True)/\(bL l s/\jC 32)/\(a,s1)=aU l s 32/\(∀ k,k<a.length->true=true)/\((0=0/\0=0)/\(32:Int)=32/\True)/\((dx l s1 s1)/\True)/\(bL l s1/\jC 32)/\(b,s2)=aU l s1 32/\(∀ k,k<b.length->true=true)/\((s2.e != 0)=true->({ data:=#[]:ByteArray }=r.lo/\{ data:=#[]:ByteArray }=r.hi/\True)/\(dx l s2 s2)/\True)/\((s2.e != 0)=false->(vw a.length (ah aD a)=r.lo/\vw b.length (ah aD b)=r.hi/\True)/\(dx l s2 s2)/\True)
theorem WM (l:List Int) (s:RS) (a:List Int) (s1:RS) (b:List Int) (s2:RS) (r:kW):(eU Tryz.prog (qgH l s a s1 b s2) 56 [qP] (qM l s) (qgR l r s2))=afm l s a s1 b s2 r:=by kernel_rfl
def qxR (l:List Int) (r:Rec) (s':RS):T An:=.ret (.agg (encR r),qM l s',[])
noncomputable def qxH (l:List Int) (s:RS) (a:Int) (s1:RS) (b:List Int) (s2:RS) (c:List Int) (s3:RS) (d:Int) (s4:RS) (e:Int) (s5:RS):aC Tryz.prog:=Fe (hh _ bB (cs1 119 1 1 (Cy l s a s1) (cs1 119 2 1 (XP l s1 32 b s2) (cs1 119 3 1 (XP l s2 256 c s3) (cs1 119 4 1 (Cy l s3 d s4) (cs1 119 5 1 (Cy l s4 e s5) bA))))) bq)
def afh (l:List Int) (s:RS) (a:Int) (s1:RS) (b:List Int) (s2:RS) (c:List Int) (s3:RS) (d:Int) (s4:RS) (e:Int) (s5:RS) (r:Rec):Prop :=
 ((0=0/\0=0)/\True)/\((dx l s s)/\True)/\bL l s/\(a,s1)=aB l s/\((0=0/\0=0)/\(32:Int)=32/\True)/\((dx l s1 s1)/\True)/\(bL l s1/\jC 32)/\(b,s2)=aU l s1 32/\(∀ k,k<b.length->true=true)/\((0=0/\0=0)/\(256:Int)=256/\True)/\((dx l s2 s2)/\True)/\(bL l s2/\jC 256)/\(c,s3)=aU l s2 256/\((0=0/\0=0)/\True)/\((dx l s3 s3)/\True)/\bL l s3/\(d,s4)=aB l s3/\((0=0/\0=0)/\True)/\((dx l s4 s4)/\True)/\bL l s4/\(e,s5)=aB l s4/\((s5.e != 0)=true->(0=r.off/\{ data:=#[]:ByteArray }=r.key/\r.val.length=0/\0=r.prod/\0=r.seq/\True)/\(dx l s5 s5)/\True)/\((s5.e != 0)=false->(a=r.off/\vw b.length (ah aD b)=r.key/\(dI c r.val)/\d=r.prod/\e=r.seq/\True)/\(dx l s5 s5)/\True)
theorem Wd (l:List Int) (s:RS) (a:Int) (s1:RS) (b:List Int) (s2:RS) (c:List Int) (s3:RS) (d:Int) (s4:RS) (e:Int) (s5:RS) (r:Rec):(eU Tryz.prog (qxH l s a s1 b s2 c s3 d s4 e s5) 119 [qP] (qM l s) (qxR l r s5))=afh l s a s1 b s2 c s3 d s4 e s5 r:=by kernel_rfl
theorem wZ {l:List Int} {s:RS} {m:Int} {t:List Int} {s':RS} (e:(t,s')=aU l s m):jF l s m=(strOf t,s'):=by
 unfold jF
 rw [<- e]
theorem ahI (l:List Int) (s:RS) (hs:bL l s):(qgR l (j_ l s).1 (j_ l s).2).Sat (au Tryz.prog 56 [qP] (qM l s)):=by
 obtain ⟨a,s1,e1⟩:∃ v t,(v,t)=aU l s 32:=⟨_,_,rfl⟩
 have h1:=oM hs e1
 obtain ⟨b,s2,e2⟩:∃ v t,(v,t)=aU l s1 32:=⟨_,_,rfl⟩
 have hr:j_ l s=(if s2.e != 0 then (default,s2) else (⟨strOf a,strOf b⟩,s2)):=by
  unfold j_
  simp only [wZ e1,wZ e2]
 have hr2:(j_ l s).2=s2:=by rw [hr];split<;>rfl
 refine dG (ht:=qgH l s a s1 b s2) Tryz.mixed rfl ?_
 rw [hr2,WM l s a s1 b s2 (j_ l s).1]
 unfold afm
 rw [hr]
 have hcl:=aO l.length 1 (ah aD l)
 have q:=qI
 by_cases he:s2.e=0
 · have h0:(s2.e != 0)=false:=by simp [he]
   simp [hs,h1,q,e1,e2,he,hcl]
   exact ⟨rfl,rfl⟩
 · have h0:(s2.e != 0)=true:=by simpa using he
   simp [hs,h1,q,e1,e2,he,hcl]
   exact ⟨rfl,rfl⟩
noncomputable def qgC (l:List Int) (s:RS) (r:kW) (s':RS):dO Tryz.prog:=⟨56,[qP],qM l s,.need (bL l s) (.need ((r,s')=j_ l s) (qgR l r s')),T.Sat.need fun h=>T.Sat.need fun e=>by
 have e1:r=(j_ l s).1:=congrArg Prod.fst e
 have e2:s'=(j_ l s).2:=congrArg Prod.snd e
 rw [e1,e2]
 exact ahI l s h⟩
theorem agU (l:List Int) (s:RS) (hs:bL l s):(qxR l (eH l s).1 (eH l s).2).Sat (au Tryz.prog 119 [qP] (qM l s)):=by
 obtain ⟨a,s1,e1⟩:∃ v t,(v,t)=aB l s:=⟨_,_,rfl⟩
 have h1:=(iF hs e1).1
 obtain ⟨b,s2,e2⟩:∃ v t,(v,t)=aU l s1 32:=⟨_,_,rfl⟩
 have h2:=oM h1 e2
 obtain ⟨c,s3,e3⟩:∃ v t,(v,t)=aU l s2 256:=⟨_,_,rfl⟩
 have h3:=oM h2 e3
 obtain ⟨d,s4,e4⟩:∃ v t,(v,t)=aB l s3:=⟨_,_,rfl⟩
 have h4:=(iF h3 e4).1
 obtain ⟨e,s5,e5⟩:∃ v t,(v,t)=aB l s4:=⟨_,_,rfl⟩
 have hr:eH l s=(if s5.e != 0 then (default,s5) else (⟨a,strOf b,c,d,e⟩,s5)):=by
  unfold eH
  simp only [<- e1,wZ e2,<- e3,<- e4,<- e5]
 have hr2:(eH l s).2=s5:=by rw [hr];split<;>rfl
 refine dG (ht:=qxH l s a s1 b s2 c s3 d s4 e s5) Tryz.mixed rfl ?_
 rw [hr2,Wd l s a s1 b s2 c s3 d s4 e s5 (eH l s).1]
 unfold afh
 rw [hr]
 have hcl:=aO l.length 1 (ah aD l)
 have q:=qI
 have q2:=rU
 by_cases he:s5.e=0
 · have h0:(s5.e != 0)=false:=by simp [he]
   simp [hs,h1,h2,h3,h4,q,q2,e1,e2,e3,e4,e5,he,hcl]
   rfl
 · have h0:(s5.e != 0)=true:=by simpa using he
   simp [hs,h1,h2,h3,h4,q,q2,e1,e2,e3,e4,e5,he,hcl]
   repeat' with_reducible apply And.intro
   all_goals rfl
noncomputable def qxC (l:List Int) (s:RS) (r:Rec) (s':RS):dO Tryz.prog:=⟨119,[qP],qM l s,.need (bL l s) (.need ((r,s')=eH l s) (qxR l r s')),T.Sat.need fun h=>T.Sat.need fun e=>by
 have e1:r=(eH l s).1:=congrArg Prod.fst e
 have e2:s'=(eH l s).2:=congrArg Prod.snd e
 rw [e1,e2]
 exact agU l s h⟩
structure DQ {α:Type} (f:RS->α×RS) (l:List Int) (m:Nat) (t:List α) (s':RS) where
 n:Nat
 s:RS
 a:List α
 e:gP f n s a=(t,s')
 h:bL l s
 k:n<=m
 z:a.length=m - n
def qlT (m n:Nat) (a:List Rec):List AV:=mkT 29 [(0,qP),(5,.y (.int .i64 m)),(6,.own 2 5 0 a.length),(7,.y (.int .i64 ((m - n:Nat):Int)))]
def qlM (l:List Int) (s:RS) (a:List Rec):List aH:=qM l s++[yZ a]
def qlS (l:List Int) (t:List Rec) (s':RS) (_:Unit):Exit×List AV×List aH:=(.exit 0,mkT 29 [(0,qP),(6,.own 2 5 0 t.length)],qlM l s' t)
noncomputable def qlH (l:List Int) (s:RS) (r:Rec) (s1:RS):aC Tryz.prog:=Fe (dS (hh _ bB (cs1 58 6 2 (qxC l s r s1) bA) bq) (nk 58 6 5 4 noSh))
def adV (l:List Int) (m:Nat) (t:List Rec) (s':RS) (q:DQ (eH l) l m t s') (r:Rec) (s1:RS):Prop :=
 (decide ((↑(m - q.n):Int)<(↑m:Int))=true->((q.s.e==(0:Int))=true->(((0:Nat)=(0:Nat)/\(0:Nat)=(0:Nat))/\True)/\((dx l q.s q.s)/\True)/\bL l q.s/\(r,s1)=eH l q.s/\(decide (List.length q.a=List.length q.a)&&decide (List.length q.a+(1:Nat)<=(9223372036854775807:Nat))&&decide ((List.length q.a+(1:Nat))*(64:Nat)<=(140737488355328:Nat)))=true/\∃ (j:DQ (eH l) l m t s'),j.n<q.n/\((((0:Nat)=(0:Nat)/\(0:Nat)=(0:Nat))/\(↑m:Int)=(↑m:Int)/\((0:Nat)=(0:Nat)/\List.length q.a+(1:Nat)=List.length j.a)/\IntKind.wrap IntKind.i64 ((↑(m - q.n):Int)+(1:Int))=(↑(m - j.n):Int)/\True)/\((dx l s1 j.s)/\(List.length q.a+(1:Nat)=List.length j.a/\ak (List.length q.a+(1:Nat)) (5:Nat) (aL (List.length q.a) (ah encR q.a) fun (k j:Nat)=>Ax.get [AV.y (Value.int IntKind.u64 r.off),AV.y (Value.string r.key),AV.ys true (1:Nat) (List.length r.val) (ah aD r.val),AV.y (Value.int IntKind.u64 r.prod),AV.y (Value.int IntKind.u64 r.seq)] (k*(5:Nat)+j)) (ah encR j.a))/\True)/\true=true)/\true=true/\()=())/\((q.s.e==(0:Int))=false->(((0:Nat)=(0:Nat)/\(0:Nat)=(0:Nat))/\((0:Nat)=(0:Nat)/\List.length q.a=List.length t)/\True)/\((dx l q.s s')/\(List.length q.a=List.length t/\ak (List.length q.a) (5:Nat) (ah encR q.a) (ah encR t))/\True)/\true=true))/\(decide ((↑(m - q.n):Int)<(↑m:Int))=false->(((0:Nat)=(0:Nat)/\(0:Nat)=(0:Nat))/\((0:Nat)=(0:Nat)/\List.length q.a=List.length t)/\True)/\((dx l q.s s')/\(List.length q.a=List.length t/\ak (List.length q.a) (5:Nat) (ah encR q.a) (ah encR t))/\True)/\true=true)
theorem Wp (l:List Int) (m:Nat) (t:List Rec) (s':RS) (q:DQ (eH l) l m t s') (r:Rec) (s1:RS):(cu Tryz.prog (qlH l q.s r s1) 58 4 (fun q:DQ (eH l) l m t s'=>q.n) (fun q=>qlT m q.n q.a) (fun q=>qlM l q.s q.a) [2,3] (fun _=>.ret ()) (qlS l t s') q)=adV l m t s' q r s1:=by kernel_rfl
noncomputable def adq (l:List Int) (s:RS) (most:Int) (m:Nat) (s1:RS) (t:List Rec) (s':RS) (q:DQ (eH l) l m t s'):aC Tryz.prog:=Fe (dS (hh _ (nu 58 4 (eP (fun q:DQ (eH l) l m t s'=>qlT m q.n q.a) (fun q=>qlM l q.s q.a) [2,3] (fun _=>.ret ()) (qlS l t s') q) bB) (cs1 58 1 2 (qcC l s most (m:Int) s1) bA) (op1 58 2 0 (.row 54 5) bq)) (nk 58 7 1 779 noSh))
def qlR (l:List Int) (t:List Rec) (s':RS):T An:=.ret (bZ true t,qM l s',[2,3])
def aac (l:List Int) (s:RS) (most:Int) (m:Nat) (s1:RS) (t:List Rec) (s':RS) (q:DQ (eH l) l m t s'):Prop :=
 (((0:Nat)=(0:Nat)/\(0:Nat)=(0:Nat))/\most=most/\True)/\((dx l s s)/\True)/\(bL l s/\jC most)/\((↑m:Int),s1)=aK l s most/\((((0:Nat)=(0:Nat)/\(0:Nat)=(0:Nat))/\(↑m:Int)=(↑m:Int)/\((0:Nat)=(0:Nat)/\(0:Nat)=List.length q.a)/\(0:Int)=(↑(m - q.n):Int)/\True)/\((dx l s1 q.s)/\((0:Nat)=List.length q.a/\ak (0:Nat) (5:Nat) (fun (x x_1:Nat)=>AV.junk) (ah encR q.a))/\True)/\true=true)/\aQ Tryz.prog (58:Nat) (4:Nat) (aS Tryz.prog (58:Nat) (4:Nat)) { t:=qlT m q.n q.a,m:=qlM l q.s q.a,mv:=[]:St } (T.map (bU [(2:Nat),(3:Nat)] (qlS l t s')) ((fun (x:DQ (eH l) l m t s')=>T.ret ()) q))/\(∀ (k:Nat),k<List.length t->∀ (j:Nat),j<(5:Nat)->dK (ah encR t k j)=true)/\(true=true/\List.length t=List.length t/\ak (List.length t) (5:Nat) (Ax.rowAt (0:Nat) (ah encR t)) (ah encR t))/\(dx l s' s')/\True
theorem Sz (l:List Int) (s:RS) (most:Int) (m:Nat) (s1:RS) (t:List Rec) (s':RS) (q:DQ (eH l) l m t s'):(eU Tryz.prog (adq l s most m s1 t s' q) 58 [qP,.y (.int .i64 most)] (qM l s) (qlR l t s'))=aac l s most m s1 t s' q:=by kernel_rfl
end J
end Go.Proofs.YtnbhdjadlbhknaaGreatDoor
