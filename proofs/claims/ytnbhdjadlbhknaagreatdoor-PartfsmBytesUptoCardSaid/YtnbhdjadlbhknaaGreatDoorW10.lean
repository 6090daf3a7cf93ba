import Derived.Test.YtnbhdjadlbhknaaGreatDoorW1
import Derived.Test.YtnbhdjadlbhknaaGreatDoorW4
import Derived.Test.YtnbhdjadlbhknaaGreatDoorW8
import Derived.Test.YtnbhdjadlbhknaaGreatDoorW9
set_option linter.unusedVariables false
set_option linter.unusedSimpArgs false
set_option maxRecDepth 1000000
namespace Go.Proofs.YtnbhdjadlbhknaaGreatDoor
open Go.Ax
namespace J
noncomputable def ae6 (l:List Int) (a:Int) (s1:RS) (u:Int) (s2:RS) (c:Bool) (s3:RS) (d:List Rec) (s4:RS):aC Tryz.prog:=Fe (hh _ bB (cs1 34 2 1 (qiC l default a s1) (cs1 34 3 1 (Cy l s1 u s2) (cs1 34 4 1 (qbC l s2 c s3) (cs1 34 5 1 (qlC l s3 64 d s4) (cs1 34 6 1 (Y8 l s4) bA))))) bq)
def Zb (l:List Int) (a:Int) (s1:RS) (u:Int) (s2:RS) (c:Bool) (s3:RS) (d:List Rec) (s4:RS) (x:R.gJ) (e:Int):Prop :=
 ((0=0/\0=0)/\True)/\(((dI l l)/\(0:Int)=0/\(0:Int)=0/\(0:Int)=0/\True)/\True)/\bL l default/\(a,s1)=(zag (aB l default).fst,(aB l default).snd)/\((0=0/\0=0)/\True)/\((dx l s1 s1)/\True)/\bL l s1/\(u,s2)=aB l s1/\((0=0/\0=0)/\True)/\((dx l s2 s2)/\True)/\bL l s2/\(c,s3)=dM l s2/\((0=0/\0=0)/\(64:Int)=64/\True)/\((dx l s3 s3)/\True)/\(bL l s3/\jC 64/\(64:Int)<=4096)/\(d,s4)=gu l s3 64/\((0=0/\0=0)/\True)/\((dx l s4 s4)/\True)/\bL l s4/\((bS l s4 != 0)=true->((0=x.err/\0=x.off/\false=x.old/\x.recs.length=0/\True)/\161=e/\True)/\True)/\((bS l s4 != 0)=false->((a=x.err/\u=x.off/\c=x.old/\(true=true/\d.length=x.recs.length/\ak d.length 5 (ah encR d) (ah encR x.recs))/\True)/\0=e/\True)/\True)
theorem Tp (l:List Int) (a:Int) (s1:RS) (u:Int) (s2:RS) (c:Bool) (s3:RS) (d:List Rec) (s4:RS) (x:R.gJ) (e:Int):(aZ Tryz.prog (ae6 l a s1 u s2 c s3 d s4) 34 [bn true l] [] (rxR x e))=Zb l a s1 u s2 c s3 d s4 x e:=by kernel_rfl
def OM (l:List Int) (s:RS) (h:BN) (a:List P.Producer) (c:List Con):List aH:=[.box 30 [.s (.string ByteArray.empty),.s (.string ByteArray.empty),.s (.int .u64 0),.s (.int .u64 0),.s (.slice none 0 0),.s (.slice none 0 0),.s (.slice none 0 0)],.box 95 [bn true l,.y (.int .i64 s.at_),.y (.int .i64 s.e),.y (.int .i64 s.bad)],.row 80 4 a.length none (ah P.ay a),SQ c,.box 30 [.y (.string h.rng.lo),.y (.string h.rng.hi),.y (.int .u64 h.epoch),.y (.int .u64 h.frozen),bZ false h.recs,.own 2 4 0 a.length,.own 3 2 0 c.length]]
def dpT (m n:Nat):List AV:=mkT 95 [(2,.ptr 0 0 0 0),(4,qP),(5,.ptr 4 0 0 0),(6,.y (.int .i64 m)),(7,.y (.int .i64 ((m - n:Nat):Int)))]
def dcT (m n:Nat):List AV:=mkT 95 [(2,.ptr 0 0 0 0),(4,qP),(5,.ptr 4 0 0 0),(6,.y (.int .i64 m)),(9,.y (.int .i64 ((m - n:Nat):Int)))]
def deT:List AV:=mkT 95 [(2,.ptr 0 0 0 0),(4,qP),(5,.ptr 4 0 0 0)]
def dpS (l:List Int) (h:BN) (t:List P.Producer) (s':RS) (_:Unit):Exit×List AV×List aH:=(.exit 0,deT,OM l s' h t [])
def dcS (l:List Int) (h:BN) (p:List P.Producer) (t:List Con) (s':RS) (_:Unit):Exit×List AV×List aH:=(.exit 2,deT,OM l s' h p t)
noncomputable def dpH (l:List Int) (s:RS) (a:Int) (s1:RS) (b:Int) (s2:RS) (c:Bool) (s3:RS) (d:Int) (s4:RS):aC Tryz.prog:=Fe (dS (hh _ bB (cs1 16 10 1 (Cy l s a s1) (cs1 16 11 1 (Cy l s1 b s2) (cs1 16 12 1 (qbC l s2 c s3) (cs1 16 13 1 (Cy l s3 d s4) bA)))) bq) (nk 16 14 6 4 noSh))
def aec (l:List Int) (h:BN) (m:Nat) (t:List P.Producer) (s':RS) (q:DQ (eY l) l m t s') (a:Int) (s1:RS) (b:Int) (s2:RS) (c:Bool) (s3:RS) (d:Int) (s4:RS):Prop :=
 (decide ((↑(m - q.n):Int)<(↑m:Int))=true->((q.s.e==(0:Int))=true->(((0:Nat)=(0:Nat)/\(0:Nat)=(0:Nat))/\True)/\((dx l q.s q.s)/\True)/\bL l q.s/\(a,s1)=aB l q.s/\(((0:Nat)=(0:Nat)/\(0:Nat)=(0:Nat))/\True)/\((dx l s1 s1)/\True)/\bL l s1/\(b,s2)=aB l s1/\(((0:Nat)=(0:Nat)/\(0:Nat)=(0:Nat))/\True)/\((dx l s2 s2)/\True)/\bL l s2/\(c,s3)=dM l s2/\(((0:Nat)=(0:Nat)/\(0:Nat)=(0:Nat))/\True)/\((dx l s3 s3)/\True)/\bL l s3/\(d,s4)=aB l s3/\(decide (List.length q.a=List.length q.a)&&decide (List.length q.a+(1:Nat)<=(9223372036854775807:Nat))&&decide ((List.length q.a+(1:Nat))*(32:Nat)<=(140737488355328:Nat)))=true/\∃ (j:DQ (eY l) l m t s'),j.n<q.n/\((((0:Nat)=(0:Nat)/\(0:Nat)=(0:Nat))/\((0:Nat)=(0:Nat)/\(0:Nat)=(0:Nat))/\((0:Nat)=(0:Nat)/\(0:Nat)=(0:Nat))/\(↑m:Int)=(↑m:Int)/\IntKind.wrap IntKind.i64 ((↑(m - q.n):Int)+(1:Int))=(↑(m - j.n):Int)/\True)/\((ByteArray.empty=ByteArray.empty/\ByteArray.empty=ByteArray.empty/\(0:Int)=(0:Int)/\(0:Int)=(0:Int)/\True/\True/\True/\True)/\(dx l s4 j.s)/\(List.length q.a+(1:Nat)=List.length j.a/\ak (List.length q.a+(1:Nat)) (4:Nat) (aL (List.length q.a) (ah P.ay q.a) fun (k j:Nat)=>Ax.get [AV.y (Value.int IntKind.u64 a),AV.y (Value.int IntKind.u64 b),AV.y (Value.bool c),AV.y (Value.int IntKind.u64 d)] (k*(4:Nat)+j)) (ah P.ay j.a))/\((0:Nat)=(0:Nat)/\ak (0:Nat) (2:Nat) (ah aJ []) (ah aJ []))/\(h.rng.lo=h.rng.lo/\h.rng.hi=h.rng.hi/\h.epoch=h.epoch/\h.frozen=h.frozen/\(false=false/\List.length h.recs=List.length h.recs/\ak (List.length h.recs) (5:Nat) (ah encR h.recs) (ah encR h.recs))/\((0:Nat)=(0:Nat)/\List.length q.a+(1:Nat)=List.length j.a)/\((0:Nat)=(0:Nat)/\(0:Nat)=(0:Nat))/\True)/\True)/\true=true)/\true=true/\()=())/\((q.s.e==(0:Int))=false->(((0:Nat)=(0:Nat)/\(0:Nat)=(0:Nat))/\((0:Nat)=(0:Nat)/\(0:Nat)=(0:Nat))/\((0:Nat)=(0:Nat)/\(0:Nat)=(0:Nat))/\True)/\((ByteArray.empty=ByteArray.empty/\ByteArray.empty=ByteArray.empty/\(0:Int)=(0:Int)/\(0:Int)=(0:Int)/\True/\True/\True/\True)/\(dx l q.s s')/\(List.length q.a=List.length t/\ak (List.length q.a) (4:Nat) (ah P.ay q.a) (ah P.ay t))/\((0:Nat)=(0:Nat)/\ak (0:Nat) (2:Nat) (ah aJ []) (ah aJ []))/\(h.rng.lo=h.rng.lo/\h.rng.hi=h.rng.hi/\h.epoch=h.epoch/\h.frozen=h.frozen/\(false=false/\List.length h.recs=List.length h.recs/\ak (List.length h.recs) (5:Nat) (ah encR h.recs) (ah encR h.recs))/\((0:Nat)=(0:Nat)/\List.length q.a=List.length t)/\((0:Nat)=(0:Nat)/\(0:Nat)=(0:Nat))/\True)/\True)/\true=true))/\(decide ((↑(m - q.n):Int)<(↑m:Int))=false->(((0:Nat)=(0:Nat)/\(0:Nat)=(0:Nat))/\((0:Nat)=(0:Nat)/\(0:Nat)=(0:Nat))/\((0:Nat)=(0:Nat)/\(0:Nat)=(0:Nat))/\True)/\((ByteArray.empty=ByteArray.empty/\ByteArray.empty=ByteArray.empty/\(0:Int)=(0:Int)/\(0:Int)=(0:Int)/\True/\True/\True/\True)/\(dx l q.s s')/\(List.length q.a=List.length t/\ak (List.length q.a) (4:Nat) (ah P.ay q.a) (ah P.ay t))/\((0:Nat)=(0:Nat)/\ak (0:Nat) (2:Nat) (ah aJ []) (ah aJ []))/\(h.rng.lo=h.rng.lo/\h.rng.hi=h.rng.hi/\h.epoch=h.epoch/\h.frozen=h.frozen/\(false=false/\List.length h.recs=List.length h.recs/\ak (List.length h.recs) (5:Nat) (ah encR h.recs) (ah encR h.recs))/\((0:Nat)=(0:Nat)/\List.length q.a=List.length t)/\((0:Nat)=(0:Nat)/\(0:Nat)=(0:Nat))/\True)/\True)/\true=true)
theorem Yl (l:List Int) (h:BN) (m:Nat) (t:List P.Producer) (s':RS) (q:DQ (eY l) l m t s') (a:Int) (s1:RS) (b:Int) (s2:RS) (c:Bool) (s3:RS) (d:Int) (s4:RS):(cu Tryz.prog (dpH l q.s a s1 b s2 c s3 d s4) 16 8 (fun q:DQ (eY l) l m t s'=>q.n) (fun q=>dpT m q.n) (fun q=>OM l q.s h q.a []) [2,5,6] (fun _=>.ret ()) (dpS l h t s') q)=aec l h m t s' q a s1 b s2 c s3 d s4:=by kernel_rfl
noncomputable def dcH (l:List Int) (s:RS) (a:List Int) (s1:RS) (b:Int) (s2:RS):aC Tryz.prog:=Fe (dS (hh _ bB (cs1 16 19 1 (XP l s 32 a s1) (cs1 16 20 1 (Cy l s1 b s2) bA)) bq) (nk 16 21 6 5 noSh))
def aeC (l:List Int) (h:BN) (p:List P.Producer) (m:Nat) (t:List Con) (s':RS) (q:DQ (iE l) l m t s') (a:List Int) (s1:RS) (b:Int) (s2:RS):Prop :=
 (decide ((↑(m - q.n):Int)<(↑m:Int))=true->((q.s.e==(0:Int))=true->(((0:Nat)=(0:Nat)/\(0:Nat)=(0:Nat))/\(32:Int)=(32:Int)/\True)/\((dx l q.s q.s)/\True)/\(bL l q.s/\jC (32:Int))/\(a,s1)=aU l q.s (32:Int)/\(∀ (k:Nat),k<List.length a->true=true)/\(((0:Nat)=(0:Nat)/\(0:Nat)=(0:Nat))/\True)/\((dx l s1 s1)/\True)/\bL l s1/\(b,s2)=aB l s1/\(decide (List.length q.a=List.length q.a)&&decide (List.length q.a+(1:Nat)<=(9223372036854775807:Nat))&&decide ((List.length q.a+(1:Nat))*(24:Nat)<=(140737488355328:Nat)))=true/\∃ (j:DQ (iE l) l m t s'),j.n<q.n/\((((0:Nat)=(0:Nat)/\(0:Nat)=(0:Nat))/\((0:Nat)=(0:Nat)/\(0:Nat)=(0:Nat))/\((0:Nat)=(0:Nat)/\(0:Nat)=(0:Nat))/\(↑m:Int)=(↑m:Int)/\IntKind.wrap IntKind.i64 ((↑(m - q.n):Int)+(1:Int))=(↑(m - j.n):Int)/\True)/\((ByteArray.empty=ByteArray.empty/\ByteArray.empty=ByteArray.empty/\(0:Int)=(0:Int)/\(0:Int)=(0:Int)/\True/\True/\True/\True)/\(dx l s2 j.s)/\(List.length p=List.length p/\ak (List.length p) (4:Nat) (ah P.ay p) (ah P.ay p))/\(List.length q.a+(1:Nat)=List.length j.a/\ak (List.length q.a+(1:Nat)) (2:Nat) (aL (List.length q.a) (ah aJ q.a) fun (k j:Nat)=>Ax.get [AV.y (Value.string (vw (List.length a) (ah aD a))),AV.y (Value.int IntKind.u64 b)] (k*(2:Nat)+j)) (ah aJ j.a))/\(h.rng.lo=h.rng.lo/\h.rng.hi=h.rng.hi/\h.epoch=h.epoch/\h.frozen=h.frozen/\(false=false/\List.length h.recs=List.length h.recs/\ak (List.length h.recs) (5:Nat) (ah encR h.recs) (ah encR h.recs))/\((0:Nat)=(0:Nat)/\List.length p=List.length p)/\((0:Nat)=(0:Nat)/\List.length q.a+(1:Nat)=List.length j.a)/\True)/\True)/\true=true)/\true=true/\()=())/\((q.s.e==(0:Int))=false->(((0:Nat)=(0:Nat)/\(0:Nat)=(0:Nat))/\((0:Nat)=(0:Nat)/\(0:Nat)=(0:Nat))/\((0:Nat)=(0:Nat)/\(0:Nat)=(0:Nat))/\True)/\((ByteArray.empty=ByteArray.empty/\ByteArray.empty=ByteArray.empty/\(0:Int)=(0:Int)/\(0:Int)=(0:Int)/\True/\True/\True/\True)/\(dx l q.s s')/\(List.length p=List.length p/\ak (List.length p) (4:Nat) (ah P.ay p) (ah P.ay p))/\(List.length q.a=List.length t/\ak (List.length q.a) (2:Nat) (ah aJ q.a) (ah aJ t))/\(h.rng.lo=h.rng.lo/\h.rng.hi=h.rng.hi/\h.epoch=h.epoch/\h.frozen=h.frozen/\(false=false/\List.length h.recs=List.length h.recs/\ak (List.length h.recs) (5:Nat) (ah encR h.recs) (ah encR h.recs))/\((0:Nat)=(0:Nat)/\List.length p=List.length p)/\((0:Nat)=(0:Nat)/\List.length q.a=List.length t)/\True)/\True)/\true=true))/\(decide ((↑(m - q.n):Int)<(↑m:Int))=false->(((0:Nat)=(0:Nat)/\(0:Nat)=(0:Nat))/\((0:Nat)=(0:Nat)/\(0:Nat)=(0:Nat))/\((0:Nat)=(0:Nat)/\(0:Nat)=(0:Nat))/\True)/\((ByteArray.empty=ByteArray.empty/\ByteArray.empty=ByteArray.empty/\(0:Int)=(0:Int)/\(0:Int)=(0:Int)/\True/\True/\True/\True)/\(dx l q.s s')/\(List.length p=List.length p/\ak (List.length p) (4:Nat) (ah P.ay p) (ah P.ay p))/\(List.length q.a=List.length t/\ak (List.length q.a) (2:Nat) (ah aJ q.a) (ah aJ t))/\(h.rng.lo=h.rng.lo/\h.rng.hi=h.rng.hi/\h.epoch=h.epoch/\h.frozen=h.frozen/\(false=false/\List.length h.recs=List.length h.recs/\ak (List.length h.recs) (5:Nat) (ah encR h.recs) (ah encR h.recs))/\((0:Nat)=(0:Nat)/\List.length p=List.length p)/\((0:Nat)=(0:Nat)/\List.length q.a=List.length t)/\True)/\True)/\true=true)
theorem Xp (l:List Int) (h:BN) (p:List P.Producer) (m:Nat) (t:List Con) (s':RS) (q:DQ (iE l) l m t s') (a:List Int) (s1:RS) (b:Int) (s2:RS):(cu Tryz.prog (dcH l q.s a s1 b s2) 16 17 (fun q:DQ (iE l) l m t s'=>q.n) (fun q=>dcT m q.n) (fun q=>OM l q.s h p q.a) [3,5,6] (fun _=>.ret ()) (dcS l h p t s') q)=aeC l h p m t s' q a s1 b s2:=by kernel_rfl
noncomputable def ahv (p:Part):dO Tryz.prog:=⟨15,[.agg (aW false p)],[],.need (Q.HV p) (G7 (aX p) 165),T.Sat.need fun h=>Q.Zt false p h⟩
structure MP (l:List Int) where
 g:kW
 s1:RS
 ep:Int
 s2:RS
 fr:Int
 s3:RS
 rc:List Rec
 s4:RS
 n1:Nat
 s5:RS
 t6:List P.Producer
 s6:RS
 n2:Nat
 s7:RS
 t8:List Con
 s8:RS
 q:DQ (eY l) l n1 t6 s6
 r:DQ (iE l) l n2 t8 s8
abbrev MP.hd {l:List Int} (x:MP l):BN:=⟨x.g,x.ep,x.fr,x.rc⟩
abbrev MP.p {l:List Int} (x:MP l):Part:=⟨x.g,x.ep,x.fr,x.rc,x.t6,x.t8⟩
noncomputable def aeL (l:List Int) (x:MP l):aC Tryz.prog:=Fe (dS (hh _ (nu 16 8 (eP (fun q:DQ (eY l) l x.n1 x.t6 x.s6=>dpT x.n1 q.n) (fun q=>OM l q.s x.hd q.a []) [2,5,6] (fun _=>.ret ()) (dpS l x.hd x.t6 x.s6) x.q) (nu 16 17 (eP (fun q:DQ (iE l) l x.n2 x.t8 x.s8=>dcT x.n2 q.n) (fun q=>OM l q.s x.hd x.t6 q.a) [3,5,6] (fun _=>.ret ()) (dcS l x.hd x.t6 x.t8 x.s8) x.r) bB)) (cs1 16 2 1 (qgC l default x.g x.s1) (cs1 16 3 1 (Cy l x.s1 x.ep x.s2) (cs1 16 4 1 (Cy l x.s2 x.fr x.s3) (cs1 16 5 1 (ahK l x.s3 4096 x.rc x.s4) (cs1 16 6 1 (qcC l x.s4 256 (x.n1:Int) x.s5) (cs1 16 15 1 (qcC l x.s6 64 (x.n2:Int) x.s7) (cs1 16 22 1 (Y8 l x.s8) (cs1 16 22 5 (ahv x.p) bA)))))))) bq) (nk 16 2 2 1096 (nk 16 24 0 779 noSh)))
def aad (l:List Int) (x:MP l) (p:Part) (e:Int):Prop :=
 (((0:Nat)=(0:Nat)/\(0:Nat)=(0:Nat))/\True)/\(((dI l l)/\(0:Int)=(0:Int)/\(0:Int)=(0:Int)/\(0:Int)=(0:Int)/\True)/\True)/\bL l (@default RS instInhabitedRS)/\(x.g,x.s1)=j_ l (@default RS instInhabitedRS)/\(((0:Nat)=(0:Nat)/\(0:Nat)=(0:Nat))/\True)/\((dx l x.s1 x.s1)/\True)/\bL l x.s1/\(x.ep,x.s2)=aB l x.s1/\(((0:Nat)=(0:Nat)/\(0:Nat)=(0:Nat))/\True)/\((dx l x.s2 x.s2)/\True)/\bL l x.s2/\(x.fr,x.s3)=aB l x.s2/\(((0:Nat)=(0:Nat)/\(0:Nat)=(0:Nat))/\(4096:Int)=(4096:Int)/\True)/\((dx l x.s3 x.s3)/\True)/\(bL l x.s3/\jC (4096:Int)/\(4096:Int)<=(4096:Int))/\(x.rc,x.s4)=gu l x.s3 (4096:Int)/\(((0:Nat)=(0:Nat)/\(0:Nat)=(0:Nat))/\(256:Int)=(256:Int)/\True)/\((dx l x.s4 x.s4)/\True)/\(bL l x.s4/\jC (256:Int))/\((↑x.n1:Int),x.s5)=aK l x.s4 (256:Int)/\((((0:Nat)=(0:Nat)/\(0:Nat)=(0:Nat))/\((0:Nat)=(0:Nat)/\(0:Nat)=(0:Nat))/\((0:Nat)=(0:Nat)/\(0:Nat)=(0:Nat))/\(↑x.n1:Int)=(↑x.n1:Int)/\(0:Int)=(↑(x.n1 - x.q.n):Int)/\True)/\(({ data:=#[]:ByteArray }=ByteArray.empty/\{ data:=#[]:ByteArray }=ByteArray.empty/\(0:Int)=(0:Int)/\(0:Int)=(0:Int)/\True/\True/\True/\True)/\(dx l x.s5 x.q.s)/\((0:Nat)=List.length x.q.a/\ak (0:Nat) (4:Nat) (fun (x x_1:Nat)=>AV.junk) (ah P.ay x.q.a))/\((0:Nat)=(0:Nat)/\ak (0:Nat) (2:Nat) (fun (x x_1:Nat)=>AV.junk) (ah aJ []))/\(x.g.lo=x.g.lo/\x.g.hi=x.g.hi/\x.ep=x.ep/\x.fr=x.fr/\(false=false/\List.length x.rc=List.length x.rc/\ak (List.length x.rc) (5:Nat) (ah encR x.rc) (ah encR x.rc))/\((0:Nat)=(0:Nat)/\(0:Nat)=List.length x.q.a)/\((0:Nat)=(0:Nat)/\(0:Nat)=(0:Nat))/\True)/\True)/\true=true)/\aQ Tryz.prog (16:Nat) (8:Nat) (aS Tryz.prog (16:Nat) (8:Nat)) { t:=dpT x.n1 x.q.n,m:=OM l x.q.s (MP.hd x) x.q.a [],mv:=[]:St } (T.map (bU [(2:Nat),(5:Nat),(6:Nat)] (dpS l (MP.hd x) x.t6 x.s6)) ((fun (x:DQ (eY l) l x.n1 x.t6 x.s6)=>T.ret ()) x.q))/\(((0:Nat)=(0:Nat)/\(0:Nat)=(0:Nat))/\(64:Int)=(64:Int)/\True)/\((dx l x.s6 x.s6)/\True)/\(bL l x.s6/\jC (64:Int))/\((↑x.n2:Int),x.s7)=aK l x.s6 (64:Int)/\((((0:Nat)=(0:Nat)/\(0:Nat)=(0:Nat))/\((0:Nat)=(0:Nat)/\(0:Nat)=(0:Nat))/\((0:Nat)=(0:Nat)/\(0:Nat)=(0:Nat))/\(↑x.n2:Int)=(↑x.n2:Int)/\(0:Int)=(↑(x.n2 - x.r.n):Int)/\True)/\((ByteArray.empty=ByteArray.empty/\ByteArray.empty=ByteArray.empty/\(0:Int)=(0:Int)/\(0:Int)=(0:Int)/\True/\True/\True/\True)/\(dx l x.s7 x.r.s)/\(List.length x.t6=List.length x.t6/\ak (List.length x.t6) (4:Nat) (ah P.ay x.t6) (ah P.ay x.t6))/\((0:Nat)=List.length x.r.a/\ak (0:Nat) (2:Nat) (ah aJ []) (ah aJ x.r.a))/\(x.g.lo=x.g.lo/\x.g.hi=x.g.hi/\x.ep=x.ep/\x.fr=x.fr/\(false=false/\List.length x.rc=List.length x.rc/\ak (List.length x.rc) (5:Nat) (ah encR x.rc) (ah encR x.rc))/\((0:Nat)=(0:Nat)/\List.length x.t6=List.length x.t6)/\((0:Nat)=(0:Nat)/\(0:Nat)=List.length x.r.a)/\True)/\True)/\true=true)/\aQ Tryz.prog (16:Nat) (17:Nat) (aS Tryz.prog (16:Nat) (17:Nat)) { t:=dcT x.n2 x.r.n,m:=OM l x.r.s (MP.hd x) x.t6 x.r.a,mv:=[]:St } (T.map (bU [(3:Nat),(5:Nat),(6:Nat)] (dcS l (MP.hd x) x.t6 x.t8 x.s8)) ((fun (x:DQ (iE l) l x.n2 x.t8 x.s8)=>T.ret ()) x.r))/\(((0:Nat)=(0:Nat)/\(0:Nat)=(0:Nat))/\True)/\((dx l x.s8 x.s8)/\True)/\bL l x.s8/\((bS l x.s8 != (0:Int))=true->(({ data:=#[]:ByteArray }=p.rng.lo/\{ data:=#[]:ByteArray }=p.rng.hi/\(0:Int)=p.epoch/\(0:Int)=p.frozen/\List.length p.recs=(0:Nat)/\List.length p.prods=(0:Nat)/\List.length p.cons=(0:Nat)/\True)/\(165:Int)=e/\True)/\True)/\((bS l x.s8 != (0:Int))=false->((x.g.lo=x.g.lo/\x.g.hi=x.g.hi/\x.ep=x.ep/\x.fr=x.fr/\(false=false/\List.length x.rc=List.length x.rc/\ak (List.length x.rc) (5:Nat) (ah encR x.rc) (ah encR x.rc))/\(false=false/\List.length x.t6=List.length x.t6/\ak (List.length x.t6) (4:Nat) (Ax.rowAt (0:Nat) (ah P.ay x.t6)) (ah P.ay x.t6))/\(false=false/\List.length x.t8=List.length x.t8/\ak (List.length x.t8) (2:Nat) (Ax.rowAt (0:Nat) (ah aJ x.t8)) (ah aJ x.t8))/\True)/\True)/\True/\Q.HV (MP.p x)/\(aX (MP.p x)=true->true=true/\True/\(∀ (k:Nat),k<List.length x.t6->∀ (j:Nat),j<(4:Nat)->dK (ah P.ay x.t6 k j)=true)/\(∀ (k:Nat),k<List.length x.t8->∀ (j:Nat),j<(2:Nat)->dK (ah aJ x.t8 k j)=true)/\((x.g.lo=p.rng.lo/\x.g.hi=p.rng.hi/\x.ep=p.epoch/\x.fr=p.frozen/\(false=false/\List.length x.rc=List.length p.recs/\ak (List.length x.rc) (5:Nat) (ah encR x.rc) (ah encR p.recs))/\(true=true/\List.length x.t6=List.length p.prods/\ak (List.length x.t6) (4:Nat) (Ax.rowAt (0:Nat) (ah P.ay x.t6)) (ah P.ay p.prods))/\(true=true/\List.length x.t8=List.length p.cons/\ak (List.length x.t8) (2:Nat) (Ax.rowAt (0:Nat) (ah aJ x.t8)) (ah aJ p.cons))/\True)/\(0:Int)=e/\True)/\True)/\(aX (MP.p x)=false->true=true/\True/\(({ data:=#[]:ByteArray }=p.rng.lo/\{ data:=#[]:ByteArray }=p.rng.hi/\(0:Int)=p.epoch/\(0:Int)=p.frozen/\List.length p.recs=(0:Nat)/\List.length p.prods=(0:Nat)/\List.length p.cons=(0:Nat)/\True)/\(165:Int)=e/\True)/\True))
theorem Q6 (l:List Int) (x:MP l) (p:Part) (e:Int):(aZ Tryz.prog (aeL l x) 16 [bn true l] [] (rpR p e))=aad l x p e:=by kernel_rfl
theorem I5 {l:List Int} {s:RS} {most:Int} (h:bL l s):bL l (gu l s most).2:=by
 rw [(BL l s most).1]
 exact uN h
theorem afr (l:List Int) (h:iq l):(rxR (uh l).1 (uh l).2).Sat (au Tryz.prog 34 [bn true l] []):=by
 have hl:=h.n
 have k0:=EY h.n h.b
 obtain ⟨a,s1,e1⟩:∃ v t,(v,t)=jr l default:=⟨_,_,rfl⟩
 have k1:=xV k0 e1
 obtain ⟨u,s2,e2⟩:∃ v t,(v,t)=aB l s1:=⟨_,_,rfl⟩
 have k2:=(iF k1 e2).1
 obtain ⟨c,s3,e3⟩:∃ v t,(v,t)=dM l s2:=⟨_,_,rfl⟩
 have k3:bL l s3:=by have:=jG k2;rw [<- e3] at this;exact this
 obtain ⟨d,s4,e4⟩:∃ v t,(v,t)=gu l s3 64:=⟨_,_,rfl⟩
 have k4:bL l s4:=by have:=I5 (most:=64) k3;rw [<- e4] at this;exact this
 have hr:xW l=(⟨a,u,c,d⟩,s4):=by
  unfold xW
  simp only [<- e1,<- e2,<- e3,<- e4]
 have hx:=aeB l
 refine aR (ht:=ae6 l a s1 u s2 c s3 d s4) Tryz.mixed rfl ?_
 rw [Tp l a s1 u s2 c s3 d s4 (uh l).1 (uh l).2]
 rw [<- hx,hr]
 unfold Zb
 have hcl:=aO l.length 1 (ah aD l)
 have q:=DW
 have z0:(default:R.gJ)=⟨0,0,false,[]⟩:=rfl
 by_cases hd:bS l s4=0
 · simp [hl,k0,k1,k2,k3,k4,q,hd,z0,hcl,e1,e2,e3,e4]
   repeat' with_reducible apply And.intro
   all_goals first | assumption | rfl
 · simp [hl,k0,k1,k2,k3,k4,q,hd,z0,hcl,e1,e2,e3,e4]
   repeat' with_reducible apply And.intro
   all_goals first | assumption | rfl
noncomputable def agw (l:List Int) (x:R.gJ) (e:Int):dO Tryz.prog:=⟨34,[bn true l],[],.need (iq l) (.need ((x,e)=uh l) (rxR x e)),T.Sat.need fun h=>T.Sat.need fun q=>by
 have e1:x=(uh l).1:=congrArg Prod.fst q
 have e2:e=(uh l).2:=congrArg Prod.snd q
 rw [e1,e2]
 exact afr l h⟩
theorem Ym (l:List Int) (h:BN) (m:Nat) (hm:m<=4096) (t:List P.Producer) (s':RS) (q:DQ (eY l) l m t s'):aQ Tryz.prog 16 8 (aS Tryz.prog 16 8) ⟨dpT m q.n,OM l q.s h q.a [],[]⟩ (T.map (bU [2,5,6] (dpS l h t s')) (.ret ())):=by
 refine dU (P:=Tryz.prog) (f:=16) (k:=8) (ι:=DQ (eY l) l m t s') (μ:=fun q=>q.n) (ht:=fun q=>dpH l q.s (aB l q.s).1 (aB l q.s).2 (aB l (aB l q.s).2).1 (aB l (aB l q.s).2).2 (dM l (aB l (aB l q.s).2).2).1 (dM l (aB l (aB l q.s).2).2).2 (aB l (dM l (aB l (aB l q.s).2).2).2).1 (aB l (dM l (aB l (aB l q.s).2).2).2).2) (qG:=fun q=>dpT m q.n) (stM:=fun q=>OM l q.s h q.a []) (X:=[2,5,6]) (o:=fun _=>.ret ()) (S:=dpS l h t s') Tryz.mixed (fun _=>rfl) (fun q=>?_) q
 rw [Yl]
 unfold aec
 obtain ⟨n,s,a,e,hs,k,z⟩:=q
 have hcl:=aO l.length 1 (ah aD l)
 have hcr:=aO h.recs.length 5 (ah encR h.recs)
 simp only
 cases n with
 | zero =>
   have e1:a=t:=congrArg Prod.fst e
   have e2:s=s':=congrArg Prod.snd e
   subst e1 e2
   have hd:decide (((m - 0:Nat):Int)<(m:Int))=false:=by simp
   simp only [hd]
   simp [hcl,hcr]
 | succ n =>
   have hd:decide (((m - (n+1):Nat):Int)<(m:Int))=true:=by simp only [decide_eq_true_eq];omega
   have w:IntKind.wrap IntKind.i64 (((m - (n+1):Nat):Int)+1)=((m - n:Nat):Int):=by rw [wrap_i64 (by omega) (by omega)];omega
   simp only [hd,w]
   by_cases he:s.e=0
   · have h0:(s.e != 0)=false:=by simp [he]
     have h0':(s.e==0)=true:=by simp [he]
     have k1:=(bf hs).1
     have k2:=(bf k1).1
     have k3:=jG k2
     have k4:=(bf k3).1
     have e1:gP (eY l) n (eY l s).2 (a++[(eY l s).1])=(t,s'):=by
      have:=e
      unfold gP at this
      simpa [h0] using this
     have ha:=jo (enc:=P.ay) (l:=a) (n:=a.length) (sz:=4) (x:=(eY l s).1) (cs:=P.ay (eY l s).1) rfl (fun j hj=>bN _)
     simp only [h0']
     simp [hs,k1,k2,k3,hcl,hcr]
     refine ⟨by omega,⟨n,(eY l s).2,a++[(eY l s).1],e1,k4,by omega,by simp;omega⟩,by show n<n+1;omega,?_⟩
     simp [eY]
     exact ha
   · have h0:(s.e != 0)=true:=by simpa using he
     have h0':(s.e==0)=false:=by simpa using he
     have e1:(a,s)=(t,s'):=by
      have:=e
      unfold gP at this
      simpa [h0] using this
     have e3:a=t:=congrArg Prod.fst e1
     have e4:s=s':=congrArg Prod.snd e1
     subst e3 e4
     simp only [h0']
     simp [hcl,hcr]
theorem UN (l:List Int) (h:BN) (p:List P.Producer) (m:Nat) (hm:m<=4096) (t:List Con) (s':RS) (q:DQ (iE l) l m t s'):aQ Tryz.prog 16 17 (aS Tryz.prog 16 17) ⟨dcT m q.n,OM l q.s h p q.a,[]⟩ (T.map (bU [3,5,6] (dcS l h p t s')) (.ret ())):=by
 refine dU (P:=Tryz.prog) (f:=16) (k:=17) (ι:=DQ (iE l) l m t s') (μ:=fun q=>q.n) (ht:=fun q=>dcH l q.s (aU l q.s 32).1 (aU l q.s 32).2 (aB l (aU l q.s 32).2).1 (aB l (aU l q.s 32).2).2) (qG:=fun q=>dcT m q.n) (stM:=fun q=>OM l q.s h p q.a) (X:=[3,5,6]) (o:=fun _=>.ret ()) (S:=dcS l h p t s') Tryz.mixed (fun _=>rfl) (fun q=>?_) q
 rw [Xp]
 unfold aeC
 obtain ⟨n,s,a,e,hs,k,z⟩:=q
 have hcl:=aO l.length 1 (ah aD l)
 have hcr:=aO h.recs.length 5 (ah encR h.recs)
 have hcp:=aO p.length 4 (ah P.ay p)
 simp only
 cases n with
 | zero =>
   have e1:a=t:=congrArg Prod.fst e
   have e2:s=s':=congrArg Prod.snd e
   subst e1 e2
   have hd:decide (((m - 0:Nat):Int)<(m:Int))=false:=by simp
   simp only [hd]
   simp [hcl,hcr,hcp]
 | succ n =>
   have hd:decide (((m - (n+1):Nat):Int)<(m:Int))=true:=by simp only [decide_eq_true_eq];omega
   have w:IntKind.wrap IntKind.i64 (((m - (n+1):Nat):Int)+1)=((m - n:Nat):Int):=by rw [wrap_i64 (by omega) (by omega)];omega
   simp only [hd,w]
   by_cases he:s.e=0
   · have h0:(s.e != 0)=false:=by simp [he]
     have h0':(s.e==0)=true:=by simp [he]
     have k1:bL l (aU l s 32).2:=mE hs
     have k2:=(bf k1).1
     have e1:gP (iE l) n (iE l s).2 (a++[(iE l s).1])=(t,s'):=by
      have:=e
      unfold gP at this
      simpa [h0] using this
     have ha:=jo (enc:=aJ) (l:=a) (n:=a.length) (sz:=2) (x:=(iE l s).1) (cs:=aJ (iE l s).1) rfl (fun j hj=>bN _)
     have z2:=qI
     simp only [h0']
     simp [hs,k1,z2,hcl,hcr,hcp]
     refine ⟨by omega,⟨n,(iE l s).2,a++[(iE l s).1],e1,k2,by omega,by simp;omega⟩,by show n<n+1;omega,?_⟩
     simp [iE]
     exact ⟨⟨rfl,rfl,rfl⟩,ha⟩
   · have h0:(s.e != 0)=true:=by simpa using he
     have h0':(s.e==0)=false:=by simpa using he
     have e1:(a,s)=(t,s'):=by
      have:=e
      unfold gP at this
      simpa [h0] using this
     have e3:a=t:=congrArg Prod.fst e1
     have e4:s=s':=congrArg Prod.snd e1
     subst e3 e4
     simp only [h0']
     simp [hcl,hcr,hcp]
theorem sP {α:Type} {f:RS->α×RS}:∀ n s a,(gP f n s a).1.length<=a.length+n
 | 0,s,a=>Nat.le_refl _
 | n+1,s,a=>by
   unfold gP
   split
   · show a.length<=_;omega
   · have:=sP (f:=f) n (f s).2 (a++[(f s).1])
     rw [List.length_append] at this
     simp at this
     omega
theorem su {α:Type} {l:List Int} {f:RS->α×RS} {Q:α->Prop} (hf:∀ s,bL l s->bL l (f s).2/\Q (f s).1):∀ n s a,bL l s->(∀ x∈a,Q x)->bL l (gP f n s a).2/\∀ x∈(gP f n s a).1,Q x
 | 0,s,a,h,ha=>⟨h,ha⟩
 | n+1,s,a,h,ha=>by
   unfold gP
   split
   · exact ⟨h,ha⟩
   · refine su hf n _ _ (hf s h).1 fun x hx=>?_
     rcases List.mem_append.1 hx with hx | hx
     · exact ha x hx
     · obtain rfl:=List.mem_singleton.1 hx
       exact (hf s h).2
theorem Yn {l:List Int} {s:RS} (h:bL l s):0<=(eH l s).1.seq:=by
 have h1:=(bf (bf (mE (most:=256) (ng (most:=32) (bf h).1 rfl))).1).2.lo
 unfold eH
 simp only
 split
 · exact Int.le_refl _
 · exact h1
theorem afi (l:List Int) (h:iq l):(rpR (mI l).1 (mI l).2).Sat (au Tryz.prog 16 [bn true l] []):=by
 have hl:=h.n
 have k0:=EY h.n h.b
 obtain ⟨g,s1,e1⟩:∃ v t,(v,t)=j_ l default:=⟨_,_,rfl⟩
 have k1:bL l s1:=by have:=Jj k0;rw [<- e1] at this;exact this
 obtain ⟨ep,s2,e2⟩:∃ v t,(v,t)=aB l s1:=⟨_,_,rfl⟩
 have k2:=(iF k1 e2).1
 obtain ⟨fr,s3,e3⟩:∃ v t,(v,t)=aB l s2:=⟨_,_,rfl⟩
 have k3:=(iF k2 e3).1
 obtain ⟨rc,s4,e4⟩:∃ v t,(v,t)=gu l s3 4096:=⟨_,_,rfl⟩
 have k4:bL l s4:=by have:=I5 (most:=4096) k3;rw [<- e4] at this;exact this
 obtain ⟨n1',s5,e5⟩:∃ v t,(v,t)=aK l s4 256:=⟨_,_,rfl⟩
 have k5:bL l s5:=by have:=(gI (most:=256) k4).1;rw [<- e5] at this;exact this
 have c5:=count_le (most:=256) k4
 rw [<- e5] at c5
 simp only at c5
 obtain ⟨n1,rfl⟩:=Int.eq_ofNat_of_zero_le c5.2
 obtain ⟨t6,s6,e6⟩:∃ v t,(v,t)=gP (eY l) n1 s5 []:=⟨_,_,rfl⟩
 have a6:=su (Q:=fun x:P.Producer=>0<=x.offset/\x.offset<18446744073709551616) (f:=eY l) (fun s h=>⟨rz h,(bf (jG (bf (bf h).1).1)).2.lo,(bf (jG (bf (bf h).1).1)).2.hi⟩) n1 s5 [] k5 (fun x hx=>by cases hx)
 rw [<- e6] at a6
 obtain ⟨k6,po⟩:=a6
 simp only at k6 po
 obtain ⟨n2',s7,e7⟩:∃ v t,(v,t)=aK l s6 64:=⟨_,_,rfl⟩
 have k7:bL l s7:=by have:=(gI (most:=64) k6).1;rw [<- e7] at this;exact this
 have c7:=count_le (most:=64) k6
 rw [<- e7] at c7
 simp only at c7
 obtain ⟨n2,rfl⟩:=Int.eq_ofNat_of_zero_le c7.2
 obtain ⟨t8,s8,e8⟩:∃ v t,(v,t)=gP (iE l) n2 s7 []:=⟨_,_,rfl⟩
 have k8:bL l s8:=by
  have:=(su (Q:=fun _:Con=>True) (f:=iE l) (fun s h=>⟨L6 h,trivial⟩) n2 s7 [] k7 (fun x hx=>by cases hx)).1
  rw [<- e8] at this
  exact this
 have hr:qh l=(⟨g,ep,fr,rc,t6,t8⟩,s8):=by
  unfold qh UK xK Ll
  simp only [<- e1,<- e2,<- e3,<- e4,<- e5,Int.toNat_natCast,<- e6,<- e7,<- e8]
 have l6:t6.length<=n1:=by have:=sP (f:=eY l) n1 s5 [];rw [<- e6] at this;simpa using this
 have l8:t8.length<=n2:=by have:=sP (f:=iE l) n2 s7 [];rw [<- e8] at this;simpa using this
 have c4:=count_le (most:=4096) k3
 have l4:rc.length<=4096:=by
  have:=sP (f:=eH l) (aK l s3 4096).1.toNat (aK l s3 4096).2 []
  have e:(rc,s4)=gP (eH l) (aK l s3 4096).1.toNat (aK l s3 4096).2 []:=e4
  rw [<- e] at this
  simp at this
  omega
 have sq:∀ y∈rc,0<=y.seq:=by
  have:=(su (Q:=fun y:Rec=>0<=y.seq) (f:=eH l) (fun s h=>⟨uK h,Yn h⟩) (aK l s3 4096).1.toNat (aK l s3 4096).2 [] (gI k3).1 (fun x hx=>by cases hx)).2
  have e:(rc,s4)=gP (eH l) (aK l s3 4096).1.toNat (aK l s3 4096).2 []:=e4
  rw [<- e] at this
  exact this
 have hpi:Q.HV ⟨g,ep,fr,rc,t6,t8⟩:=⟨by show rc.length<=_;omega,by show t6.length<=_;omega,by show t8.length<=_;omega,po,by show t6.length<=_;omega,sq⟩
 obtain ⟨q,q1,q2,q3⟩:∃ q:DQ (eY l) l n1 t6 s6,q.n=n1/\q.s=s5/\q.a=[]:=⟨⟨n1,s5,[],e6.symm,k5,Nat.le_refl _,by simp⟩,rfl,rfl,rfl⟩
 obtain ⟨r,r1,r2,r3⟩:∃ q:DQ (iE l) l n2 t8 s8,q.n=n2/\q.s=s7/\q.a=[]:=⟨⟨n2,s7,[],e8.symm,k7,Nat.le_refl _,by simp⟩,rfl,rfl,rfl⟩
 have lp:=Ym l ⟨g,ep,fr,rc⟩ n1 (by omega) t6 s6 q
 have lq:=UN l ⟨g,ep,fr,rc⟩ t6 n2 (by omega) t8 s8 r
 have hx:=aev l
 refine aR (ht:=aeL l ⟨g,s1,ep,s2,fr,s3,rc,s4,n1,s5,t6,s6,n2,s7,t8,s8,q,r⟩) Tryz.mixed rfl ?_
 rw [Q6 l ⟨g,s1,ep,s2,fr,s3,rc,s4,n1,s5,t6,s6,n2,s7,t8,s8,q,r⟩ (mI l).1 (mI l).2]
 rw [<- hx,hr]
 unfold aad
 have z64:=DW
 have z256:=rU
 have z4096:=G6
 have z0:(default:Part)=⟨⟨ByteArray.empty,ByteArray.empty⟩,0,0,[],[],[]⟩:=rfl
 have z1:ByteArray.empty=(⟨#[]⟩:ByteArray):=rfl
 have hr6:ak t6.length 4 (Ax.rowAt 0 (ah P.ay t6)) (ah P.ay t6):=fun k hk j hj=>bN _
 have hr8:ak t8.length 2 (Ax.rowAt 0 (ah aJ t8)) (ah aJ t8):=fun k hk j hj=>bN _
 have tp:=aao t6
 have tc:=YU t8
 have hcl:=aO l.length 1 (ah aD l)
 have hcr:=aO rc.length 5 (ah encR rc)
 rw [q1,q2,q3] at lp
 rw [r1,r2,r3] at lq
 simp only [q1,q2,q3,r1,r2,r3]
 by_cases hd:bS l s8=0
 · cases hw:aX (⟨g,ep,fr,rc,t6,t8⟩:Part)
   · simp [hl,k0,k1,k2,k3,k4,k5,k6,k7,k8,z64,z256,z4096,hd,hw,hpi,z0,z1,hr6,hr8,hcl,hcr,e1,e2,e3,e4,e5,e7]
     repeat' with_reducible apply And.intro
     all_goals first | assumption | rfl | skip
   · simp [hl,k0,k1,k2,k3,k4,k5,k6,k7,k8,z64,z256,z4096,hd,hw,hpi,z0,z1,hr6,hr8,hcl,hcr,e1,e2,e3,e4,e5,e7]
     repeat' with_reducible apply And.intro
     all_goals first | assumption | rfl | skip
 · simp [hl,k0,k1,k2,k3,k4,k5,k6,k7,k8,z64,z256,z4096,hd,hpi,z0,z1,hr6,hr8,hcl,hcr,e1,e2,e3,e4,e5,e7]
   repeat' with_reducible apply And.intro
   all_goals first | assumption | rfl | skip
theorem aeR (l:List Int) (h:iq l):(XH (mI l).1 (mI l).2).Sat (au Tryz.prog 16 [bn true l] []):=by
 have h1:au Tryz.prog 16 [bn true l] [] (.tup [.agg (FK (mI l).1),.y (.int .i64 (mI l).2)],[],[]):=jN (afi l h)
 have h2:au Tryz.prog 16 [bn true l] [] (.tup [.agg (aW false (mI l).1),.y (.int .i64 (mI l).2)],[],[]):=rZ (fun H E v hH hr=>MO hH hr) h1
 exact T.Sat.ret h2
noncomputable def ahm (l:List Int) (p:Part) (e:Int):dO Tryz.prog:=⟨16,[bn true l],[],.need (iq l) (.need ((p,e)=mI l) (XH p e)),T.Sat.need fun h=>T.Sat.need fun q=>by
 have e1:p=(mI l).1:=congrArg Prod.fst q
 have e2:e=(mI l).2:=congrArg Prod.snd q
 rw [e1,e2]
 exact aeR l h⟩
end J
namespace Q
open J
def iW (b:Bool):List Int:=[if b then 1 else 0]
def aA (t:List Int):List Int:=aj t.length++t
def aM (s:ByteArray):List Int:=s.data.toList.map fun x=>(x.toNat:Int)
def eu (r:kW):List Int:=aA (aM r.lo)++aA (aM r.hi)
def g_ (x:Rec):List Int:=aj x.off++aA (aM x.key)++aA x.val++aj x.prod++aj x.seq
def eD (l:List Rec):List Int:=aj (l.length:Int)++l.flatMap g_
def kN (x:P.Producer):List Int:=aj x.id++aj x.seq++iW x.here++aj x.offset
def pR (x:Con):List Int:=aA (aM x.name)++aj x.off
def Jh (p:Part):List Int:=eu p.rng++aj p.epoch++aj p.frozen++eD p.recs++aj (p.prods.length:Int)
def jk (p:Part) (k:Nat):List Int:=Jh p++(p.prods.take k).flatMap kN
def nC (p:Part) (k:Nat):List Int:=jk p p.prods.length++aj (p.cons.length:Int)++(p.cons.take k).flatMap pR
def fT (p:Part):List Int:=nC p p.cons.length
def IB (l:List Int):aH:=.row 5 1 l.length none (ah aD l)
def fU (l:List Int):T An:=.ret (.own 0 1 0 l.length,[IB l],[])
noncomputable def uwH (t:List Int) (q:WU t):aC Tryz.prog:=hh _ (nu 64 2 (eP (fun q:WU t=>duT q.v q.l.length) (fun q=>duM q.l) [0,1,2] (fun _=>.ret ()) (duS t) q) bB) bA (op1 64 1 0 (.row 5 1) bq)
def afE (t:List Int) (q:WU t) (v:Int):Prop :=
 ((v=q.v/\(0=0/\0=q.l.length)/\True)/\((0=q.l.length/\ak 0 1 (fun (x x_1:Nat)=>AV.junk) (ah aD q.l))/\True)/\true=true)/\aQ Tryz.prog 64 2 (aS Tryz.prog 64 2) { t:=duT q.v q.l.length,m:=duM q.l,mv:=[]:St } (T.map (bU [0,1,2] (duS t)) ((fun (x:WU t)=>T.ret ()) q))/\(decide ((List.dropLast t).length=(List.dropLast t).length)&&decide ((List.dropLast t).length+1<=9223372036854775807)&&decide (((List.dropLast t).length+1)*1<=140737488355328))=true/\(0=0/\(List.dropLast t).length+1=t.length)/\((List.dropLast t).length+1=t.length/\ak ((List.dropLast t).length+1) 1 (aL (List.dropLast t).length (ah aD (List.dropLast t)) fun (k j:Nat)=>Ax.get [AV.y (.int .u8 (IntKind.u8.wrap (List.getLastD t 0)))] (k*1+j)) (ah aD t))/\True
theorem XG (t:List Int) (q:WU t) (v:Int):(aZ Tryz.prog (uwH t q) 64 [.y (.int .u64 v)] [] (fU t))=afE t q v:=by kernel_rfl
theorem ahp (v:Int) (h0:0<=v) (h1:v<18446744073709551616):(fU (aj v)).Sat (au Tryz.prog 64 [.y (.int .u64 v)] []):=by
 have hv:v<128 ^ (10+1):=by
  have:(128:Int) ^ (10+1)=151115727451828646838272:=by decide
  omega
 obtain ⟨a,z,ha,hz0,hz1⟩:=CS 10 v h0 hv
 have hlen:=vR 10 v
 have lp:=WY (aj v) ⟨v,[],10,h0,hv,by decide,rfl⟩
 refine aR (ht:=uwH (aj v) ⟨v,[],10,h0,hv,by decide,rfl⟩) Tryz.mixed rfl ?_
 rw [XG (aj v) ⟨v,[],10,h0,hv,by decide,rfl⟩ v]
 unfold afE
 have e1:(aj v).dropLast=a:=by unfold aj;rw [ha];simp
 have e2:(aj v).getLastD 0=z:=by unfold aj;rw [ha];simp
 have e3:aj v=a++[z]:=ha
 have hz8:IntKind.wrap IntKind.u8 z=z:=by rw [uF];omega
 have hal:a.length<=10:=by rw [ha] at hlen;simp at hlen;omega
 have hr:=jo (enc:=aD) (l:=a) (n:=a.length) (sz:=1) (x:=z) (cs:=[.y (.int .u8 z)]) rfl (fun j hj=>bN _)
 simp only [Nat.mul_one] at hr
 have e4:(aj v).length=a.length+1:=by unfold aj;rw [ha];simp
 simp only [e1,e2,hz8]
 simp [lp]
 repeat' with_reducible apply And.intro
 all_goals first
  | omega
  | (simpa using lp)
  | (rw [e3];exact hr)
structure dL (v:Int):Prop where
 v0:0<=v
 v1:v<18446744073709551616
noncomputable def y7 (v:Int):dO Tryz.prog:=⟨64,[.y (.int .u64 v)],[],.need (dL v) (fU (aj v)),T.Sat.need fun h=>ahp v h.v0 h.v1⟩
noncomputable def txH (n:Nat):aC Tryz.prog:=hh _ bB (cs1 67 1 3 (y7 (n:Int)) bA) bq
def afO (f:Bool) (b:List Int):Prop :=
 (IntKind.u64.wrap (b.length:Int)=(b.length:Int)/\True)/\True/\dL (b.length:Int)/\(decide ((aj (b.length:Int)).length=(aj (b.length:Int)).length)&&decide ((aj (b.length:Int)).length+b.length<=9223372036854775807)&&decide (((aj (b.length:Int)).length+b.length)*1<=140737488355328))=true/\(0=0/\(aj (b.length:Int)).length+b.length=(aA b).length)/\((aj (b.length:Int)).length+b.length=(aA b).length/\ak ((aj (b.length:Int)).length+b.length) 1 (aL (aj (b.length:Int)).length (ah aD (aj (b.length:Int))) (ah aD b)) (ah aD (aA b)))/\True
theorem XK (f:Bool) (b:List Int):(aZ Tryz.prog (txH b.length) 67 [bn f b] [] (fU (aA b)))=afO f b:=by kernel_rfl
theorem U2 (l r:List Int):ak (l.length+r.length) 1 (aL l.length (ah aD l) (ah aD r)) (ah aD (l++r)):=by
 intro k hk j hj
 unfold aL ah
 by_cases h:k<l.length
 · rw [if_pos h]
   have:(l++r).getD k default=l.getD k default:=by simp [List.getElem?_append_left h]
   rw [this];exact bN _
 · rw [if_neg h]
   have:(l++r).getD k default=r.getD (k - l.length) default:=by simp [List.getElem?_append_right (by omega:l.length<=k)]
   rw [this];exact bN _
theorem aG (v:Int):(aj v).length<=11:=vR 10 v
theorem ahR (f:Bool) (b:List Int) (h:b.length<=1099511627776):(fU (aA b)).Sat (au Tryz.prog 67 [bn f b] []):=by
 refine aR (ht:=txH b.length) Tryz.mixed rfl ?_
 rw [XK f b]
 unfold afO
 have hw:IntKind.u64.wrap (b.length:Int)=b.length:=wrap_u64 (by omega) (by omega)
 have hu:dL (b.length:Int):=⟨by omega,by omega⟩
 have hl:=aG (b.length:Int)
 have hc:=U2 (aj b.length) b
 simp only [hw,aA]
 simp [hu,hc]
 try omega
noncomputable def Vs (f:Bool) (b:List Int):dO Tryz.prog:=⟨67,[bn f b],[],.need (b.length<=1099511627776) (fU (aA b)),T.Sat.need fun h=>ahR f b h⟩
noncomputable def rgH (r:kW):aC Tryz.prog:=hh _ bB (cs1 63 1 3 (Vs true (aM r.lo)) (cs1 63 1 7 (Vs true (aM r.hi)) bA)) bq
def afM (r:kW):Prop :=
 ((true=true/\ByteArray.size r.lo=(aM r.lo).length/\ak (ByteArray.size r.lo) 1 (fun (k x:Nat)=>AV.y (.int .u8 ((UInt8.toNat (r.lo.data.toList.getD k (0:UInt8))):Int))) (ah aD (aM r.lo)))/\True)/\True/\(aM r.lo).length<=1099511627776/\((true=true/\ByteArray.size r.hi=(aM r.hi).length/\ak (ByteArray.size r.hi) 1 (fun (k x:Nat)=>AV.y (.int .u8 ((UInt8.toNat (r.hi.data.toList.getD k (0:UInt8))):Int))) (ah aD (aM r.hi)))/\True)/\True/\(aM r.hi).length<=1099511627776/\(decide ((aA (aM r.lo)).length=(aA (aM r.lo)).length)&&decide ((aA (aM r.lo)).length+(aA (aM r.hi)).length<=9223372036854775807)&&decide (((aA (aM r.lo)).length+(aA (aM r.hi)).length)*1<=140737488355328))=true/\(0=0/\(aA (aM r.lo)).length+(aA (aM r.hi)).length=(eu r).length)/\((aA (aM r.lo)).length+(aA (aM r.hi)).length=(eu r).length/\ak ((aA (aM r.lo)).length+(aA (aM r.hi)).length) 1 (aL (aA (aM r.lo)).length (ah aD (aA (aM r.lo))) fun (k:Nat)=>ah aD (aA (aM r.hi)) (0+k)) (ah aD (eu r)))/\True
theorem Xh (r:kW):(aZ Tryz.prog (rgH r) 63 [.agg (nN r)] [] (fU (eu r)))=afM r:=by kernel_rfl
noncomputable def rcH (x:Rec):aC Tryz.prog:=hh _ bB (cs1 120 1 2 (y7 x.off) (cs1 120 1 6 (Vs true (aM x.key)) (cs1 120 2 3 (Vs true x.val) (cs1 120 3 3 (y7 x.prod) (cs1 120 4 3 (y7 x.seq) bA))))) bq
def Po (x:Rec):Prop :=
 (x.off=x.off/\True)/\True/\dL x.off/\((true=true/\ByteArray.size x.key=(aM x.key).length/\ak (ByteArray.size x.key) 1 (fun (k x_1:Nat)=>AV.y (.int .u8 ((UInt8.toNat (x.key.data.toList.getD k (0:UInt8))):Int))) (ah aD (aM x.key)))/\True)/\True/\(aM x.key).length<=1099511627776/\(decide ((aj x.off).length=(aj x.off).length)&&decide ((aj x.off).length+(aA (aM x.key)).length<=9223372036854775807)&&decide (((aj x.off).length+(aA (aM x.key)).length)*1<=140737488355328))=true/\((dI x.val x.val)/\True)/\True/\x.val.length<=1099511627776/\(decide ((aj x.off).length+(aA (aM x.key)).length=(aj x.off).length+(aA (aM x.key)).length)&&decide ((aj x.off).length+(aA (aM x.key)).length+(aA x.val).length<=9223372036854775807)&&decide (((aj x.off).length+(aA (aM x.key)).length+(aA x.val).length)*1<=140737488355328))=true/\(x.prod=x.prod/\True)/\True/\dL x.prod/\(decide ((aj x.off).length+(aA (aM x.key)).length+(aA x.val).length=(aj x.off).length+(aA (aM x.key)).length+(aA x.val).length)&&decide ((aj x.off).length+(aA (aM x.key)).length+(aA x.val).length+(aj x.prod).length<=9223372036854775807)&&decide (((aj x.off).length+(aA (aM x.key)).length+(aA x.val).length+(aj x.prod).length)*1<=140737488355328))=true/\(x.seq=x.seq/\True)/\True/\dL x.seq/\(decide ((aj x.off).length+(aA (aM x.key)).length+(aA x.val).length+(aj x.prod).length=(aj x.off).length+(aA (aM x.key)).length+(aA x.val).length+(aj x.prod).length)&&decide ((aj x.off).length+(aA (aM x.key)).length+(aA x.val).length+(aj x.prod).length+(aj x.seq).length<=9223372036854775807)&&decide (((aj x.off).length+(aA (aM x.key)).length+(aA x.val).length+(aj x.prod).length+(aj x.seq).length)*1<=140737488355328))=true/\(0=0/\(aj x.off).length+(aA (aM x.key)).length+(aA x.val).length+(aj x.prod).length+(aj x.seq).length=(g_ x).length)/\((aj x.off).length+(aA (aM x.key)).length+(aA x.val).length+(aj x.prod).length+(aj x.seq).length=(g_ x).length/\ak ((aj x.off).length+(aA (aM x.key)).length+(aA x.val).length+(aj x.prod).length+(aj x.seq).length) 1 (aL ((aj x.off).length+(aA (aM x.key)).length+(aA x.val).length+(aj x.prod).length) (aL ((aj x.off).length+(aA (aM x.key)).length+(aA x.val).length) (aL ((aj x.off).length+(aA (aM x.key)).length) (aL (aj x.off).length (ah aD (aj x.off)) fun (k:Nat)=>ah aD (aA (aM x.key)) (0+k)) fun (k:Nat)=>ah aD (aA x.val) (0+k)) fun (k:Nat)=>ah aD (aj x.prod) (0+k)) fun (k:Nat)=>ah aD (aj x.seq) (0+k)) (ah aD (g_ x)))/\True
theorem Fq (x:Rec):(aZ Tryz.prog (rcH x) 120 [.agg (encR x)] [] (fU (g_ x)))=Po x:=by kernel_rfl
def aeH (b:Bool):Prop :=
 (b=true->((0:Nat)=(0:Nat)/\(1:Nat)=List.length [if b=true then (1:Int) else (0:Int)])/\((1:Nat)=List.length [if b=true then (1:Int) else (0:Int)]/\Mx (1:Nat) (1:Nat) [AV.s (Value.int IntKind.u8 (1:Int))] (ah aD [if b=true then (1:Int) else (0:Int)]))/\True)/\(b=false->((0:Nat)=(0:Nat)/\(1:Nat)=List.length [if b=true then (1:Int) else (0:Int)])/\((1:Nat)=List.length [if b=true then (1:Int) else (0:Int)]/\Mx (1:Nat) (1:Nat) [AV.s (Value.int IntKind.u8 (0:Int))] (ah aD [if b=true then (1:Int) else (0:Int)]))/\True)
theorem Vh (b:Bool):(aZ Tryz.prog (hT _) 66 [.y (.bool b)] [] (fU (iW b)))=aeH b:=by kernel_rfl
theorem iQ (l r:List Int):aL l.length (ah aD l) (fun k=>ah aD r k)=ah aD (l++r):=by
 funext k j
 unfold aL ah
 by_cases h:k<l.length
 · rw [if_pos h]
   simp [List.getElem?_append_left h]
 · rw [if_neg h]
   simp [List.getElem?_append_right (by omega:l.length<=k)]
theorem bD (t:List Int):(aA t).length<=11+t.length:=by
 have:=aG (t.length:Int)
 simp [aA];omega
theorem dF (s:ByteArray):(aM s).length=s.size:=by simp [aM]
theorem iP (s:ByteArray):ak s.size 1 (fun (k x:Nat)=>AV.y (Value.int IntKind.u8 (↑(UInt8.toNat (List.getD s.data.toList k (0:UInt8))):Int))) (ah aD (aM s)):=by
 intro k hk j hj
 obtain rfl:j=0:=by omega
 have hk2:k<s.data.toList.length:=by simpa using hk
 show qg (.y (.int .u8 ((s.data.toList.getD k 0).toNat:Int))) (.y (.int .u8 ((aM s).getD k default)))
 have:(aM s).getD k default=((s.data.toList.getD k 0).toNat:Int):=by
  unfold aM
  simp only [List.getD,List.getElem?_map]
  simp at hk2
  simp [hk2]
 rw [this]
 exact bN _
theorem ahd (r:kW) (h1:r.lo.size<=1099511627776) (h2:r.hi.size<=1099511627776):(fU (eu r)).Sat (au Tryz.prog 63 [.agg (nN r)] []):=by
 refine aR (ht:=rgH r) Tryz.mixed rfl ?_
 rw [Xh r]
 unfold afM
 have a1:=bD (aM r.lo)
 have a2:=bD (aM r.hi)
 have b1:=dF r.lo
 have b2:=dF r.hi
 have c1:=iP r.lo
 have c2:=iP r.hi
 have e:(eu r).length=(aA (aM r.lo)).length+(aA (aM r.hi)).length:=by simp [eu]
 simp only [Nat.zero_add,iQ]
 repeat' with_reducible apply And.intro
 all_goals first
  | with_reducible rfl
  | exact trivial
  | assumption
  | omega
  | (simp;omega)
  | exact aO _ _ _
structure RgOk (r:kW):Prop where
 lo:r.lo.size<=1099511627776
 hi:r.hi.size<=1099511627776
noncomputable def rgC (r:kW):dO Tryz.prog:=⟨63,[.agg (nN r)],[],.need (RgOk r) (fU (eu r)),T.Sat.need fun h=>ahd r h.lo h.hi⟩
structure Xg (x:Rec):Prop where
 o:dL x.off
 p:dL x.prod
 s:dL x.seq
 k:x.key.size<=1099511627776
 v:x.val.length<=1099511627776
theorem aaU (x:Rec) (h:Xg x):(fU (g_ x)).Sat (au Tryz.prog 120 [.agg (encR x)] []):=by
 refine aR (ht:=rcH x) Tryz.mixed rfl ?_
 rw [Fq x]
 unfold Po
 obtain ⟨h1,h2,h3,h4,h5⟩:=h
 have a1:=bD (aM x.key)
 have a2:=bD x.val
 have a3:=aG x.off
 have a4:=aG x.prod
 have a5:=aG x.seq
 have b1:=dF x.key
 have c1:=iP x.key
 have e:g_ x=aj x.off++aA (aM x.key)++aA x.val++aj x.prod++aj x.seq:=rfl
 rw [e]
 simp only [Nat.zero_add,<- List.length_append,iQ]
 repeat' with_reducible apply And.intro
 all_goals first
  | with_reducible rfl
  | exact trivial
  | assumption
  | omega
  | (simp;done)
  | (simp;omega)
  | exact aO _ _ _
noncomputable def rcC (x:Rec):dO Tryz.prog:=⟨120,[.agg (encR x)],[],.need (Xg x) (fU (g_ x)),T.Sat.need fun h=>aaU x h⟩
theorem agJ (b:Bool):(fU (iW b)).Sat (au Tryz.prog 66 [.y (.bool b)] []):=by
 refine aR (ht:=hT _) Tryz.mixed rfl ?_
 rw [Vh b]
 unfold aeH
 have key:∀ v:Int,Mx 1 1 [AV.s (Value.int IntKind.u8 v)] (ah aD [v]):=by
  intro v k hk j hj
  obtain rfl:k=0:=by omega
  obtain rfl:j=0:=by omega
  exact ⟨by simp [ah,aD],rfl⟩
 cases b<;>simp [key]
noncomputable def boC (b:Bool):dO Tryz.prog:=⟨66,[.y (.bool b)],[],fU (iW b),agJ b⟩
def rV (l:List Rec) (k:Nat):List Int:=aj (l.length:Int)++(l.take k).flatMap g_
def lsT (b:Bool) (l:List Rec) (k:Nat):List AV:=mkT 23 [(0,bZ b l),(3,.own 0 1 0 (rV l k).length),(4,.y (.int .i64 k))]
def lsS (l:List Rec) (_:Unit):Exit×List AV×List aH:=(.exit 0,mkT 23 [(3,.own 0 1 0 (eD l).length)],[IB (eD l)])
noncomputable def ahi (l:List Rec) (k:Nat):aC Tryz.prog:=hh _ bB (cs1 65 5 5 (rcC (l.getD k default)) bA) bq
def ZU (b:Bool) (l:List Rec) (k:{ k:Nat // k<=l.length }):Prop :=
 (decide ((k.val:Int)<(l.length:Int))=true->(true&&decide ((k.val:Int)<(l.length:Int)))=true/\(((l.getD (Int.toNat (k.val:Int)) default).off=(l.getD k.val default).off/\(l.getD (Int.toNat (k.val:Int)) default).key=(l.getD k.val default).key/\(true=true/\(l.getD (Int.toNat (k.val:Int)) default).val.length=(l.getD k.val default).val.length/\ak (l.getD (Int.toNat (k.val:Int)) default).val.length 1 (ah aD (l.getD (Int.toNat (k.val:Int)) default).val) (ah aD (l.getD k.val default).val))/\(l.getD (Int.toNat (k.val:Int)) default).prod=(l.getD k.val default).prod/\(l.getD (Int.toNat (k.val:Int)) default).seq=(l.getD k.val default).seq/\True)/\True)/\True/\Xg (l.getD k.val default)/\(decide ((rV l k.val).length=(rV l k.val).length)&&decide ((rV l k.val).length+(g_ (l.getD k.val default)).length<=9223372036854775807)&&decide (((rV l k.val).length+(g_ (l.getD k.val default)).length)*1<=140737488355328))=true/\∃ (j:{ k:Nat // k<=l.length }),l.length - j.val<l.length - k.val/\(((b=b/\l.length=l.length/\ak l.length 5 (ah encR l) (ah encR l))/\(0=0/\(rV l k.val).length+(g_ (l.getD k.val default)).length=(rV l j.val).length)/\IntKind.i64.wrap ((k.val:Int)+1)=(j.val:Int)/\True)/\(((rV l k.val).length+(g_ (l.getD k.val default)).length=(rV l j.val).length/\ak ((rV l k.val).length+(g_ (l.getD k.val default)).length) 1 (aL (rV l k.val).length (ah aD (rV l k.val)) fun (k_1:Nat)=>ah aD (g_ (l.getD k.val default)) (0+k_1)) (ah aD (rV l j.val)))/\True)/\true=true)/\true=true/\()=())/\(decide ((k.val:Int)<(l.length:Int))=false->((0=0/\(rV l k.val).length=(eD l).length)/\True)/\(((rV l k.val).length=(eD l).length/\ak (rV l k.val).length 1 (ah aD (rV l k.val)) (ah aD (eD l)))/\True)/\true=true)
theorem SG (b:Bool) (l:List Rec) (k:{ k:Nat // k<=l.length }):(cu Tryz.prog (ahi l k.1) 65 3 (fun (k:{ k:Nat // k<=l.length })=>l.length - k.1) (fun k=>lsT b l k.1) (fun k=>[IB (rV l k.1)]) [0,1,2,3,4,5] (fun _=>.ret ()) (lsS l) k)=ZU b l k:=by kernel_rfl
noncomputable def lsH (b:Bool) (l:List Rec):aC Tryz.prog:=hh _ (nu 65 3 (eP (fun (k:{ k:Nat // k<=l.length })=>lsT b l k.1) (fun k=>[IB (rV l k.1)]) [0,1,2,3,4,5] (fun _=>.ret ()) (lsS l) ⟨0,Nat.zero_le _⟩) bB) (cs1 65 1 3 (y7 (l.length:Int)) bA) bq
def afp (b:Bool) (l:List Rec):Prop :=
 (IntKind.u64.wrap (l.length:Int)=(l.length:Int)/\True)/\True/\dL (l.length:Int)/\(((b=b/\l.length=l.length/\ak l.length 5 (ah encR l) (ah encR l))/\(0=0/\(aj (l.length:Int)).length=(rV l 0).length)/\(0:Int)=0/\True)/\(((aj (l.length:Int)).length=(rV l 0).length/\ak (aj (l.length:Int)).length 1 (ah aD (aj (l.length:Int))) (ah aD (rV l 0)))/\True)/\true=true)/\aQ Tryz.prog 65 3 (aS Tryz.prog 65 3) { t:=lsT b l (⟨0,lsH._proof_1 l⟩:{ k:Nat // k<=l.length }).val,m:=[IB (rV l (⟨0,lsH._proof_1 l⟩:{ k:Nat // k<=l.length }).val)],mv:=[]:St } (T.map (bU [0,1,2,3,4,5] (lsS l)) ((fun (x:{ k:Nat // k<=l.length })=>T.ret ()) (⟨0,lsH._proof_1 l⟩:{ k:Nat // k<=l.length })))/\(0=0/\(eD l).length=(eD l).length)/\((eD l).length=(eD l).length/\ak (eD l).length 1 (ah aD (eD l)) (ah aD (eD l)))/\True
theorem WR (b:Bool) (l:List Rec):(aZ Tryz.prog (lsH b l) 65 [bZ b l] [] (fU (eD l)))=afp b l:=by kernel_rfl
theorem VQ {α:Type} [Inhabited α] {l:List α} {k:Nat} (h:k<l.length):l.take (k+1)=l.take k++[l.getD k default]:=by
 rw [List.take_add_one,List.getElem?_eq_getElem h]
 simp [h]
theorem DR {α:Type} [Inhabited α] (f:α->List Int) {l:List α} {k:Nat} (h:k<l.length):(l.take (k+1)).flatMap f=(l.take k).flatMap f++f (l.getD k default):=by
 rw [VQ h,List.flatMap_append]
 simp
theorem R7 {α:Type} (f:α->List Int) (l:List α) (k:Nat):((l.take k).flatMap f).length<=(l.flatMap f).length:=by
 have h:l.flatMap f=(l.take k).flatMap f++(l.drop k).flatMap f:=by rw [<- List.flatMap_append,List.take_append_drop]
 rw [h,List.length_append]
 omega
structure FW (l:List Rec):Prop where
 n:l.length<=1099511627776
 b:(eD l).length<=17592186044416
 r:∀ k,k<l.length->Xg (l.getD k default)
theorem aaZ (l:List Rec) (k:Nat):(rV l k).length<=(eD l).length:=by
 have:=R7 g_ l k
 simp only [rV,eD,List.length_append]
 omega
theorem RU {l:List Rec} {k:Nat} (h:k<l.length):rV l (k+1)=rV l k++g_ (l.getD k default):=by
 unfold rV
 rw [DR _ h,List.append_assoc]
theorem UU (b:Bool) (l:List Rec) (h:FW l) (k:{ k:Nat // k<=l.length }):aQ Tryz.prog 65 3 (aS Tryz.prog 65 3) ⟨lsT b l k.1,[IB (rV l k.1)],[]⟩ (T.map (bU [0,1,2,3,4,5] (lsS l)) (.ret ())):=by
 refine dU (o:=fun _=>.ret ()) (qG:=fun (k:{ k:Nat // k<=l.length })=>lsT b l k.1) (stM:=fun k=>[IB (rV l k.1)]) Tryz.mixed (fun _=>rfl) (fun k=>(SG b l k).mpr ?_) k
 unfold ZU
 obtain ⟨k,hk⟩:=k
 have hn:=h.n
 by_cases hkl:k<l.length
 · have hr:=h.r k hkl
   have hex:∀ q:{ k:Nat // k<=l.length }->Prop,q ⟨k+1,hkl⟩->∃ j,q j:=fun q hq=>⟨_,hq⟩
   have hw:IntKind.i64.wrap ((k:Int)+1)=((k+1:Nat):Int):=by rw [wrap_i64 (by omega) (by omega)];omega
   have hs:=RU hkl
   have hl:=aaZ l (k+1)
   have hb:=h.b
   rw [hs] at hl
   simp only [Int.toNat_natCast,Nat.zero_add,<- List.length_append,iQ,<- hs] at *
   generalize l.getD k default=x at *
   refine ⟨fun _=>?_,fun h=>by simp at h;omega⟩
   repeat' with_reducible apply And.intro
   all_goals first
    | with_reducible rfl
    | exact trivial
    | assumption
    | omega
    | exact aO _ _ _
    | (simp;done)
    | (simp;omega)
    | (refine hex _ ?_;simp [hw];omega)
 · obtain rfl:k=l.length:=by omega
   refine ⟨fun h=>by simp at h,fun _=>?_⟩
   have e:rV l l.length=eD l:=by unfold rV eD;rw [List.take_length]
   simp [e]
theorem agA (b:Bool) (l:List Rec) (h:FW l):(fU (eD l)).Sat (au Tryz.prog 65 [bZ b l] []):=by
 refine aR (ht:=lsH b l) Tryz.mixed rfl ?_
 rw [WR b l]
 unfold afp
 have lp:=UU b l h ⟨0,Nat.zero_le _⟩
 have hn:=h.n
 have hw:IntKind.u64.wrap (l.length:Int)=(l.length:Int):=wrap_u64 (by omega) (by omega)
 have hu:dL (l.length:Int):=⟨by omega,by omega⟩
 have e:rV l 0=aj (l.length:Int):=by simp [rV]
 refine ⟨⟨hw,trivial⟩,trivial,hu,?_,lp,⟨rfl,rfl⟩,⟨rfl,aO _ _ _⟩,trivial⟩
 simp [e]
noncomputable def lsC (b:Bool) (l:List Rec):dO Tryz.prog:=⟨65,[bZ b l],[],.need (FW l) (fU (eD l)),T.Sat.need fun h=>agA b l h⟩
def OE (b:Bool) (p:Part) (l:List Int):List aH:=[.box 30 (aW b p),IB l]
def b1T (p:Part) (k:Nat):List AV:=mkT 97 [(1,.ptr 0 0 0 0),(3,.own 1 1 0 (jk p k).length),(4,.y (.int .i64 k))]
def b1S (b:Bool) (p:Part) (_:Unit):Exit×List AV×List aH:=(.exit 0,mkT 97 [(1,.ptr 0 0 0 0),(3,.own 1 1 0 (jk p p.prods.length).length)],OE b p (jk p p.prods.length))
noncomputable def b1H (p:Part) (k:Nat):aC Tryz.prog:=hh _ bB (cs1 17 9 3 (y7 (p.prods.getD k default).id) (cs1 17 10 3 (y7 (p.prods.getD k default).seq) (cs1 17 11 3 (boC (p.prods.getD k default).here) (cs1 17 12 3 (y7 (p.prods.getD k default).offset) bA)))) bq
def bX:List Nat:=[0,1,2,3,4,5,6,7,8,9,10,11,12]
def ae2 (b:Bool) (p:Part) (k:{ k:Nat // k<=p.prods.length }):Prop :=
 (decide ((↑k.val:Int)<(↑(List.length p.prods):Int))=true->(true&&decide ((↑k.val:Int)<(↑(List.length p.prods):Int)))=true/\((List.getD p.prods (Int.toNat (↑k.val:Int)) (@default P.Producer P.instInhabitedProducer)).id=(List.getD p.prods k.val (@default P.Producer P.instInhabitedProducer)).id/\True)/\True/\dL (List.getD p.prods k.val (@default P.Producer P.instInhabitedProducer)).id/\(decide (List.length (jk p k.val)=List.length (jk p k.val))&&decide (List.length (jk p k.val)+List.length (aj (List.getD p.prods k.val (@default P.Producer P.instInhabitedProducer)).id)<=(9223372036854775807:Nat))&&decide ((List.length (jk p k.val)+List.length (aj (List.getD p.prods k.val (@default P.Producer P.instInhabitedProducer)).id))*(1:Nat)<=(140737488355328:Nat)))=true/\((List.getD p.prods (Int.toNat (↑k.val:Int)) (@default P.Producer P.instInhabitedProducer)).seq=(List.getD p.prods k.val (@default P.Producer P.instInhabitedProducer)).seq/\True)/\True/\dL (List.getD p.prods k.val (@default P.Producer P.instInhabitedProducer)).seq/\(decide (List.length (jk p k.val)+List.length (aj (List.getD p.prods k.val (@default P.Producer P.instInhabitedProducer)).id)=List.length (jk p k.val)+List.length (aj (List.getD p.prods k.val (@default P.Producer P.instInhabitedProducer)).id))&&decide (List.length (jk p k.val)+List.length (aj (List.getD p.prods k.val (@default P.Producer P.instInhabitedProducer)).id)+List.length (aj (List.getD p.prods k.val (@default P.Producer P.instInhabitedProducer)).seq)<=(9223372036854775807:Nat))&&decide ((List.length (jk p k.val)+List.length (aj (List.getD p.prods k.val (@default P.Producer P.instInhabitedProducer)).id)+List.length (aj (List.getD p.prods k.val (@default P.Producer P.instInhabitedProducer)).seq))*(1:Nat)<=(140737488355328:Nat)))=true/\((List.getD p.prods (Int.toNat (↑k.val:Int)) (@default P.Producer P.instInhabitedProducer)).here=(List.getD p.prods k.val (@default P.Producer P.instInhabitedProducer)).here/\True)/\True/\(decide (List.length (jk p k.val)+List.length (aj (List.getD p.prods k.val (@default P.Producer P.instInhabitedProducer)).id)+List.length (aj (List.getD p.prods k.val (@default P.Producer P.instInhabitedProducer)).seq)=List.length (jk p k.val)+List.length (aj (List.getD p.prods k.val (@default P.Producer P.instInhabitedProducer)).id)+List.length (aj (List.getD p.prods k.val (@default P.Producer P.instInhabitedProducer)).seq))&&decide (List.length (jk p k.val)+List.length (aj (List.getD p.prods k.val (@default P.Producer P.instInhabitedProducer)).id)+List.length (aj (List.getD p.prods k.val (@default P.Producer P.instInhabitedProducer)).seq)+List.length [if (List.getD p.prods k.val (@default P.Producer P.instInhabitedProducer)).here=true then (1:Int) else (0:Int)]<=(9223372036854775807:Nat))&&decide ((List.length (jk p k.val)+List.length (aj (List.getD p.prods k.val (@default P.Producer P.instInhabitedProducer)).id)+List.length (aj (List.getD p.prods k.val (@default P.Producer P.instInhabitedProducer)).seq)+List.length [if (List.getD p.prods k.val (@default P.Producer P.instInhabitedProducer)).here=true then (1:Int) else (0:Int)])*(1:Nat)<=(140737488355328:Nat)))=true/\((List.getD p.prods (Int.toNat (↑k.val:Int)) (@default P.Producer P.instInhabitedProducer)).offset=(List.getD p.prods k.val (@default P.Producer P.instInhabitedProducer)).offset/\True)/\True/\dL (List.getD p.prods k.val (@default P.Producer P.instInhabitedProducer)).offset/\(decide (List.length (jk p k.val)+List.length (aj (List.getD p.prods k.val (@default P.Producer P.instInhabitedProducer)).id)+List.length (aj (List.getD p.prods k.val (@default P.Producer P.instInhabitedProducer)).seq)+List.length [if (List.getD p.prods k.val (@default P.Producer P.instInhabitedProducer)).here=true then (1:Int) else (0:Int)]=List.length (jk p k.val)+List.length (aj (List.getD p.prods k.val (@default P.Producer P.instInhabitedProducer)).id)+List.length (aj (List.getD p.prods k.val (@default P.Producer P.instInhabitedProducer)).seq)+List.length [if (List.getD p.prods k.val (@default P.Producer P.instInhabitedProducer)).here=true then (1:Int) else (0:Int)])&&decide (List.length (jk p k.val)+List.length (aj (List.getD p.prods k.val (@default P.Producer P.instInhabitedProducer)).id)+List.length (aj (List.getD p.prods k.val (@default P.Producer P.instInhabitedProducer)).seq)+List.length [if (List.getD p.prods k.val (@default P.Producer P.instInhabitedProducer)).here=true then (1:Int) else (0:Int)]+List.length (aj (List.getD p.prods k.val (@default P.Producer P.instInhabitedProducer)).offset)<=(9223372036854775807:Nat))&&decide ((List.length (jk p k.val)+List.length (aj (List.getD p.prods k.val (@default P.Producer P.instInhabitedProducer)).id)+List.length (aj (List.getD p.prods k.val (@default P.Producer P.instInhabitedProducer)).seq)+List.length [if (List.getD p.prods k.val (@default P.Producer P.instInhabitedProducer)).here=true then (1:Int) else (0:Int)]+List.length (aj (List.getD p.prods k.val (@default P.Producer P.instInhabitedProducer)).offset))*(1:Nat)<=(140737488355328:Nat)))=true/\∃ (j:{ k:Nat // k<=List.length p.prods }),List.length p.prods - j.val<List.length p.prods - k.val/\((((0:Nat)=(0:Nat)/\(0:Nat)=(0:Nat))/\((0:Nat)=(0:Nat)/\List.length (jk p k.val)+List.length (aj (List.getD p.prods k.val (@default P.Producer P.instInhabitedProducer)).id)+List.length (aj (List.getD p.prods k.val (@default P.Producer P.instInhabitedProducer)).seq)+List.length [if (List.getD p.prods k.val (@default P.Producer P.instInhabitedProducer)).here=true then (1:Int) else (0:Int)]+List.length (aj (List.getD p.prods k.val (@default P.Producer P.instInhabitedProducer)).offset)=List.length (jk p j.val))/\IntKind.wrap IntKind.i64 ((↑k.val:Int)+(1:Int))=(↑j.val:Int)/\True)/\((bE b b p p)/\(List.length (jk p k.val)+List.length (aj (List.getD p.prods k.val (@default P.Producer P.instInhabitedProducer)).id)+List.length (aj (List.getD p.prods k.val (@default P.Producer P.instInhabitedProducer)).seq)+List.length [if (List.getD p.prods k.val (@default P.Producer P.instInhabitedProducer)).here=true then (1:Int) else (0:Int)]+List.length (aj (List.getD p.prods k.val (@default P.Producer P.instInhabitedProducer)).offset)=List.length (jk p j.val)/\ak (List.length (jk p k.val)+List.length (aj (List.getD p.prods k.val (@default P.Producer P.instInhabitedProducer)).id)+List.length (aj (List.getD p.prods k.val (@default P.Producer P.instInhabitedProducer)).seq)+List.length [if (List.getD p.prods k.val (@default P.Producer P.instInhabitedProducer)).here=true then (1:Int) else (0:Int)]+List.length (aj (List.getD p.prods k.val (@default P.Producer P.instInhabitedProducer)).offset)) (1:Nat) (aL (List.length (jk p k.val)+List.length (aj (List.getD p.prods k.val (@default P.Producer P.instInhabitedProducer)).id)+List.length (aj (List.getD p.prods k.val (@default P.Producer P.instInhabitedProducer)).seq)+List.length [if (List.getD p.prods k.val (@default P.Producer P.instInhabitedProducer)).here=true then (1:Int) else (0:Int)]) (aL (List.length (jk p k.val)+List.length (aj (List.getD p.prods k.val (@default P.Producer P.instInhabitedProducer)).id)+List.length (aj (List.getD p.prods k.val (@default P.Producer P.instInhabitedProducer)).seq)) (aL (List.length (jk p k.val)+List.length (aj (List.getD p.prods k.val (@default P.Producer P.instInhabitedProducer)).id)) (aL (List.length (jk p k.val)) (ah aD (jk p k.val)) fun (k_1:Nat)=>ah aD (aj (List.getD p.prods k.val (@default P.Producer P.instInhabitedProducer)).id) ((0:Nat)+k_1)) fun (k_1:Nat)=>ah aD (aj (List.getD p.prods k.val (@default P.Producer P.instInhabitedProducer)).seq) ((0:Nat)+k_1)) fun (k_1:Nat)=>ah aD [if (List.getD p.prods k.val (@default P.Producer P.instInhabitedProducer)).here=true then (1:Int) else (0:Int)] ((0:Nat)+k_1)) fun (k_1:Nat)=>ah aD (aj (List.getD p.prods k.val (@default P.Producer P.instInhabitedProducer)).offset) ((0:Nat)+k_1)) (ah aD (jk p j.val)))/\True)/\true=true)/\true=true/\()=())/\(decide ((↑k.val:Int)<(↑(List.length p.prods):Int))=false->(((0:Nat)=(0:Nat)/\(0:Nat)=(0:Nat))/\((0:Nat)=(0:Nat)/\List.length (jk p k.val)=List.length (jk p (List.length p.prods)))/\True)/\((bE b b p p)/\(List.length (jk p k.val)=List.length (jk p (List.length p.prods))/\ak (List.length (jk p k.val)) (1:Nat) (ah aD (jk p k.val)) (ah aD (jk p (List.length p.prods))))/\True)/\true=true)
theorem VW (b:Bool) (p:Part) (k:{ k:Nat // k<=p.prods.length }):(cu Tryz.prog (b1H p k.1) 17 6 (fun (k:{ k:Nat // k<=p.prods.length })=>p.prods.length - k.1) (fun k=>b1T p k.1) (fun k=>OE b p (jk p k.1)) bX (fun _=>.ret ()) (b1S b p) k)=ae2 b p k:=by kernel_rfl
def b2T (p:Part) (k:Nat):List AV:=mkT 97 [(1,.ptr 0 0 0 0),(3,.own 1 1 0 (nC p k).length),(6,.y (.int .i64 k))]
def b2S (b:Bool) (p:Part) (_:Unit):Exit×List AV×List aH:=(.exit 2,mkT 97 [(3,.own 1 1 0 (fT p).length)],OE b p (fT p))
noncomputable def b2H (p:Part) (k:Nat):aC Tryz.prog:=hh _ bB (cs1 17 17 8 (Vs true (aM (p.cons.getD k default).name)) (cs1 17 18 7 (y7 (p.cons.getD k default).off) bA)) bq
def afx (b:Bool) (p:Part) (k:{ k:Nat // k<=p.cons.length }):Prop :=
 (decide ((k.val:Int)<(p.cons.length:Int))=true->(true&&decide ((k.val:Int)<(p.cons.length:Int)))=true/\((true=true/\ByteArray.size (p.cons.getD (Int.toNat (k.val:Int)) default).name=(aM (p.cons.getD k.val default).name).length/\ak (ByteArray.size (p.cons.getD (Int.toNat (k.val:Int)) default).name) 1 (fun (k_1 x:Nat)=>AV.y (.int .u8 ((UInt8.toNat ((p.cons.getD (Int.toNat (k.val:Int)) default).name.data.toList.getD k_1 (0:UInt8))):Int))) (ah aD (aM (p.cons.getD k.val default).name)))/\True)/\True/\(aM (p.cons.getD k.val default).name).length<=1099511627776/\(decide ((nC p k.val).length=(nC p k.val).length)&&decide ((nC p k.val).length+(aA (aM (p.cons.getD k.val default).name)).length<=9223372036854775807)&&decide (((nC p k.val).length+(aA (aM (p.cons.getD k.val default).name)).length)*1<=140737488355328))=true/\(true&&decide ((k.val:Int)<(p.cons.length:Int)))=true/\((p.cons.getD (Int.toNat (k.val:Int)) default).off=(p.cons.getD k.val default).off/\True)/\True/\dL (p.cons.getD k.val default).off/\(decide ((nC p k.val).length+(aA (aM (p.cons.getD k.val default).name)).length=(nC p k.val).length+(aA (aM (p.cons.getD k.val default).name)).length)&&decide ((nC p k.val).length+(aA (aM (p.cons.getD k.val default).name)).length+(aj (p.cons.getD k.val default).off).length<=9223372036854775807)&&decide (((nC p k.val).length+(aA (aM (p.cons.getD k.val default).name)).length+(aj (p.cons.getD k.val default).off).length)*1<=140737488355328))=true/\∃ (j:{ k:Nat // k<=p.cons.length }),p.cons.length - j.val<p.cons.length - k.val/\(((0=0/\0=0)/\(0=0/\(nC p k.val).length+(aA (aM (p.cons.getD k.val default).name)).length+(aj (p.cons.getD k.val default).off).length=(nC p j.val).length)/\IntKind.i64.wrap ((k.val:Int)+1)=(j.val:Int)/\True)/\((bE b b p p)/\((nC p k.val).length+(aA (aM (p.cons.getD k.val default).name)).length+(aj (p.cons.getD k.val default).off).length=(nC p j.val).length/\ak ((nC p k.val).length+(aA (aM (p.cons.getD k.val default).name)).length+(aj (p.cons.getD k.val default).off).length) 1 (aL ((nC p k.val).length+(aA (aM (p.cons.getD k.val default).name)).length) (aL (nC p k.val).length (ah aD (nC p k.val)) fun (k_1:Nat)=>ah aD (aA (aM (p.cons.getD k.val default).name)) (0+k_1)) fun (k_1:Nat)=>ah aD (aj (p.cons.getD k.val default).off) (0+k_1)) (ah aD (nC p j.val)))/\True)/\true=true)/\true=true/\()=())/\(decide ((k.val:Int)<(p.cons.length:Int))=false->((0=0/\(nC p k.val).length=(fT p).length)/\True)/\((bE b b p p)/\((nC p k.val).length=(fT p).length/\ak (nC p k.val).length 1 (ah aD (nC p k.val)) (ah aD (fT p)))/\True)/\true=true)
theorem Ya (b:Bool) (p:Part) (k:{ k:Nat // k<=p.cons.length }):(cu Tryz.prog (b2H p k.1) 17 15 (fun (k:{ k:Nat // k<=p.cons.length })=>p.cons.length - k.1) (fun k=>b2T p k.1) (fun k=>OE b p (nC p k.1)) bX (fun _=>.ret ()) (b2S b p) k)=afx b p k:=by kernel_rfl
noncomputable def Hg (b:Bool) (p:Part):aC Tryz.prog:=hh _ (nu 17 6 (eP (fun (k:{ k:Nat // k<=p.prods.length })=>b1T p k.1) (fun k=>OE b p (jk p k.1)) bX (fun _=>.ret ()) (b1S b p) ⟨0,Nat.zero_le _⟩) (nu 17 15 (eP (fun (k:{ k:Nat // k<=p.cons.length })=>b2T p k.1) (fun k=>OE b p (nC p k.1)) bX (fun _=>.ret ()) (b2S b p) ⟨0,Nat.zero_le _⟩) bB))
 (cs1 17 1 2 (rgC p.rng) (cs1 17 1 5 (y7 p.epoch) (cs1 17 2 3 (y7 p.frozen) (cs1 17 3 3 (lsC b p.recs) (cs1 17 4 5 (y7 (p.prods.length:Int)) (cs1 17 13 5 (y7 (p.cons.length:Int)) bA)))))) bq
def Ht (b:Bool) (p:Part):Prop :=
 ((p.rng.lo=p.rng.lo/\p.rng.hi=p.rng.hi/\True)/\True)/\True/\RgOk p.rng/\(p.epoch=p.epoch/\True)/\True/\dL p.epoch/\(decide ((eu p.rng).length=(eu p.rng).length)&&decide ((eu p.rng).length+(aj p.epoch).length<=9223372036854775807)&&decide (((eu p.rng).length+(aj p.epoch).length)*1<=140737488355328))=true/\(p.frozen=p.frozen/\True)/\True/\dL p.frozen/\(decide ((eu p.rng).length+(aj p.epoch).length=(eu p.rng).length+(aj p.epoch).length)&&decide ((eu p.rng).length+(aj p.epoch).length+(aj p.frozen).length<=9223372036854775807)&&decide (((eu p.rng).length+(aj p.epoch).length+(aj p.frozen).length)*1<=140737488355328))=true/\((b=b/\p.recs.length=p.recs.length/\ak p.recs.length 5 (ah encR p.recs) (ah encR p.recs))/\True)/\True/\FW p.recs/\(decide ((eu p.rng).length+(aj p.epoch).length+(aj p.frozen).length=(eu p.rng).length+(aj p.epoch).length+(aj p.frozen).length)&&decide ((eu p.rng).length+(aj p.epoch).length+(aj p.frozen).length+(eD p.recs).length<=9223372036854775807)&&decide (((eu p.rng).length+(aj p.epoch).length+(aj p.frozen).length+(eD p.recs).length)*1<=140737488355328))=true/\(IntKind.u64.wrap (p.prods.length:Int)=(p.prods.length:Int)/\True)/\True/\dL (p.prods.length:Int)/\(decide ((eu p.rng).length+(aj p.epoch).length+(aj p.frozen).length+(eD p.recs).length=(eu p.rng).length+(aj p.epoch).length+(aj p.frozen).length+(eD p.recs).length)&&decide ((eu p.rng).length+(aj p.epoch).length+(aj p.frozen).length+(eD p.recs).length+(aj (p.prods.length:Int)).length<=9223372036854775807)&&decide (((eu p.rng).length+(aj p.epoch).length+(aj p.frozen).length+(eD p.recs).length+(aj (p.prods.length:Int)).length)*1<=140737488355328))=true/\(((0=0/\0=0)/\(0=0/\(eu p.rng).length+(aj p.epoch).length+(aj p.frozen).length+(eD p.recs).length+(aj (p.prods.length:Int)).length=(jk p 0).length)/\(0:Int)=0/\True)/\((bE b b p p)/\((eu p.rng).length+(aj p.epoch).length+(aj p.frozen).length+(eD p.recs).length+(aj (p.prods.length:Int)).length=(jk p 0).length/\ak ((eu p.rng).length+(aj p.epoch).length+(aj p.frozen).length+(eD p.recs).length+(aj (p.prods.length:Int)).length) 1 (aL ((eu p.rng).length+(aj p.epoch).length+(aj p.frozen).length+(eD p.recs).length) (aL ((eu p.rng).length+(aj p.epoch).length+(aj p.frozen).length) (aL ((eu p.rng).length+(aj p.epoch).length) (aL (eu p.rng).length (ah aD (eu p.rng)) fun (k:Nat)=>ah aD (aj p.epoch) (0+k)) fun (k:Nat)=>ah aD (aj p.frozen) (0+k)) fun (k:Nat)=>ah aD (eD p.recs) (0+k)) fun (k:Nat)=>ah aD (aj (p.prods.length:Int)) (0+k)) (ah aD (jk p 0)))/\True)/\true=true)/\aQ Tryz.prog 17 6 (aS Tryz.prog 17 6) { t:=b1T p (⟨0,Hg._proof_1 p⟩:{ k:Nat // k<=p.prods.length }).val,m:=OE b p (jk p (⟨0,Hg._proof_1 p⟩:{ k:Nat // k<=p.prods.length }).val),mv:=[]:St } (T.map (bU bX (b1S b p)) ((fun (x:{ k:Nat // k<=p.prods.length })=>T.ret ()) (⟨0,Hg._proof_1 p⟩:{ k:Nat // k<=p.prods.length })))/\(IntKind.u64.wrap (p.cons.length:Int)=(p.cons.length:Int)/\True)/\True/\dL (p.cons.length:Int)/\(decide ((jk p p.prods.length).length=(jk p p.prods.length).length)&&decide ((jk p p.prods.length).length+(aj (p.cons.length:Int)).length<=9223372036854775807)&&decide (((jk p p.prods.length).length+(aj (p.cons.length:Int)).length)*1<=140737488355328))=true/\(((0=0/\0=0)/\(0=0/\(jk p p.prods.length).length+(aj (p.cons.length:Int)).length=(nC p 0).length)/\(0:Int)=0/\True)/\((bE b b p p)/\((jk p p.prods.length).length+(aj (p.cons.length:Int)).length=(nC p 0).length/\ak ((jk p p.prods.length).length+(aj (p.cons.length:Int)).length) 1 (aL (jk p p.prods.length).length (ah aD (jk p p.prods.length)) fun (k:Nat)=>ah aD (aj (p.cons.length:Int)) (0+k)) (ah aD (nC p 0)))/\True)/\true=true)/\aQ Tryz.prog 17 15 (aS Tryz.prog 17 15) { t:=b2T p (⟨0,Hg._proof_2 p⟩:{ k:Nat // k<=p.cons.length }).val,m:=OE b p (nC p (⟨0,Hg._proof_2 p⟩:{ k:Nat // k<=p.cons.length }).val),mv:=[]:St } (T.map (bU bX (b2S b p)) ((fun (x:{ k:Nat // k<=p.cons.length })=>T.ret ()) (⟨0,Hg._proof_2 p⟩:{ k:Nat // k<=p.cons.length })))/\(0=0/\(fT p).length=(fT p).length)/\((fT p).length=(fT p).length/\ak (fT p).length 1 (ah aD (fT p)) (ah aD (fT p)))/\True
theorem vG (b:Bool) (p:Part):(aZ Tryz.prog (Hg b p) 17 [.agg (aW b p)] [] (fU (fT p)))=Ht b p:=by kernel_rfl
structure JV (p:Part):Prop where
 rg:RgOk p.rng
 ep:dL p.epoch
 fr:dL p.frozen
 ls:FW p.recs
 pn:p.prods.length<=1099511627776
 cn:p.cons.length<=1099511627776
 n:(fT p).length<=70368744177664
 pr:∀ k,k<p.prods.length->dL (p.prods.getD k default).id/\dL (p.prods.getD k default).seq/\dL (p.prods.getD k default).offset
 co:∀ k,k<p.cons.length->(p.cons.getD k default).name.size<=1099511627776/\dL (p.cons.getD k default).off
theorem Ki (p:Part) (k:Nat):(jk p k).length<=(fT p).length:=by
 have:=R7 kN p.prods k
 simp only [fT,nC,jk,List.length_append,List.take_length]
 omega
theorem O1 (p:Part) (k:Nat):(nC p k).length<=(fT p).length:=by
 have:=R7 pR p.cons k
 simp only [fT,nC,List.length_append,List.take_length]
 omega
theorem Sc {p:Part} {k:Nat} (h:k<p.prods.length):jk p (k+1)=jk p k++aj (p.prods.getD k default).id++aj (p.prods.getD k default).seq++iW (p.prods.getD k default).here++aj (p.prods.getD k default).offset:=by
 unfold jk
 rw [DR _ h]
 simp only [kN,List.append_assoc]
theorem TP {p:Part} {k:Nat} (h:k<p.cons.length):nC p (k+1)=nC p k++aA (aM (p.cons.getD k default).name)++aj (p.cons.getD k default).off:=by
 unfold nC
 rw [DR _ h]
 simp only [pR,List.append_assoc]
attribute [local irreducible] jk nC fT eu eD aj aA aM iW Jh
theorem abC (b:Bool):iW b=[if b=true then 1 else 0]:=by unfold iW;rfl
theorem Ye (b:Bool) (p:Part) (h:JV p) (k:{ k:Nat // k<=p.prods.length }):aQ Tryz.prog 17 6 (aS Tryz.prog 17 6) ⟨b1T p k.1,OE b p (jk p k.1),[]⟩ (T.map (bU bX (b1S b p)) (.ret ())):=by
 refine dU (o:=fun _=>.ret ()) (qG:=fun (k:{ k:Nat // k<=p.prods.length })=>b1T p k.1) (stM:=fun k=>OE b p (jk p k.1)) Tryz.mixed (fun _=>rfl) (fun k=>(VW b p k).mpr ?_) k
 unfold ae2
 obtain ⟨k,hk⟩:=k
 have hn:=h.n
 have hpn:=h.pn
 by_cases hkl:k<p.prods.length
 · obtain ⟨r1,r2,r3⟩:=h.pr k hkl
   have hex:∀ q:{ k:Nat // k<=p.prods.length }->Prop,q ⟨k+1,hkl⟩->∃ j,q j:=fun q hq=>⟨_,hq⟩
   have hw:IntKind.i64.wrap ((k:Int)+1)=((k+1:Nat):Int):=by rw [wrap_i64 (by omega) (by omega)];omega
   have hs:=Sc hkl
   have hl:=Ki p k
   simp only [Int.toNat_natCast,Nat.zero_add,<- List.length_append,iQ] at *
   generalize p.prods.getD k default=x at *
   have l1:=aG x.id
   have l2:=aG x.seq
   have l3:=aG x.offset
   have l4:=abC x.here
   rw [l4] at hs
   clear l4
   have hs':(jk p (k+1)).length=(jk p k).length+(aj x.id).length+(aj x.seq).length+1+(aj x.offset).length:=by rw [hs];simp;omega
   refine ⟨fun _=>?_,fun h=>by simp at h;omega⟩
   repeat' with_reducible apply And.intro
   all_goals first
    | with_reducible rfl
    | exact trivial
    | assumption
    | omega
    | exact aO _ _ _
    | (simp;done)
    | (simp;omega)
    | (refine hex _ ?_
       rw [<- hs]
       simp [hw]
       omega)
 · obtain rfl:k=p.prods.length:=by omega
   refine ⟨fun h=>by simp at h,fun _=>?_⟩
   simp
theorem Yj (b:Bool) (p:Part) (h:JV p) (k:{ k:Nat // k<=p.cons.length }):aQ Tryz.prog 17 15 (aS Tryz.prog 17 15) ⟨b2T p k.1,OE b p (nC p k.1),[]⟩ (T.map (bU bX (b2S b p)) (.ret ())):=by
 refine dU (o:=fun _=>.ret ()) (qG:=fun (k:{ k:Nat // k<=p.cons.length })=>b2T p k.1) (stM:=fun k=>OE b p (nC p k.1)) Tryz.mixed (fun _=>rfl) (fun k=>(Ya b p k).mpr ?_) k
 unfold afx
 obtain ⟨k,hk⟩:=k
 have hn:=h.n
 have hcn:=h.cn
 by_cases hkl:k<p.cons.length
 · obtain ⟨r1,r2⟩:=h.co k hkl
   have hex:∀ q:{ k:Nat // k<=p.cons.length }->Prop,q ⟨k+1,hkl⟩->∃ j,q j:=fun q hq=>⟨_,hq⟩
   have hw:IntKind.i64.wrap ((k:Int)+1)=((k+1:Nat):Int):=by rw [wrap_i64 (by omega) (by omega)];omega
   have hs:=TP hkl
   have hl:=O1 p k
   simp only [Int.toNat_natCast,Nat.zero_add,<- List.length_append,iQ] at *
   generalize p.cons.getD k default=x at *
   have l1:=aG x.off
   have l2:=bD (aM x.name)
   have l3:=dF x.name
   have c1:=iP x.name
   have hs':(nC p (k+1)).length=(nC p k).length+(aA (aM x.name)).length+(aj x.off).length:=by rw [hs];simp;omega
   refine ⟨fun _=>?_,fun h=>by simp at h;omega⟩
   repeat' with_reducible apply And.intro
   all_goals first
    | with_reducible rfl
    | exact trivial
    | assumption
    | omega
    | exact aO _ _ _
    | (simp;done)
    | (simp;omega)
    | (refine hex _ ?_
       rw [<- hs]
       simp [hw]
       omega)
 · obtain rfl:k=p.cons.length:=by omega
   refine ⟨fun h=>by simp at h,fun _=>?_⟩
   simp [fT]
theorem Rh (b:Bool) (p:Part) (h:JV p):(fU (fT p)).Sat (au Tryz.prog 17 [.agg (aW b p)] []):=by
 refine aR (ht:=Hg b p) Tryz.mixed rfl ?_
 rw [vG b p]
 unfold Ht
 have nu:=Ye b p h ⟨0,Nat.zero_le _⟩
 have lp2:=Yj b p h ⟨0,Nat.zero_le _⟩
 obtain ⟨h1,h2,h3,h4,h5,h6,h7,h8,h9⟩:=h
 have w1:IntKind.u64.wrap (p.prods.length:Int)=(p.prods.length:Int):=wrap_u64 (by omega) (by omega)
 have w2:IntKind.u64.wrap (p.cons.length:Int)=(p.cons.length:Int):=wrap_u64 (by omega) (by omega)
 have u1:dL (p.prods.length:Int):=⟨by omega,by omega⟩
 have u2:dL (p.cons.length:Int):=⟨by omega,by omega⟩
 have e1:jk p 0=eu p.rng++aj p.epoch++aj p.frozen++eD p.recs++aj (p.prods.length:Int):=by simp [jk,Jh]
 have e2:nC p 0=jk p p.prods.length++aj (p.cons.length:Int):=by simp [nC]
 have n1:(jk p 0).length=(eu p.rng).length+(aj p.epoch).length+(aj p.frozen).length+(eD p.recs).length+(aj (p.prods.length:Int)).length:=by rw [e1];simp only [List.length_append]
 have n2:(nC p 0).length=(jk p p.prods.length).length+(aj (p.cons.length:Int)).length:=by rw [e2];simp only [List.length_append]
 have m1:=O1 p 0
 have m2:=Ki p p.prods.length
 have m3:=Ki p 0
 simp only [Nat.zero_add,<- List.length_append,iQ,w1,w2,<- e1,<- e2]
 repeat' with_reducible apply And.intro
 all_goals first
  | with_reducible rfl
  | exact trivial
  | assumption
  | omega
  | exact aO _ _ _
  | (simp;done)
  | (simp;omega)
noncomputable def byC (b:Bool) (p:Part):dO Tryz.prog:=⟨17,[.agg (aW b p)],[],.need (JV p) (fU (fT p)),T.Sat.need fun h=>Rh b p h⟩
end Q
end Go.Proofs.YtnbhdjadlbhknaaGreatDoor
