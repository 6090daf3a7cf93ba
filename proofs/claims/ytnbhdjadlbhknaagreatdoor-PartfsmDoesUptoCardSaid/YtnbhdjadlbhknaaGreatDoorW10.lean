import Derived.Test.YtnbhdjadlbhknaaGreatDoorW6
import Derived.Test.YtnbhdjadlbhknaaGreatDoorW7
import Derived.Test.YtnbhdjadlbhknaaGreatDoorW8
import Derived.Test.YtnbhdjadlbhknaaGreatDoorW9
set_option linter.unusedVariables false
set_option linter.unusedSimpArgs false
set_option maxRecDepth 1000000
namespace Go.Proofs.YtnbhdjadlbhknaaGreatDoor
open Go.Ax
namespace J
def PS (l:List Int) (s:RS) (h:Oe) (a:List P.Producer) (c:List Con):List ay:=[.box 30 [.s (.string ByteArray.empty),.s (.string ByteArray.empty),.s (.int .u64 0),.s (.int .u64 0),.s (.slice none 0 0),.s (.slice none 0 0),.s (.slice none 0 0)],.box 95 [h_ true l,.y (.int .i64 s.at_),.y (.int .i64 s.e),.y (.int .i64 s.bad)],.row 80 4 a.length none (ah P.ak a),FH c,.box 30 [.y (.string h.rng.lo),.y (.string h.rng.hi),.y (.int .u64 h.epoch),.y (.int .u64 h.frozen),dK false h.recs,.own 2 4 0 a.length,.own 3 2 0 c.length]]
def dpT (m n:Nat):List AV:=mkT 95 [(2,.ptr 0 0 0 0),(4,qP),(5,.ptr 4 0 0 0),(6,.y (.int .i64 m)),(7,.y (.int .i64 ((m - n:Nat):Int)))]
def dcT (m n:Nat):List AV:=mkT 95 [(2,.ptr 0 0 0 0),(4,qP),(5,.ptr 4 0 0 0),(6,.y (.int .i64 m)),(9,.y (.int .i64 ((m - n:Nat):Int)))]
def deT:List AV:=mkT 95 [(2,.ptr 0 0 0 0),(4,qP),(5,.ptr 4 0 0 0)]
def dpS (l:List Int) (h:Oe) (t:List P.Producer) (s':RS) (_:Unit):Exit×List AV×List ay:=(.exit 0,deT,PS l s' h t [])
def dcS (l:List Int) (h:Oe) (p:List P.Producer) (t:List Con) (s':RS) (_:Unit):Exit×List AV×List ay:=(.exit 2,deT,PS l s' h p t)
noncomputable def dpH (l:List Int) (s:RS) (a:Int) (s1:RS) (b:Int) (s2:RS) (c:Bool) (s3:RS) (d:Int) (s4:RS):aC Tryz.prog:=JK (dO (hh _ bO (cs1 16 10 1 (Wj l s a s1) (cs1 16 11 1 (Wj l s1 b s2) (cs1 16 12 1 (qbC l s2 c s3) (cs1 16 13 1 (Wj l s3 d s4) bM)))) bL) (uL 16 14 6 4 noSh))
def ags (l:List Int) (h:Oe) (m:Nat) (t:List P.Producer) (s':RS) (q:DQ (gF l) l m t s') (a:Int) (s1:RS) (b:Int) (s2:RS) (c:Bool) (s3:RS) (d:Int) (s4:RS):Prop :=
 (decide ((↑(m - q.n):Int)<(↑m:Int))=true->((q.s.e==(0:Int))=true->(((0:Nat)=(0:Nat)/\(0:Nat)=(0:Nat))/\True)/\((dW l q.s q.s)/\True)/\fq l q.s/\(a,s1)=aR l q.s/\(((0:Nat)=(0:Nat)/\(0:Nat)=(0:Nat))/\True)/\((dW l s1 s1)/\True)/\fq l s1/\(b,s2)=aR l s1/\(((0:Nat)=(0:Nat)/\(0:Nat)=(0:Nat))/\True)/\((dW l s2 s2)/\True)/\fq l s2/\(c,s3)=gZ l s2/\(((0:Nat)=(0:Nat)/\(0:Nat)=(0:Nat))/\True)/\((dW l s3 s3)/\True)/\fq l s3/\(d,s4)=aR l s3/\(decide (List.length q.a=List.length q.a)&&decide (List.length q.a+(1:Nat)<=(9223372036854775807:Nat))&&decide ((List.length q.a+(1:Nat))*(32:Nat)<=(140737488355328:Nat)))=true/\∃ (j:DQ (gF l) l m t s'),j.n<q.n/\((((0:Nat)=(0:Nat)/\(0:Nat)=(0:Nat))/\((0:Nat)=(0:Nat)/\(0:Nat)=(0:Nat))/\((0:Nat)=(0:Nat)/\(0:Nat)=(0:Nat))/\(↑m:Int)=(↑m:Int)/\IntKind.wrap IntKind.i64 ((↑(m - q.n):Int)+(1:Int))=(↑(m - j.n):Int)/\True)/\((ByteArray.empty=ByteArray.empty/\ByteArray.empty=ByteArray.empty/\(0:Int)=(0:Int)/\(0:Int)=(0:Int)/\True/\True/\True/\True)/\(dW l s4 j.s)/\(List.length q.a+(1:Nat)=List.length j.a/\aj (List.length q.a+(1:Nat)) (4:Nat) (aY (List.length q.a) (ah P.ak q.a) fun (k j:Nat)=>Ax.get [AV.y (Value.int IntKind.u64 a),AV.y (Value.int IntKind.u64 b),AV.y (Value.bool c),AV.y (Value.int IntKind.u64 d)] (k*(4:Nat)+j)) (ah P.ak j.a))/\((0:Nat)=(0:Nat)/\aj (0:Nat) (2:Nat) (ah aD []) (ah aD []))/\(h.rng.lo=h.rng.lo/\h.rng.hi=h.rng.hi/\h.epoch=h.epoch/\h.frozen=h.frozen/\(false=false/\List.length h.recs=List.length h.recs/\aj (List.length h.recs) (5:Nat) (ah encR h.recs) (ah encR h.recs))/\((0:Nat)=(0:Nat)/\List.length q.a+(1:Nat)=List.length j.a)/\((0:Nat)=(0:Nat)/\(0:Nat)=(0:Nat))/\True)/\True)/\true=true)/\true=true/\()=())/\((q.s.e==(0:Int))=false->(((0:Nat)=(0:Nat)/\(0:Nat)=(0:Nat))/\((0:Nat)=(0:Nat)/\(0:Nat)=(0:Nat))/\((0:Nat)=(0:Nat)/\(0:Nat)=(0:Nat))/\True)/\((ByteArray.empty=ByteArray.empty/\ByteArray.empty=ByteArray.empty/\(0:Int)=(0:Int)/\(0:Int)=(0:Int)/\True/\True/\True/\True)/\(dW l q.s s')/\(List.length q.a=List.length t/\aj (List.length q.a) (4:Nat) (ah P.ak q.a) (ah P.ak t))/\((0:Nat)=(0:Nat)/\aj (0:Nat) (2:Nat) (ah aD []) (ah aD []))/\(h.rng.lo=h.rng.lo/\h.rng.hi=h.rng.hi/\h.epoch=h.epoch/\h.frozen=h.frozen/\(false=false/\List.length h.recs=List.length h.recs/\aj (List.length h.recs) (5:Nat) (ah encR h.recs) (ah encR h.recs))/\((0:Nat)=(0:Nat)/\List.length q.a=List.length t)/\((0:Nat)=(0:Nat)/\(0:Nat)=(0:Nat))/\True)/\True)/\true=true))/\(decide ((↑(m - q.n):Int)<(↑m:Int))=false->(((0:Nat)=(0:Nat)/\(0:Nat)=(0:Nat))/\((0:Nat)=(0:Nat)/\(0:Nat)=(0:Nat))/\((0:Nat)=(0:Nat)/\(0:Nat)=(0:Nat))/\True)/\((ByteArray.empty=ByteArray.empty/\ByteArray.empty=ByteArray.empty/\(0:Int)=(0:Int)/\(0:Int)=(0:Int)/\True/\True/\True/\True)/\(dW l q.s s')/\(List.length q.a=List.length t/\aj (List.length q.a) (4:Nat) (ah P.ak q.a) (ah P.ak t))/\((0:Nat)=(0:Nat)/\aj (0:Nat) (2:Nat) (ah aD []) (ah aD []))/\(h.rng.lo=h.rng.lo/\h.rng.hi=h.rng.hi/\h.epoch=h.epoch/\h.frozen=h.frozen/\(false=false/\List.length h.recs=List.length h.recs/\aj (List.length h.recs) (5:Nat) (ah encR h.recs) (ah encR h.recs))/\((0:Nat)=(0:Nat)/\List.length q.a=List.length t)/\((0:Nat)=(0:Nat)/\(0:Nat)=(0:Nat))/\True)/\True)/\true=true)
theorem Xw (l:List Int) (h:Oe) (m:Nat) (t:List P.Producer) (s':RS) (q:DQ (gF l) l m t s') (a:Int) (s1:RS) (b:Int) (s2:RS) (c:Bool) (s3:RS) (d:Int) (s4:RS):(bR Tryz.prog (dpH l q.s a s1 b s2 c s3 d s4) 16 8 (fun q:DQ (gF l) l m t s'=>q.n) (fun q=>dpT m q.n) (fun q=>PS l q.s h q.a []) [2,5,6] (fun _=>.ret ()) (dpS l h t s') q)=ags l h m t s' q a s1 b s2 c s3 d s4:=by kernel_rfl
noncomputable def dcH (l:List Int) (s:RS) (a:List Int) (s1:RS) (b:Int) (s2:RS):aC Tryz.prog:=JK (dO (hh _ bO (cs1 16 19 1 (qyC l s 32 a s1) (cs1 16 20 1 (Wj l s1 b s2) bM)) bL) (uL 16 21 6 5 noSh))
def agG (l:List Int) (h:Oe) (p:List P.Producer) (m:Nat) (t:List Con) (s':RS) (q:DQ (jE l) l m t s') (a:List Int) (s1:RS) (b:Int) (s2:RS):Prop :=
 (decide ((↑(m - q.n):Int)<(↑m:Int))=true->((q.s.e==(0:Int))=true->(((0:Nat)=(0:Nat)/\(0:Nat)=(0:Nat))/\(32:Int)=(32:Int)/\True)/\((dW l q.s q.s)/\True)/\(fq l q.s/\yI (32:Int))/\(a,s1)=dh l q.s (32:Int)/\(∀ (k:Nat),k<List.length a->true=true)/\(((0:Nat)=(0:Nat)/\(0:Nat)=(0:Nat))/\True)/\((dW l s1 s1)/\True)/\fq l s1/\(b,s2)=aR l s1/\(decide (List.length q.a=List.length q.a)&&decide (List.length q.a+(1:Nat)<=(9223372036854775807:Nat))&&decide ((List.length q.a+(1:Nat))*(24:Nat)<=(140737488355328:Nat)))=true/\∃ (j:DQ (jE l) l m t s'),j.n<q.n/\((((0:Nat)=(0:Nat)/\(0:Nat)=(0:Nat))/\((0:Nat)=(0:Nat)/\(0:Nat)=(0:Nat))/\((0:Nat)=(0:Nat)/\(0:Nat)=(0:Nat))/\(↑m:Int)=(↑m:Int)/\IntKind.wrap IntKind.i64 ((↑(m - q.n):Int)+(1:Int))=(↑(m - j.n):Int)/\True)/\((ByteArray.empty=ByteArray.empty/\ByteArray.empty=ByteArray.empty/\(0:Int)=(0:Int)/\(0:Int)=(0:Int)/\True/\True/\True/\True)/\(dW l s2 j.s)/\(List.length p=List.length p/\aj (List.length p) (4:Nat) (ah P.ak p) (ah P.ak p))/\(List.length q.a+(1:Nat)=List.length j.a/\aj (List.length q.a+(1:Nat)) (2:Nat) (aY (List.length q.a) (ah aD q.a) fun (k j:Nat)=>Ax.get [AV.y (Value.string (GI (List.length a) (ah aJ a))),AV.y (Value.int IntKind.u64 b)] (k*(2:Nat)+j)) (ah aD j.a))/\(h.rng.lo=h.rng.lo/\h.rng.hi=h.rng.hi/\h.epoch=h.epoch/\h.frozen=h.frozen/\(false=false/\List.length h.recs=List.length h.recs/\aj (List.length h.recs) (5:Nat) (ah encR h.recs) (ah encR h.recs))/\((0:Nat)=(0:Nat)/\List.length p=List.length p)/\((0:Nat)=(0:Nat)/\List.length q.a+(1:Nat)=List.length j.a)/\True)/\True)/\true=true)/\true=true/\()=())/\((q.s.e==(0:Int))=false->(((0:Nat)=(0:Nat)/\(0:Nat)=(0:Nat))/\((0:Nat)=(0:Nat)/\(0:Nat)=(0:Nat))/\((0:Nat)=(0:Nat)/\(0:Nat)=(0:Nat))/\True)/\((ByteArray.empty=ByteArray.empty/\ByteArray.empty=ByteArray.empty/\(0:Int)=(0:Int)/\(0:Int)=(0:Int)/\True/\True/\True/\True)/\(dW l q.s s')/\(List.length p=List.length p/\aj (List.length p) (4:Nat) (ah P.ak p) (ah P.ak p))/\(List.length q.a=List.length t/\aj (List.length q.a) (2:Nat) (ah aD q.a) (ah aD t))/\(h.rng.lo=h.rng.lo/\h.rng.hi=h.rng.hi/\h.epoch=h.epoch/\h.frozen=h.frozen/\(false=false/\List.length h.recs=List.length h.recs/\aj (List.length h.recs) (5:Nat) (ah encR h.recs) (ah encR h.recs))/\((0:Nat)=(0:Nat)/\List.length p=List.length p)/\((0:Nat)=(0:Nat)/\List.length q.a=List.length t)/\True)/\True)/\true=true))/\(decide ((↑(m - q.n):Int)<(↑m:Int))=false->(((0:Nat)=(0:Nat)/\(0:Nat)=(0:Nat))/\((0:Nat)=(0:Nat)/\(0:Nat)=(0:Nat))/\((0:Nat)=(0:Nat)/\(0:Nat)=(0:Nat))/\True)/\((ByteArray.empty=ByteArray.empty/\ByteArray.empty=ByteArray.empty/\(0:Int)=(0:Int)/\(0:Int)=(0:Int)/\True/\True/\True/\True)/\(dW l q.s s')/\(List.length p=List.length p/\aj (List.length p) (4:Nat) (ah P.ak p) (ah P.ak p))/\(List.length q.a=List.length t/\aj (List.length q.a) (2:Nat) (ah aD q.a) (ah aD t))/\(h.rng.lo=h.rng.lo/\h.rng.hi=h.rng.hi/\h.epoch=h.epoch/\h.frozen=h.frozen/\(false=false/\List.length h.recs=List.length h.recs/\aj (List.length h.recs) (5:Nat) (ah encR h.recs) (ah encR h.recs))/\((0:Nat)=(0:Nat)/\List.length p=List.length p)/\((0:Nat)=(0:Nat)/\List.length q.a=List.length t)/\True)/\True)/\true=true)
theorem XQ (l:List Int) (h:Oe) (p:List P.Producer) (m:Nat) (t:List Con) (s':RS) (q:DQ (jE l) l m t s') (a:List Int) (s1:RS) (b:Int) (s2:RS):(bR Tryz.prog (dcH l q.s a s1 b s2) 16 17 (fun q:DQ (jE l) l m t s'=>q.n) (fun q=>dcT m q.n) (fun q=>PS l q.s h p q.a) [3,5,6] (fun _=>.ret ()) (dcS l h p t s') q)=agG l h p m t s' q a s1 b s2:=by kernel_rfl
noncomputable def ai1 (p:Part):eu Tryz.prog:=⟨15,[.agg (aX false p)],[],.need (Q.Jk p) (Hr (aH p) 165),T.Sat.need fun h=>Q.aa8 false p h⟩
structure MP (l:List Int) where
 g:kF
 s1:RS
 ep:Int
 s2:RS
 fr:Int
 s3:RS
 rc:List Rec
 s4:RS
 n1:Nat
 s5:RS
 t6:List P.Producer
 s6:RS
 n2:Nat
 s7:RS
 t8:List Con
 s8:RS
 q:DQ (gF l) l n1 t6 s6
 r:DQ (jE l) l n2 t8 s8
abbrev MP.hd {l:List Int} (x:MP l):Oe:=⟨x.g,x.ep,x.fr,x.rc⟩
abbrev MP.p {l:List Int} (x:MP l):Part:=⟨x.g,x.ep,x.fr,x.rc,x.t6,x.t8⟩
noncomputable def aeE (l:List Int) (x:MP l):aC Tryz.prog:=JK (dO (hh _ (mU 16 8 (dM (fun q:DQ (gF l) l x.n1 x.t6 x.s6=>dpT x.n1 q.n) (fun q=>PS l q.s x.hd q.a []) [2,5,6] (fun _=>.ret ()) (dpS l x.hd x.t6 x.s6) x.q) (mU 16 17 (dM (fun q:DQ (jE l) l x.n2 x.t8 x.s8=>dcT x.n2 q.n) (fun q=>PS l q.s x.hd x.t6 q.a) [3,5,6] (fun _=>.ret ()) (dcS l x.hd x.t6 x.t8 x.s8) x.r) bO)) (cs1 16 2 1 (qgC l default x.g x.s1) (cs1 16 3 1 (Wj l x.s1 x.ep x.s2) (cs1 16 4 1 (Wj l x.s2 x.fr x.s3) (cs1 16 5 1 (ah2 l x.s3 4096 x.rc x.s4) (cs1 16 6 1 (qcC l x.s4 256 (x.n1:Int) x.s5) (cs1 16 15 1 (qcC l x.s6 64 (x.n2:Int) x.s7) (cs1 16 22 1 (qdC l x.s8) (cs1 16 22 5 (ai1 x.p) bM)))))))) bL) (uL 16 2 2 1096 (uL 16 24 0 779 noSh)))
def abG (l:List Int) (x:MP l) (p:Part) (e:Int):Prop :=
 (((0:Nat)=(0:Nat)/\(0:Nat)=(0:Nat))/\True)/\(((lD l l)/\(0:Int)=(0:Int)/\(0:Int)=(0:Int)/\(0:Int)=(0:Int)/\True)/\True)/\fq l (@default RS instInhabitedRS)/\(x.g,x.s1)=pQ l (@default RS instInhabitedRS)/\(((0:Nat)=(0:Nat)/\(0:Nat)=(0:Nat))/\True)/\((dW l x.s1 x.s1)/\True)/\fq l x.s1/\(x.ep,x.s2)=aR l x.s1/\(((0:Nat)=(0:Nat)/\(0:Nat)=(0:Nat))/\True)/\((dW l x.s2 x.s2)/\True)/\fq l x.s2/\(x.fr,x.s3)=aR l x.s2/\(((0:Nat)=(0:Nat)/\(0:Nat)=(0:Nat))/\(4096:Int)=(4096:Int)/\True)/\((dW l x.s3 x.s3)/\True)/\(fq l x.s3/\yI (4096:Int)/\(4096:Int)<=(4096:Int))/\(x.rc,x.s4)=gJ l x.s3 (4096:Int)/\(((0:Nat)=(0:Nat)/\(0:Nat)=(0:Nat))/\(256:Int)=(256:Int)/\True)/\((dW l x.s4 x.s4)/\True)/\(fq l x.s4/\yI (256:Int))/\((↑x.n1:Int),x.s5)=aK l x.s4 (256:Int)/\((((0:Nat)=(0:Nat)/\(0:Nat)=(0:Nat))/\((0:Nat)=(0:Nat)/\(0:Nat)=(0:Nat))/\((0:Nat)=(0:Nat)/\(0:Nat)=(0:Nat))/\(↑x.n1:Int)=(↑x.n1:Int)/\(0:Int)=(↑(x.n1 - x.q.n):Int)/\True)/\(({ data:=#[]:ByteArray }=ByteArray.empty/\{ data:=#[]:ByteArray }=ByteArray.empty/\(0:Int)=(0:Int)/\(0:Int)=(0:Int)/\True/\True/\True/\True)/\(dW l x.s5 x.q.s)/\((0:Nat)=List.length x.q.a/\aj (0:Nat) (4:Nat) (fun (x x_1:Nat)=>AV.junk) (ah P.ak x.q.a))/\((0:Nat)=(0:Nat)/\aj (0:Nat) (2:Nat) (fun (x x_1:Nat)=>AV.junk) (ah aD []))/\(x.g.lo=x.g.lo/\x.g.hi=x.g.hi/\x.ep=x.ep/\x.fr=x.fr/\(false=false/\List.length x.rc=List.length x.rc/\aj (List.length x.rc) (5:Nat) (ah encR x.rc) (ah encR x.rc))/\((0:Nat)=(0:Nat)/\(0:Nat)=List.length x.q.a)/\((0:Nat)=(0:Nat)/\(0:Nat)=(0:Nat))/\True)/\True)/\true=true)/\aM Tryz.prog (16:Nat) (8:Nat) (aN Tryz.prog (16:Nat) (8:Nat)) { t:=dpT x.n1 x.q.n,m:=PS l x.q.s (MP.hd x) x.q.a [],mv:=[]:St } (T.map (bJ [(2:Nat),(5:Nat),(6:Nat)] (dpS l (MP.hd x) x.t6 x.s6)) ((fun (x:DQ (gF l) l x.n1 x.t6 x.s6)=>T.ret ()) x.q))/\(((0:Nat)=(0:Nat)/\(0:Nat)=(0:Nat))/\(64:Int)=(64:Int)/\True)/\((dW l x.s6 x.s6)/\True)/\(fq l x.s6/\yI (64:Int))/\((↑x.n2:Int),x.s7)=aK l x.s6 (64:Int)/\((((0:Nat)=(0:Nat)/\(0:Nat)=(0:Nat))/\((0:Nat)=(0:Nat)/\(0:Nat)=(0:Nat))/\((0:Nat)=(0:Nat)/\(0:Nat)=(0:Nat))/\(↑x.n2:Int)=(↑x.n2:Int)/\(0:Int)=(↑(x.n2 - x.r.n):Int)/\True)/\((ByteArray.empty=ByteArray.empty/\ByteArray.empty=ByteArray.empty/\(0:Int)=(0:Int)/\(0:Int)=(0:Int)/\True/\True/\True/\True)/\(dW l x.s7 x.r.s)/\(List.length x.t6=List.length x.t6/\aj (List.length x.t6) (4:Nat) (ah P.ak x.t6) (ah P.ak x.t6))/\((0:Nat)=List.length x.r.a/\aj (0:Nat) (2:Nat) (ah aD []) (ah aD x.r.a))/\(x.g.lo=x.g.lo/\x.g.hi=x.g.hi/\x.ep=x.ep/\x.fr=x.fr/\(false=false/\List.length x.rc=List.length x.rc/\aj (List.length x.rc) (5:Nat) (ah encR x.rc) (ah encR x.rc))/\((0:Nat)=(0:Nat)/\List.length x.t6=List.length x.t6)/\((0:Nat)=(0:Nat)/\(0:Nat)=List.length x.r.a)/\True)/\True)/\true=true)/\aM Tryz.prog (16:Nat) (17:Nat) (aN Tryz.prog (16:Nat) (17:Nat)) { t:=dcT x.n2 x.r.n,m:=PS l x.r.s (MP.hd x) x.t6 x.r.a,mv:=[]:St } (T.map (bJ [(3:Nat),(5:Nat),(6:Nat)] (dcS l (MP.hd x) x.t6 x.t8 x.s8)) ((fun (x:DQ (jE l) l x.n2 x.t8 x.s8)=>T.ret ()) x.r))/\(((0:Nat)=(0:Nat)/\(0:Nat)=(0:Nat))/\True)/\((dW l x.s8 x.s8)/\True)/\fq l x.s8/\((kS l x.s8 != (0:Int))=true->(({ data:=#[]:ByteArray }=p.rng.lo/\{ data:=#[]:ByteArray }=p.rng.hi/\(0:Int)=p.epoch/\(0:Int)=p.frozen/\List.length p.recs=(0:Nat)/\List.length p.prods=(0:Nat)/\List.length p.cons=(0:Nat)/\True)/\(165:Int)=e/\True)/\True)/\((kS l x.s8 != (0:Int))=false->((x.g.lo=x.g.lo/\x.g.hi=x.g.hi/\x.ep=x.ep/\x.fr=x.fr/\(false=false/\List.length x.rc=List.length x.rc/\aj (List.length x.rc) (5:Nat) (ah encR x.rc) (ah encR x.rc))/\(false=false/\List.length x.t6=List.length x.t6/\aj (List.length x.t6) (4:Nat) (Ax.rowAt (0:Nat) (ah P.ak x.t6)) (ah P.ak x.t6))/\(false=false/\List.length x.t8=List.length x.t8/\aj (List.length x.t8) (2:Nat) (Ax.rowAt (0:Nat) (ah aD x.t8)) (ah aD x.t8))/\True)/\True)/\True/\Q.Jk (MP.p x)/\(aH (MP.p x)=true->true=true/\True/\(∀ (k:Nat),k<List.length x.t6->∀ (j:Nat),j<(4:Nat)->fC (ah P.ak x.t6 k j)=true)/\(∀ (k:Nat),k<List.length x.t8->∀ (j:Nat),j<(2:Nat)->fC (ah aD x.t8 k j)=true)/\((x.g.lo=p.rng.lo/\x.g.hi=p.rng.hi/\x.ep=p.epoch/\x.fr=p.frozen/\(false=false/\List.length x.rc=List.length p.recs/\aj (List.length x.rc) (5:Nat) (ah encR x.rc) (ah encR p.recs))/\(true=true/\List.length x.t6=List.length p.prods/\aj (List.length x.t6) (4:Nat) (Ax.rowAt (0:Nat) (ah P.ak x.t6)) (ah P.ak p.prods))/\(true=true/\List.length x.t8=List.length p.cons/\aj (List.length x.t8) (2:Nat) (Ax.rowAt (0:Nat) (ah aD x.t8)) (ah aD p.cons))/\True)/\(0:Int)=e/\True)/\True)/\(aH (MP.p x)=false->true=true/\True/\(({ data:=#[]:ByteArray }=p.rng.lo/\{ data:=#[]:ByteArray }=p.rng.hi/\(0:Int)=p.epoch/\(0:Int)=p.frozen/\List.length p.recs=(0:Nat)/\List.length p.prods=(0:Nat)/\List.length p.cons=(0:Nat)/\True)/\(165:Int)=e/\True)/\True))
theorem U6 (l:List Int) (x:MP l) (p:Part) (e:Int):(bf Tryz.prog (aeE l x) 16 [h_ true l] [] (rpR p e))=abG l x p e:=by kernel_rfl
theorem QB {l:List Int} {s:RS} {most:Int} (h:fq l s):fq l (gJ l s most).2:=by
 rw [(Jp l s most).1]
 exact I6 h
theorem YC (l:List Int) (h:Oe) (m:Nat) (hm:m<=4096) (t:List P.Producer) (s':RS) (q:DQ (gF l) l m t s'):aM Tryz.prog 16 8 (aN Tryz.prog 16 8) ⟨dpT m q.n,PS l q.s h q.a [],[]⟩ (T.map (bJ [2,5,6] (dpS l h t s')) (.ret ())):=by
 refine dL (P:=Tryz.prog) (f:=16) (k:=8) (ι:=DQ (gF l) l m t s') (μ:=fun q=>q.n) (ht:=fun q=>dpH l q.s (aR l q.s).1 (aR l q.s).2 (aR l (aR l q.s).2).1 (aR l (aR l q.s).2).2 (gZ l (aR l (aR l q.s).2).2).1 (gZ l (aR l (aR l q.s).2).2).2 (aR l (gZ l (aR l (aR l q.s).2).2).2).1 (aR l (gZ l (aR l (aR l q.s).2).2).2).2) (sS:=fun q=>dpT m q.n) (stM:=fun q=>PS l q.s h q.a []) (X:=[2,5,6]) (o:=fun _=>.ret ()) (S:=dpS l h t s') Tryz.mixed (fun _=>rfl) (fun q=>?_) q
 rw [Xw]
 unfold ags
 obtain ⟨n,s,a,e,hs,k,z⟩:=q
 have hcl:=aG l.length 1 (ah aJ l)
 have hcr:=aG h.recs.length 5 (ah encR h.recs)
 simp only
 cases n with
 | zero =>
   have e1:a=t:=congrArg Prod.fst e
   have e2:s=s':=congrArg Prod.snd e
   subst e1 e2
   have hd:decide (((m - 0:Nat):Int)<(m:Int))=false:=by simp
   simp only [hd]
   simp [hcl,hcr]
 | succ n =>
   have hd:decide (((m - (n+1):Nat):Int)<(m:Int))=true:=by simp only [decide_eq_true_eq];omega
   have w:IntKind.wrap IntKind.i64 (((m - (n+1):Nat):Int)+1)=((m - n:Nat):Int):=by rw [wrap_i64 (by omega) (by omega)];omega
   simp only [hd,w]
   by_cases he:s.e=0
   · have h0:(s.e != 0)=false:=by simp [he]
     have h0':(s.e==0)=true:=by simp [he]
     have k1:=(dG hs).1
     have k2:=(dG k1).1
     have k3:=q9 k2
     have k4:=(dG k3).1
     have e1:f_ (gF l) n (gF l s).2 (a++[(gF l s).1])=(t,s'):=by
      have:=e
      unfold f_ at this
      simpa [h0] using this
     have ha:=sw (enc:=P.ak) (l:=a) (n:=a.length) (sz:=4) (x:=(gF l s).1) (cs:=P.ak (gF l s).1) rfl (fun j hj=>dn _)
     simp only [h0']
     simp [hs,k1,k2,k3,hcl,hcr]
     refine ⟨by omega,⟨n,(gF l s).2,a++[(gF l s).1],e1,k4,by omega,by simp;omega⟩,by show n<n+1;omega,?_⟩
     simp [gF]
     exact ha
   · have h0:(s.e != 0)=true:=by simpa using he
     have h0':(s.e==0)=false:=by simpa using he
     have e1:(a,s)=(t,s'):=by
      have:=e
      unfold f_ at this
      simpa [h0] using this
     have e3:a=t:=congrArg Prod.fst e1
     have e4:s=s':=congrArg Prod.snd e1
     subst e3 e4
     simp only [h0']
     simp [hcl,hcr]
theorem Zn (l:List Int) (h:Oe) (p:List P.Producer) (m:Nat) (hm:m<=4096) (t:List Con) (s':RS) (q:DQ (jE l) l m t s'):aM Tryz.prog 16 17 (aN Tryz.prog 16 17) ⟨dcT m q.n,PS l q.s h p q.a,[]⟩ (T.map (bJ [3,5,6] (dcS l h p t s')) (.ret ())):=by
 refine dL (P:=Tryz.prog) (f:=16) (k:=17) (ι:=DQ (jE l) l m t s') (μ:=fun q=>q.n) (ht:=fun q=>dcH l q.s (dh l q.s 32).1 (dh l q.s 32).2 (aR l (dh l q.s 32).2).1 (aR l (dh l q.s 32).2).2) (sS:=fun q=>dcT m q.n) (stM:=fun q=>PS l q.s h p q.a) (X:=[3,5,6]) (o:=fun _=>.ret ()) (S:=dcS l h p t s') Tryz.mixed (fun _=>rfl) (fun q=>?_) q
 rw [XQ]
 unfold agG
 obtain ⟨n,s,a,e,hs,k,z⟩:=q
 have hcl:=aG l.length 1 (ah aJ l)
 have hcr:=aG h.recs.length 5 (ah encR h.recs)
 have hcp:=aG p.length 4 (ah P.ak p)
 simp only
 cases n with
 | zero =>
   have e1:a=t:=congrArg Prod.fst e
   have e2:s=s':=congrArg Prod.snd e
   subst e1 e2
   have hd:decide (((m - 0:Nat):Int)<(m:Int))=false:=by simp
   simp only [hd]
   simp [hcl,hcr,hcp]
 | succ n =>
   have hd:decide (((m - (n+1):Nat):Int)<(m:Int))=true:=by simp only [decide_eq_true_eq];omega
   have w:IntKind.wrap IntKind.i64 (((m - (n+1):Nat):Int)+1)=((m - n:Nat):Int):=by rw [wrap_i64 (by omega) (by omega)];omega
   simp only [hd,w]
   by_cases he:s.e=0
   · have h0:(s.e != 0)=false:=by simp [he]
     have h0':(s.e==0)=true:=by simp [he]
     have k1:fq l (dh l s 32).2:=lZ hs
     have k2:=(dG k1).1
     have e1:f_ (jE l) n (jE l s).2 (a++[(jE l s).1])=(t,s'):=by
      have:=e
      unfold f_ at this
      simpa [h0] using this
     have ha:=sw (enc:=aD) (l:=a) (n:=a.length) (sz:=2) (x:=(jE l s).1) (cs:=aD (jE l s).1) rfl (fun j hj=>dn _)
     have z2:=Lg
     simp only [h0']
     simp [hs,k1,z2,hcl,hcr,hcp]
     refine ⟨by omega,⟨n,(jE l s).2,a++[(jE l s).1],e1,k2,by omega,by simp;omega⟩,by show n<n+1;omega,?_⟩
     simp [jE]
     exact ⟨⟨rfl,rfl,rfl⟩,ha⟩
   · have h0:(s.e != 0)=true:=by simpa using he
     have h0':(s.e==0)=false:=by simpa using he
     have e1:(a,s)=(t,s'):=by
      have:=e
      unfold f_ at this
      simpa [h0] using this
     have e3:a=t:=congrArg Prod.fst e1
     have e4:s=s':=congrArg Prod.snd e1
     subst e3 e4
     simp only [h0']
     simp [hcl,hcr,hcp]
theorem sK {α:Type} {f:RS->α×RS}:∀ n s a,(f_ f n s a).1.length<=a.length+n
 | 0,s,a=>Nat.le_refl _
 | n+1,s,a=>by
   unfold f_
   split
   · show a.length<=_;omega
   · have:=sK (f:=f) n (f s).2 (a++[(f s).1])
     rw [List.length_append] at this
     simp at this
     omega
theorem sF {α:Type} {l:List Int} {f:RS->α×RS} {Q:α->Prop} (hf:∀ s,fq l s->fq l (f s).2/\Q (f s).1):∀ n s a,fq l s->(∀ x∈a,Q x)->fq l (f_ f n s a).2/\∀ x∈(f_ f n s a).1,Q x
 | 0,s,a,h,ha=>⟨h,ha⟩
 | n+1,s,a,h,ha=>by
   unfold f_
   split
   · exact ⟨h,ha⟩
   · refine sF hf n _ _ (hf s h).1 fun x hx=>?_
     rcases List.mem_append.1 hx with hx | hx
     · exact ha x hx
     · obtain rfl:=List.mem_singleton.1 hx
       exact (hf s h).2
theorem Xq {l:List Int} {s:RS} (h:fq l s):0<=(fF l s).1.seq:=by
 have h1:=(dG (dG (lZ (most:=256) (AP (most:=32) (dG h).1 rfl))).1).2.lo
 unfold fF
 simp only
 split
 · exact Int.le_refl _
 · exact h1
theorem afx (l:List Int) (h:yN l):(rpR (nE l).1 (nE l).2).Sat (aB Tryz.prog 16 [h_ true l] []):=by
 have hl:=h.n
 have k0:=aeW h.n h.b
 obtain ⟨g,s1,e1⟩:∃ v t,(v,t)=pQ l default:=⟨_,_,rfl⟩
 have k1:fq l s1:=by have:=acA k0;rw [<- e1] at this;exact this
 obtain ⟨ep,s2,e2⟩:∃ v t,(v,t)=aR l s1:=⟨_,_,rfl⟩
 have k2:=(DX k1 e2).1
 obtain ⟨fr,s3,e3⟩:∃ v t,(v,t)=aR l s2:=⟨_,_,rfl⟩
 have k3:=(DX k2 e3).1
 obtain ⟨rc,s4,e4⟩:∃ v t,(v,t)=gJ l s3 4096:=⟨_,_,rfl⟩
 have k4:fq l s4:=by have:=QB (most:=4096) k3;rw [<- e4] at this;exact this
 obtain ⟨n1',s5,e5⟩:∃ v t,(v,t)=aK l s4 256:=⟨_,_,rfl⟩
 have k5:fq l s5:=by have:=(fK (most:=256) k4).1;rw [<- e5] at this;exact this
 have c5:=count_le (most:=256) k4
 rw [<- e5] at c5
 simp only at c5
 obtain ⟨n1,rfl⟩:=Int.eq_ofNat_of_zero_le c5.2
 obtain ⟨t6,s6,e6⟩:∃ v t,(v,t)=f_ (gF l) n1 s5 []:=⟨_,_,rfl⟩
 have a6:=sF (Q:=fun x:P.Producer=>0<=x.offset/\x.offset<18446744073709551616) (f:=gF l) (fun s h=>⟨QH h,(dG (q9 (dG (dG h).1).1)).2.lo,(dG (q9 (dG (dG h).1).1)).2.hi⟩) n1 s5 [] k5 (fun x hx=>by cases hx)
 rw [<- e6] at a6
 obtain ⟨k6,po⟩:=a6
 simp only at k6 po
 obtain ⟨n2',s7,e7⟩:∃ v t,(v,t)=aK l s6 64:=⟨_,_,rfl⟩
 have k7:fq l s7:=by have:=(fK (most:=64) k6).1;rw [<- e7] at this;exact this
 have c7:=count_le (most:=64) k6
 rw [<- e7] at c7
 simp only at c7
 obtain ⟨n2,rfl⟩:=Int.eq_ofNat_of_zero_le c7.2
 obtain ⟨t8,s8,e8⟩:∃ v t,(v,t)=f_ (jE l) n2 s7 []:=⟨_,_,rfl⟩
 have k8:fq l s8:=by
  have:=(sF (Q:=fun _:Con=>True) (f:=jE l) (fun s h=>⟨Zz h,trivial⟩) n2 s7 [] k7 (fun x hx=>by cases hx)).1
  rw [<- e8] at this
  exact this
 have hr:qw l=(⟨g,ep,fr,rc,t6,t8⟩,s8):=by
  unfold qw WC xg LV
  simp only [<- e1,<- e2,<- e3,<- e4,<- e5,Int.toNat_natCast,<- e6,<- e7,<- e8]
 have l6:t6.length<=n1:=by have:=sK (f:=gF l) n1 s5 [];rw [<- e6] at this;simpa using this
 have l8:t8.length<=n2:=by have:=sK (f:=jE l) n2 s7 [];rw [<- e8] at this;simpa using this
 have c4:=count_le (most:=4096) k3
 have l4:rc.length<=4096:=by
  have:=sK (f:=fF l) (aK l s3 4096).1.toNat (aK l s3 4096).2 []
  have e:(rc,s4)=f_ (fF l) (aK l s3 4096).1.toNat (aK l s3 4096).2 []:=e4
  rw [<- e] at this
  simp at this
  omega
 have sq:∀ y∈rc,0<=y.seq:=by
  have:=(sF (Q:=fun y:Rec=>0<=y.seq) (f:=fF l) (fun s h=>⟨t_ h,Xq h⟩) (aK l s3 4096).1.toNat (aK l s3 4096).2 [] (fK k3).1 (fun x hx=>by cases hx)).2
  have e:(rc,s4)=f_ (fF l) (aK l s3 4096).1.toNat (aK l s3 4096).2 []:=e4
  rw [<- e] at this
  exact this
 have hpi:Q.Jk ⟨g,ep,fr,rc,t6,t8⟩:=⟨by show rc.length<=_;omega,by show t6.length<=_;omega,by show t8.length<=_;omega,po,by show t6.length<=_;omega,sq⟩
 obtain ⟨q,q1,q2,q3⟩:∃ q:DQ (gF l) l n1 t6 s6,q.n=n1/\q.s=s5/\q.a=[]:=⟨⟨n1,s5,[],e6.symm,k5,Nat.le_refl _,by simp⟩,rfl,rfl,rfl⟩
 obtain ⟨r,r1,r2,r3⟩:∃ q:DQ (jE l) l n2 t8 s8,q.n=n2/\q.s=s7/\q.a=[]:=⟨⟨n2,s7,[],e8.symm,k7,Nat.le_refl _,by simp⟩,rfl,rfl,rfl⟩
 have lp:=YC l ⟨g,ep,fr,rc⟩ n1 (by omega) t6 s6 q
 have lq:=Zn l ⟨g,ep,fr,rc⟩ t6 n2 (by omega) t8 s8 r
 have hx:=ahb l
 refine aP (ht:=aeE l ⟨g,s1,ep,s2,fr,s3,rc,s4,n1,s5,t6,s6,n2,s7,t8,s8,q,r⟩) Tryz.mixed rfl ?_
 rw [U6 l ⟨g,s1,ep,s2,fr,s3,rc,s4,n1,s5,t6,s6,n2,s7,t8,s8,q,r⟩ (nE l).1 (nE l).2]
 rw [<- hx,hr]
 unfold abG
 have z64:=ade
 have z256:=Ml
 have z4096:=TA
 have z0:(default:Part)=⟨⟨ByteArray.empty,ByteArray.empty⟩,0,0,[],[],[]⟩:=rfl
 have z1:ByteArray.empty=(⟨#[]⟩:ByteArray):=rfl
 have hr6:aj t6.length 4 (Ax.rowAt 0 (ah P.ak t6)) (ah P.ak t6):=fun k hk j hj=>dn _
 have hr8:aj t8.length 2 (Ax.rowAt 0 (ah aD t8)) (ah aD t8):=fun k hk j hj=>dn _
 have tp:=aft t6
 have tc:=agu t8
 have hcl:=aG l.length 1 (ah aJ l)
 have hcr:=aG rc.length 5 (ah encR rc)
 rw [q1,q2,q3] at lp
 rw [r1,r2,r3] at lq
 simp only [q1,q2,q3,r1,r2,r3]
 by_cases hd:kS l s8=0
 · cases hw:aH (⟨g,ep,fr,rc,t6,t8⟩:Part)
   · simp [hl,k0,k1,k2,k3,k4,k5,k6,k7,k8,z64,z256,z4096,hd,hw,hpi,z0,z1,hr6,hr8,hcl,hcr,e1,e2,e3,e4,e5,e7]
     repeat' with_reducible apply And.intro
     all_goals first | assumption | rfl | skip
   · simp [hl,k0,k1,k2,k3,k4,k5,k6,k7,k8,z64,z256,z4096,hd,hw,hpi,z0,z1,hr6,hr8,hcl,hcr,e1,e2,e3,e4,e5,e7]
     repeat' with_reducible apply And.intro
     all_goals first | assumption | rfl | skip
 · simp [hl,k0,k1,k2,k3,k4,k5,k6,k7,k8,z64,z256,z4096,hd,hpi,z0,z1,hr6,hr8,hcl,hcr,e1,e2,e3,e4,e5,e7]
   repeat' with_reducible apply And.intro
   all_goals first | assumption | rfl | skip
theorem afV (l:List Int) (h:yN l):(agc (nE l).1 (nE l).2).Sat (aB Tryz.prog 16 [h_ true l] []):=by
 have h1:aB Tryz.prog 16 [h_ true l] [] (.tup [.agg (KH (nE l).1),.y (.int .i64 (nE l).2)],[],[]):=yY (afx l h)
 have h2:aB Tryz.prog 16 [h_ true l] [] (.tup [.agg (aX false (nE l).1),.y (.int .i64 (nE l).2)],[],[]):=Dx (fun H E v hH hr=>Y0 hH hr) h1
 exact T.Sat.ret h2
noncomputable def adQ (l:List Int) (p:Part) (e:Int):eu Tryz.prog:=⟨16,[h_ true l],[],.need (yN l) (.need ((p,e)=nE l) (agc p e)),T.Sat.need fun h=>T.Sat.need fun q=>by
 have e1:p=(nE l).1:=congrArg Prod.fst q
 have e2:e=(nE l).2:=congrArg Prod.snd q
 rw [e1,e2]
 exact afV l h⟩
end J
namespace N
open H Q R
noncomputable def agr (p:Part):aC Tryz.prog:=hh _ bO (cs1 19 1 4 (sfC false true p.recs p.recs) (cs1 19 2 4 (P.abW false true p.prods p.prods) (cs1 19 3 4 (R.agx false true p.cons p.cons) bM))) bL
def aa' (p:Part):Prop :=
 ((false=false/\p.recs.length=p.recs.length/\aj p.recs.length 5 (ah fI p.recs) (ah fI p.recs))/\(true=true/\p.recs.length=p.recs.length/\aj p.recs.length 5 (ah encR p.recs) (ah encR p.recs))/\True)/\True/\(p.recs.length<=9223372036854775806/\p.recs=p.recs)/\((false=false/\p.prods.length=p.prods.length/\aj p.prods.length 4 (ah P.ak p.prods) (ah P.ak p.prods))/\(true=true/\p.prods.length=p.prods.length/\aj p.prods.length 4 (ah P.ak p.prods) (ah P.ak p.prods))/\True)/\True/\p.prods.length<=9223372036854775806/\((false=false/\p.cons.length=p.cons.length/\aj p.cons.length 2 (ah aD p.cons) (ah aD p.cons))/\(true=true/\p.cons.length=p.cons.length/\aj p.cons.length 2 (ah aD p.cons) (ah aD p.cons))/\True)/\True/\p.cons.length<=9223372036854775806/\(true=true->(P.kR p.prods p.prods=true->(iy p.cons p.cons=true->((p.rng.lo.data.toList==p.rng.lo.data.toList&&(p.rng.hi.data.toList==p.rng.hi.data.toList&&true))=true->((p.epoch==p.epoch)=true->(p.frozen==p.frozen)=true/\True)/\((p.epoch==p.epoch)=false->false=true/\True))/\((p.rng.lo.data.toList==p.rng.lo.data.toList&&(p.rng.hi.data.toList==p.rng.hi.data.toList&&true))=false->false=true/\True))/\(iy p.cons p.cons=false->false=true/\True))/\(P.kR p.prods p.prods=false->false=true/\True))/\(true=false->false=true/\True)
theorem Vb (p:Part):(bf Tryz.prog (agr p) 19 [.agg (Q.ptF p),.agg (aX true p)] [] (aZ true))=aa' p:=by kernel_rfl
theorem agA (p:Part) (hp:wo p):(aZ true).Sat (aB Tryz.prog 19 [.agg (Q.ptF p),.agg (aX true p)] []):=by
 refine aP (ht:=agr p) Tryz.mixed rfl ?_
 rw [Vb p]
 unfold aa'
 obtain ⟨h1,h2,h3⟩:=hp
 have g1:p.recs.length<=9223372036854775806:=by omega
 have g2:p.prods.length<=9223372036854775806:=by omega
 have g3:p.cons.length<=9223372036854775806:=by omega
 have e3:iy p.cons p.cons=true:=by
  unfold iy jh TK
  simp
 simp [g1,g2,g3,Go.Proofs.YtnbhdjadlbhknaaGreatDoor.D.K7,e3]
noncomputable def afa (p:Part):eu Tryz.prog:=⟨19,[.agg (Q.ptF p),.agg (aX true p)],[],.need (wo p) (aZ true),T.Sat.need fun h=>agA p h⟩
theorem agi (q:Part) (h:q=default):(aZ true).Sat (aB Tryz.prog 19 [.agg (aX true default),.agg (aX true q)] []):=by
 subst h
 have:=abn true true default default ⟨by decide,by decide,by decide,fun k hk=>by cases hk⟩
 rwa [show eG default default=true from rfl] at this
noncomputable def ahM (q:Part):eu Tryz.prog:=⟨19,[.agg (aX true default),.agg (aX true q)],[],.need (q=default) (aZ true),T.Sat.need fun h=>agi q h⟩
def TN (x:mV) (r:List Rec):List AV:=[.y (.int .i64 x.err),.y (.int .u64 x.off),.y (.bool x.old),iI false r]
noncomputable def ahA (r:List Rec):aC Tryz.prog:=hh _ bO (cs1 20 1 4 (sfC false true r r) bM) bL
def aa3 (x:mV) (r:List Rec):Prop :=
 ((false=false/\r.length=r.length/\aj r.length 5 (ah fI r) (ah fI r))/\(true=true/\x.recs.length=r.length/\aj x.recs.length 5 (ah encR x.recs) (ah encR r))/\True)/\True/\(r.length<=9223372036854775806/\r=r)/\(true=true->((x.err==x.err)=true->((x.off==x.off)=true->(x.old==x.old)=true/\True)/\((x.off==x.off)=false->false=true/\True))/\((x.err==x.err)=false->false=true/\True))/\(true=false->false=true/\True)
theorem Uw (x:mV) (r:List Rec):(bf Tryz.prog (ahA r) 20 [.agg (TN x r),.agg (R.KT x)] [] (aZ true))=aa3 x r:=by kernel_rfl
theorem agd (x:mV) (r:List Rec) (h:r.length<=9223372036854775806/\r=x.recs):(aZ true).Sat (aB Tryz.prog 20 [.agg (TN x r),.agg (R.KT x)] []):=by
 refine aP (ht:=ahA r) Tryz.mixed rfl ?_
 rw [Uw x r]
 unfold aa3
 obtain ⟨h1,rfl⟩:=h
 simp [h1]
noncomputable def ai7 (x:mV) (r:List Rec):eu Tryz.prog:=⟨20,[.agg (TN x r),.agg (R.KT x)],[],.need (r.length<=9223372036854775806/\r=x.recs) (aZ true),T.Sat.need fun h=>agd x r h⟩
noncomputable def afX (x:mV):aC Tryz.prog:=hh _ bO (cs1 20 1 4 (R.smC true true [] x.recs) bM) bL
def abf (x:mV):Prop :=
 (0=0/\(true=true/\x.recs.length=x.recs.length/\aj x.recs.length 5 (ah encR x.recs) (ah encR x.recs))/\True)/\True/\0<=9223372036854775806/\(iF [] x.recs=true->((x.err==x.err)=true->((x.off==x.off)=true->(x.old==x.old)=true/\True)/\((x.off==x.off)=false->false=true/\True))/\((x.err==x.err)=false->false=true/\True))/\(iF [] x.recs=false->false=true/\True)
theorem Qu (x:mV):(bf Tryz.prog (afX x) 20 [.agg (Bt x),.agg (R.KT x)] [] (aZ true))=abf x:=by kernel_rfl
theorem afo (x:mV) (h:x.recs=[]):(aZ true).Sat (aB Tryz.prog 20 [.agg (Bt x),.agg (R.KT x)] []):=by
 refine aP (ht:=afX x) Tryz.mixed rfl ?_
 rw [Qu x]
 unfold abf
 have e:iF [] ([]:List Rec)=true:=rfl
 simp [h,e]
noncomputable def ahu (x:mV):eu Tryz.prog:=⟨20,[.agg (Bt x),.agg (R.KT x)],[],.need (x.recs=[]) (aZ true),T.Sat.need fun h=>afo x h⟩
def Gb (p:Part):Part:=if fJ p.rng=0/\p.epoch≠0 then ⟨p.rng,p.epoch,0,[],[],[]⟩ else default
def J4 (p:Part):Int:=if fJ p.rng=0/\p.epoch≠0 then 0 else 165
def nwT (q:Part) (e:Int):T An:=.ret (.tup [.agg (aX true q),.y (.int .i64 e)],[],[])
noncomputable def nwH (r:kF):aC Tryz.prog:=hh _ bO (cs1 11 1 1 (adi r) (cs1 22 1 1 (TS r) bM)) bL
def afR (r:kF) (n:Int) (q:Part) (e:Int):Prop :=
 ((r.lo=r.lo/\r.hi=r.hi/\True)/\True)/\True/\((fJ r != 0)=true->(({ data:=#[]:ByteArray }=q.rng.lo/\{ data:=#[]:ByteArray }=q.rng.hi/\0=q.epoch/\0=q.frozen/\q.recs.length=0/\q.prods.length=0/\q.cons.length=0/\True)/\165=e/\True)/\True)/\((fJ r != 0)=false->((n==0)=true->(({ data:=#[]:ByteArray }=q.rng.lo/\{ data:=#[]:ByteArray }=q.rng.hi/\0=q.epoch/\0=q.frozen/\q.recs.length=0/\q.prods.length=0/\q.cons.length=0/\True)/\165=e/\True)/\True)/\((n==0)=false->((r.lo=q.rng.lo/\r.hi=q.rng.hi/\n=q.epoch/\0=q.frozen/\q.recs.length=0/\q.prods.length=0/\q.cons.length=0/\True)/\0=e/\True)/\True))
theorem Xo (r:kF) (n:Int) (q:Part) (e:Int):(bf Tryz.prog (nwH r) 11 [.agg (mh r),.y (.int .u64 n)] [] (nwT q e))=afR r n q e:=by kernel_rfl
def aaA (r:kF) (n:Int) (q:Part) (e:Int):Prop :=
 ((r.lo=r.lo/\r.hi=r.hi/\True)/\True)/\True/\((fJ r != 0)=true->(({ data:=#[]:ByteArray }=q.rng.lo/\{ data:=#[]:ByteArray }=q.rng.hi/\0=q.epoch/\0=q.frozen/\q.recs.length=0/\q.prods.length=0/\q.cons.length=0/\True)/\165=e/\True)/\True)/\((fJ r != 0)=false->((n==0)=true->(({ data:=#[]:ByteArray }=q.rng.lo/\{ data:=#[]:ByteArray }=q.rng.hi/\0=q.epoch/\0=q.frozen/\q.recs.length=0/\q.prods.length=0/\q.cons.length=0/\True)/\165=e/\True)/\True)/\((n==0)=false->((r.lo=q.rng.lo/\r.hi=q.rng.hi/\n=q.epoch/\0=q.frozen/\q.recs.length=0/\q.prods.length=0/\q.cons.length=0/\True)/\0=e/\True)/\True))
theorem Vt (r:kF) (n:Int) (q:Part) (e:Int):(bf Tryz.prog (nwH r) 22 [.agg (mh r),.y (.int .u64 n)] [] (nwT q e))=aaA r n q e:=by kernel_rfl
theorem aiQ (p:Part):(nwT (Gb p) (J4 p)).Sat (aB Tryz.prog 11 [.agg (mh p.rng),.y (.int .u64 p.epoch)] []):=by
 refine aP (ht:=nwH p.rng) Tryz.mixed rfl ?_
 rw [Xo p.rng p.epoch (Gb p) (J4 p)]
 unfold afR Gb J4
 have eb:({ data:=#[] }:ByteArray)=ByteArray.empty:=rfl
 by_cases h1:fJ p.rng=0
 · by_cases h2:p.epoch=0
   · simp [h1,h2,eb]
     exact ⟨rfl,rfl,rfl,rfl,rfl,rfl,rfl⟩
   · simp [h1,h2]
 · simp [h1,eb]
   exact ⟨rfl,rfl,rfl,rfl,rfl,rfl,rfl⟩
theorem ahm (p:Part):(nwT (Gb p) (J4 p)).Sat (aB Tryz.prog 22 [.agg (mh p.rng),.y (.int .u64 p.epoch)] []):=by
 refine aP (ht:=nwH p.rng) Tryz.mixed rfl ?_
 rw [Vt p.rng p.epoch (Gb p) (J4 p)]
 unfold aaA Gb J4
 have eb:({ data:=#[] }:ByteArray)=ByteArray.empty:=rfl
 by_cases h1:fJ p.rng=0
 · by_cases h2:p.epoch=0
   · simp [h1,h2,eb]
     exact ⟨rfl,rfl,rfl,rfl,rfl,rfl,rfl⟩
   · simp [h1,h2]
 · simp [h1,eb]
   exact ⟨rfl,rfl,rfl,rfl,rfl,rfl,rfl⟩
noncomputable def nwC (p q:Part) (e:Int):eu Tryz.prog:=⟨11,[.agg (mh p.rng),.y (.int .u64 p.epoch)],[],.need (q=Gb p/\e=J4 p) (nwT q e),T.Sat.need fun h=>by obtain ⟨rfl,rfl⟩:=h;exact aiQ p⟩
noncomputable def ahN (p q:Part) (e:Int):eu Tryz.prog:=⟨22,[.agg (mh p.rng),.y (.int .u64 p.epoch)],[],.need (q=Gb p/\e=J4 p) (nwT q e),T.Sat.need fun h=>by obtain ⟨rfl,rfl⟩:=h;exact ahm p⟩
end N
namespace Q
open J
attribute [local irreducible] iL mR dA fU dY au aQ bD jg PO
noncomputable def aeM (b:Bool) (p:Part):aC Tryz.prog:=dO (byH b p) (uL 17 19 0 779 noSh)
def abx (b:Bool) (p:Part):Prop :=
 ((p.rng.lo=p.rng.lo/\p.rng.hi=p.rng.hi/\True)/\True)/\True/\RgOk p.rng/\(p.epoch=p.epoch/\True)/\True/\eZ p.epoch/\(decide ((fU p.rng).length=(fU p.rng).length)&&decide ((fU p.rng).length+(au p.epoch).length<=9223372036854775807)&&decide (((fU p.rng).length+(au p.epoch).length)*1<=140737488355328))=true/\(p.frozen=p.frozen/\True)/\True/\eZ p.frozen/\(decide ((fU p.rng).length+(au p.epoch).length=(fU p.rng).length+(au p.epoch).length)&&decide ((fU p.rng).length+(au p.epoch).length+(au p.frozen).length<=9223372036854775807)&&decide (((fU p.rng).length+(au p.epoch).length+(au p.frozen).length)*1<=140737488355328))=true/\((b=b/\p.recs.length=p.recs.length/\aj p.recs.length 5 (ah encR p.recs) (ah encR p.recs))/\True)/\True/\Ue p.recs/\(decide ((fU p.rng).length+(au p.epoch).length+(au p.frozen).length=(fU p.rng).length+(au p.epoch).length+(au p.frozen).length)&&decide ((fU p.rng).length+(au p.epoch).length+(au p.frozen).length+(dY p.recs).length<=9223372036854775807)&&decide (((fU p.rng).length+(au p.epoch).length+(au p.frozen).length+(dY p.recs).length)*1<=140737488355328))=true/\(IntKind.u64.wrap (p.prods.length:Int)=(p.prods.length:Int)/\True)/\True/\eZ (p.prods.length:Int)/\(decide ((fU p.rng).length+(au p.epoch).length+(au p.frozen).length+(dY p.recs).length=(fU p.rng).length+(au p.epoch).length+(au p.frozen).length+(dY p.recs).length)&&decide ((fU p.rng).length+(au p.epoch).length+(au p.frozen).length+(dY p.recs).length+(au (p.prods.length:Int)).length<=9223372036854775807)&&decide (((fU p.rng).length+(au p.epoch).length+(au p.frozen).length+(dY p.recs).length+(au (p.prods.length:Int)).length)*1<=140737488355328))=true/\(((0=0/\0=0)/\(0=0/\(fU p.rng).length+(au p.epoch).length+(au p.frozen).length+(dY p.recs).length+(au (p.prods.length:Int)).length=(iL p 0).length)/\(0:Int)=0/\True)/\((bP b b p p)/\((fU p.rng).length+(au p.epoch).length+(au p.frozen).length+(dY p.recs).length+(au (p.prods.length:Int)).length=(iL p 0).length/\aj ((fU p.rng).length+(au p.epoch).length+(au p.frozen).length+(dY p.recs).length+(au (p.prods.length:Int)).length) 1 (aY ((fU p.rng).length+(au p.epoch).length+(au p.frozen).length+(dY p.recs).length) (aY ((fU p.rng).length+(au p.epoch).length+(au p.frozen).length) (aY ((fU p.rng).length+(au p.epoch).length) (aY (fU p.rng).length (ah aJ (fU p.rng)) fun (k:Nat)=>ah aJ (au p.epoch) (0+k)) fun (k:Nat)=>ah aJ (au p.frozen) (0+k)) fun (k:Nat)=>ah aJ (dY p.recs) (0+k)) fun (k:Nat)=>ah aJ (au (p.prods.length:Int)) (0+k)) (ah aJ (iL p 0)))/\True)/\true=true)/\aM Tryz.prog 17 6 (aN Tryz.prog 17 6) { t:=b1T p (⟨0,byH._proof_1 p⟩:{ k:Nat // k<=p.prods.length }).val,m:=PW b p (iL p (⟨0,byH._proof_1 p⟩:{ k:Nat // k<=p.prods.length }).val),mv:=[]:St } (T.map (bJ bX (b1S b p)) ((fun (x:{ k:Nat // k<=p.prods.length })=>T.ret ()) (⟨0,byH._proof_1 p⟩:{ k:Nat // k<=p.prods.length })))/\(IntKind.u64.wrap (p.cons.length:Int)=(p.cons.length:Int)/\True)/\True/\eZ (p.cons.length:Int)/\(decide ((iL p p.prods.length).length=(iL p p.prods.length).length)&&decide ((iL p p.prods.length).length+(au (p.cons.length:Int)).length<=9223372036854775807)&&decide (((iL p p.prods.length).length+(au (p.cons.length:Int)).length)*1<=140737488355328))=true/\(((0=0/\0=0)/\(0=0/\(iL p p.prods.length).length+(au (p.cons.length:Int)).length=(mR p 0).length)/\(0:Int)=0/\True)/\((bP b b p p)/\((iL p p.prods.length).length+(au (p.cons.length:Int)).length=(mR p 0).length/\aj ((iL p p.prods.length).length+(au (p.cons.length:Int)).length) 1 (aY (iL p p.prods.length).length (ah aJ (iL p p.prods.length)) fun (k:Nat)=>ah aJ (au (p.cons.length:Int)) (0+k)) (ah aJ (mR p 0)))/\True)/\true=true)/\aM Tryz.prog 17 15 (aN Tryz.prog 17 15) { t:=b2T p (⟨0,byH._proof_2 p⟩:{ k:Nat // k<=p.cons.length }).val,m:=PW b p (mR p (⟨0,byH._proof_2 p⟩:{ k:Nat // k<=p.cons.length }).val),mv:=[]:St } (T.map (bJ bX (b2S b p)) ((fun (x:{ k:Nat // k<=p.cons.length })=>T.ret ()) (⟨0,byH._proof_2 p⟩:{ k:Nat // k<=p.cons.length })))/\(∀ k,k<(dA p).length->∀ j,j<1->fC (ah aJ (dA p) k j)=true)/\(true=true/\(dA p).length=(dA p).length/\aj (dA p).length 1 (Ax.rowAt 0 (ah aJ (dA p))) (ah aJ (dA p)))/\True
theorem U_ (b:Bool) (p:Part):(bf Tryz.prog (aeM b p) 17 [.agg (aX b p)] [] (.ret (h_ true (dA p),[],[])))=abx b p:=by kernel_rfl
theorem af5 (b:Bool) (p:Part) (h:FV p):(T.ret ((h_ true (dA p),[],[]):An)).Sat (aB Tryz.prog 17 [.agg (aX b p)] []):=by
 refine aP (ht:=aeM b p) Tryz.mixed rfl ?_
 rw [U_ b p]
 unfold abx
 have mU:=aas b p h ⟨0,Nat.zero_le _⟩
 have lp2:=aai b p h ⟨0,Nat.zero_le _⟩
 obtain ⟨h1,h2,h3,h4,h5,h6,h7,h8,h9⟩:=h
 have w1:IntKind.u64.wrap (p.prods.length:Int)=(p.prods.length:Int):=wrap_u64 (by omega) (by omega)
 have w2:IntKind.u64.wrap (p.cons.length:Int)=(p.cons.length:Int):=wrap_u64 (by omega) (by omega)
 have u1:eZ (p.prods.length:Int):=⟨by omega,by omega⟩
 have u2:eZ (p.cons.length:Int):=⟨by omega,by omega⟩
 have e1:iL p 0=fU p.rng++au p.epoch++au p.frozen++dY p.recs++au (p.prods.length:Int):=by simp [iL,PO]
 have e2:mR p 0=iL p p.prods.length++au (p.cons.length:Int):=by simp [mR]
 have n1:(iL p 0).length=(fU p.rng).length+(au p.epoch).length+(au p.frozen).length+(dY p.recs).length+(au (p.prods.length:Int)).length:=by rw [e1];simp only [List.length_append]
 have n2:(mR p 0).length=(iL p p.prods.length).length+(au (p.cons.length:Int)).length:=by rw [e2];simp only [List.length_append]
 have m1:=UN p 0
 have m2:=JN p p.prods.length
 have m3:=JN p 0
 simp only [Nat.zero_add,<- List.length_append,sI,w1,w2,<- e1,<- e2]
 repeat' with_reducible apply And.intro
 all_goals first
  | with_reducible rfl
  | exact trivial
  | assumption
  | omega
  | exact aG _ _ _
  | (simp;done)
  | (simp;omega)
  | (intro k _ j hj;(obtain rfl:j=0:=by omega);rfl)
noncomputable def acJ (b:Bool) (p:Part):eu Tryz.prog:=⟨17,[.agg (aX b p)],[],.need (FV p) (.ret (h_ true (dA p),[],[])),T.Sat.need fun h=>af5 b p h⟩
end Q
namespace N
open H Q R
structure Rd where
 (p w:Part) (e:Int) (c:cB) (q:Part) (x:mV) (r:List Rec)
def lwT (l:List cB) (i:Nat):List AV:=mkT 122 [(1,R.uj true l),(2,.ptr 0 0 0 0),(5,.y (.bool true)),(6,.y (.int .i64 i))]
def XJ (f:Nat->Part) (i:Nat):List ay:=[.box 30 (aX true (f i))]
def Rb:List Nat:=[0,1,2,3,4,5,6,7,8,9,10,11,12,13,14,15]
def lwS (f:Nat->Part) (n:Nat) (_:Unit):Exit×List AV×List ay:=(.exit 0,mkT 122 [(2,.ptr 0 0 0 0),(5,.y (.bool true))],XJ f n)
def g_ (r:List Rec) (k:Nat):Nat->Rec:=fun p=>if p<k then Bl (r.getD p default) else r.getD p default
def liT (l:List cB) (i:Nat) (e:Int) (k:Nat):List AV:=mkT 122 [(1,R.uj true l),(2,.ptr 0 0 0 0),(5,.y (.bool true)),(6,.y (.int .i64 i)),(7,.ptr 1 0 0 0),(8,.y (.int .i64 e)),(10,.ptr 7 0 0 0),(11,.ptr 8 0 0 0),(15,.y (.int .i64 k))]
def liM (d:Rd) (k:Nat):List ay:=[.box 30 (aX true d.p),.box 30 (aX false d.w),.dead,.dead,.dead,afh d.r.length (g_ d.r k),.dead,.box 44 (Mi d.x d.r 5),.box 30 (aX true d.q)]
def liS (l:List cB) (i:Nat) (d:Rd) (_:Unit):Exit×List AV×List ay:=(.exit 2,mkT 122 [(1,R.uj true l),(2,.ptr 0 0 0 0),(5,.y (.bool true)),(6,.y (.int .i64 i)),(7,.ptr 1 0 0 0),(8,.y (.int .i64 d.e)),(11,.ptr 8 0 0 0)],[.box 30 (aX true d.p),.box 30 (aX false d.w),.dead,.dead,.dead,.dead,.dead,.dead,.box 30 (aX true d.q)])
noncomputable def liH:aC Tryz.prog:=dO (hh _ bO bM bL) (uL 4 18 3 786 noSh)
def aeF (l:List cB) (i:Nat) (d:Rd) (k:{ k:Nat // k<=d.r.length }):Prop :=
 (decide ((k.val:Int)<(d.r.length:Int))=true->0<=(k.val:Int)/\(k.val:Int)<(d.r.length:Int)/\decide (Int.toNat (k.val:Int)=Int.toNat (k.val:Int))=true/\∃ (j:{ k:Nat // k<=d.r.length }),d.r.length - j.val<d.r.length - k.val/\(((true=true/\l.length=l.length/\aj l.length 10 (ah bS l) (ah bS l))/\(0=0/\0=0)/\true=true/\(i:Int)=(i:Int)/\(0=0/\0=0)/\d.e=d.e/\(0=0/\0=0)/\(0=0/\0=0)/\IntKind.i64.wrap ((k.val:Int)+1)=(j.val:Int)/\True)/\(((bP true true d.p d.p)/\(bP false false d.w d.w)/\(d.r.length=d.r.length/\(((true=true/\77=(g_ d.r j.val (Int.toNat (k.val:Int))).off)/\(true=true/\(g_ d.r k.val (Int.toNat (k.val:Int))).key=(g_ d.r j.val (Int.toNat (k.val:Int))).key)/\((g_ d.r j.val (Int.toNat (k.val:Int))).val.length=(g_ d.r k.val (Int.toNat (k.val:Int))).val.length/\aj (g_ d.r j.val (Int.toNat (k.val:Int))).val.length 1 (ah aJ (g_ d.r k.val (Int.toNat (k.val:Int))).val) (ah aJ (g_ d.r j.val (Int.toNat (k.val:Int))).val))/\(true=true/\(g_ d.r k.val (Int.toNat (k.val:Int))).prod=(g_ d.r j.val (Int.toNat (k.val:Int))).prod)/\(true=true/\(g_ d.r k.val (Int.toNat (k.val:Int))).seq=(g_ d.r j.val (Int.toNat (k.val:Int))).seq)/\True)/\True)/\∀ k_1,k_1<d.r.length->¬k_1=Int.toNat (k.val:Int)->(g_ d.r k.val k_1).off=(g_ d.r j.val k_1).off/\(g_ d.r k.val k_1).key=(g_ d.r j.val k_1).key/\((g_ d.r k.val k_1).val.length=(g_ d.r j.val k_1).val.length/\aj (g_ d.r k.val k_1).val.length 1 (ah aJ (g_ d.r k.val k_1).val) (ah aJ (g_ d.r j.val k_1).val))/\(g_ d.r k.val k_1).prod=(g_ d.r j.val k_1).prod/\(g_ d.r k.val k_1).seq=(g_ d.r j.val k_1).seq/\True)/\(d.x.err=d.x.err/\d.x.off=d.x.off/\d.x.old=d.x.old/\(0=0/\d.r.length=d.r.length)/\True)/\(bP true true d.q d.q)/\True)/\True)/\true=true)/\true=true/\()=())/\(decide ((k.val:Int)<(d.r.length:Int))=false->((true=true/\l.length=l.length/\aj l.length 10 (ah bS l) (ah bS l))/\(0=0/\0=0)/\true=true/\(i:Int)=(i:Int)/\(0=0/\0=0)/\d.e=d.e/\(0=0/\0=0)/\True)/\((bP true true d.p d.p)/\(bP false false d.w d.w)/\(bP true true d.q d.q)/\True)/\true=true)
theorem YK (l:List cB) (i:Nat) (d:Rd) (k:{ k:Nat // k<=d.r.length }):(bR Tryz.prog liH 4 16 (fun (k:{ k:Nat // k<=d.r.length })=>d.r.length - k.1) (fun k=>liT l i d.e k.1) (fun k=>liM d k.1) Rb (fun _=>.ret ()) (liS l i d) k)=aeF l i d k:=by kernel_rfl
noncomputable def aeY (d:Rd):aC Tryz.prog:=nk (dO (hh _ bO (cs1 4 7 1 (Q.acJ true d.p) (cs1 4 7 2 (J.adQ (dA d.p) d.w d.e) (cs1 4 8 5 (ail true d.p d.c d.q d.x d.r) (cs1 4 9 5 (R.adj d.p d.c d.q d.x) (cs1 4 10 2 (ahM d.q) (cs1 4 11 2 (ahu d.x) (cs1 4 14 1 aiT (cs1 4 19 5 (R.Wu true false d.p d.w) bM)))))))) bL) noSh) [21]
noncomputable def ahz (d:Rd):aC Tryz.prog:=nk (dO (hh _ bO (cs1 4 7 1 (Q.acJ true d.p) (cs1 4 7 2 (J.adQ (dA d.p) d.w d.e) (cs1 4 8 5 (ai0 true d.p d.c d.q d.x d.r) (cs1 4 9 5 (R.adj d.p d.c d.q d.x) (cs1 4 10 2 (afa d.q) (cs1 4 11 2 (ahu d.x) (cs1 4 14 1 (N.sqC d.q) (cs1 4 19 5 (R.Wu true false d.p d.w) bM)))))))) bL) noSh) [21]
noncomputable def U9 (l:List cB) (i:Nat) (d:Rd):aC Tryz.prog:=nk (dO (hh _ (mU 4 16 (dM (fun (k:{ k:Nat // k<=d.r.length })=>liT l i d.e k.1) (fun k=>liM d k.1) Rb (fun _=>.ret ()) (liS l i d) ⟨0,Nat.zero_le _⟩) bO) (cs1 4 7 1 (Q.acJ true d.p) (cs1 4 7 2 (J.adQ (dA d.p) d.w d.e) (cs1 4 8 5 (ai4 true d.p d.c d.q d.x d.r) (cs1 4 9 5 (R.adj d.p d.c d.q d.x) (cs1 4 10 2 (afa d.q) (cs1 4 11 2 (ai7 d.x d.r) (cs1 4 14 1 (N.sqC d.q) (cs1 4 19 5 (R.Wu true false d.p d.w) bM)))))))) bL) noSh) [21]
def Uz (l:List cB) (f:Nat->Part) (d:Rd) (i:Nat):Prop :=
 (decide ((i:Int)<(l.length:Int))=true->((bP true true (f i) (f i))/\True)/\True/\FV (f i)/\((lD (Q.dA (f i)) (Q.dA (f i)))/\True)/\True/\J.yN (Q.dA (f i))/\(d.w,d.e)=J.nE (Q.dA (f i))/\(true&&decide ((i:Int)<(l.length:Int)))=true/\((bP true true (f i) (f i))/\(R.sU (l.getD (Int.toNat (i:Int)) default) (l.getD i default))/\True)/\True/\tX (f i) (l.getD i default) (f (i+1)) d.x d.r 0/\(true&&decide ((i:Int)<(l.length:Int)))=true/\((bP true true (f i) (f i))/\(R.sU (l.getD (Int.toNat (i:Int)) default) (l.getD i default))/\True)/\True/\QoR (f i) (l.getD i default) (f (i+1)) d.x/\((ByteArray.empty=ByteArray.empty/\ByteArray.empty=ByteArray.empty/\(0:Int)=0/\(0:Int)=0/\(true=true/\0=0/\aj 0 5 (ah encR []) (ah encR []))/\(true=true/\0=0/\aj 0 4 (ah P.ak []) (ah P.ak []))/\(true=true/\0=0/\aj 0 2 (ah aD []) (ah aD []))/\True)/\(bP true true (f (i+1)) (f (i+1)))/\True)/\True/\f (i+1)=@default Part instInhabitedPart/\((d.x.err=d.x.err/\d.x.off=d.x.off/\d.x.old=d.x.old/\True/\True)/\(d.x.err=d.x.err/\d.x.off=d.x.off/\d.x.old=d.x.old/\(true=true/\d.x.recs.length=d.x.recs.length/\aj d.x.recs.length 5 (ah encR d.x.recs) (ah encR d.x.recs))/\True)/\True)/\True/\d.x.recs=[]/\(false=true->False)/\(false=false->(false=true->False)/\(false=false->((ByteArray.empty=ByteArray.empty/\ByteArray.empty=ByteArray.empty/\(0:Int)=0/\(0:Int)=0/\(true=true/\0=0/\aj 0 5 (ah encR []) (ah encR []))/\(true=true/\0=0/\aj 0 4 (ah P.ak []) (ah P.ak []))/\(true=true/\0=0/\aj 0 2 (ah aD []) (ah aD []))/\True)/\True)/\True/\((d.e != 0)=true->∃ j:Nat,l.length - j<l.length - i/\(((true=true/\l.length=l.length/\aj l.length 10 (ah bS l) (ah bS l))/\(0=0/\0=0)/\true=true/\IntKind.i64.wrap ((i:Int)+1)=(j:Int)/\True)/\((bP true true (f (i+1)) (f j))/\True)/\true=true)/\true=true/\()=())/\((d.e != 0)=false->((bP true true (f i) (f i))/\(bP false false d.w d.w)/\True)/\True/\eH (f i)/\((!eG (f i) d.w)=true->False)/\((!eG (f i) d.w)=false->∃ j:Nat,l.length - j<l.length - i/\(((true=true/\l.length=l.length/\aj l.length 10 (ah bS l) (ah bS l))/\(0=0/\0=0)/\true=true/\IntKind.i64.wrap ((i:Int)+1)=(j:Int)/\True)/\((bP true true (f (i+1)) (f j))/\True)/\true=true)/\true=true/\()=())))))/\(decide ((i:Int)<(l.length:Int))=false->((0=0/\0=0)/\true=true/\True)/\((bP true true (f i) (f l.length))/\True)/\true=true)
theorem Sm (l:List cB) (f:Nat->Part) (d:Rd) (i:Nat):(bR Tryz.prog (aeY ⟨f i,d.w,d.e,l.getD i default,f (i+1),d.x,d.r⟩) 4 5 (fun i=>l.length - i) (lwT l) (XJ f) Rb (fun _=>.ret ()) (lwS f l.length) i)=Uz l f d i:=by kernel_rfl
def UU (l:List cB) (f:Nat->Part) (d:Rd) (i:Nat):Prop :=
 (decide ((i:Int)<(l.length:Int))=true->((bP true true (f i) (f i))/\True)/\True/\FV (f i)/\((lD (Q.dA (f i)) (Q.dA (f i)))/\True)/\True/\J.yN (Q.dA (f i))/\(d.w,d.e)=J.nE (Q.dA (f i))/\(true&&decide ((i:Int)<(l.length:Int)))=true/\((bP true true (f i) (f i))/\(R.sU (l.getD (Int.toNat (i:Int)) default) (l.getD i default))/\True)/\True/\tX (f i) (l.getD i default) (f (i+1)) d.x d.r 1/\(true&&decide ((i:Int)<(l.length:Int)))=true/\((bP true true (f i) (f i))/\(R.sU (l.getD (Int.toNat (i:Int)) default) (l.getD i default))/\True)/\True/\QoR (f i) (l.getD i default) (f (i+1)) d.x/\(((f (i+1)).rng.lo=(f (i+1)).rng.lo/\(f (i+1)).rng.hi=(f (i+1)).rng.hi/\(f (i+1)).epoch=(f (i+1)).epoch/\(f (i+1)).frozen=(f (i+1)).frozen/\(false=false/\(f (i+1)).recs.length=(f (i+1)).recs.length/\aj (f (i+1)).recs.length 5 (Ax.rowAt 0 fun (k j:Nat)=>PU (K5 (f (i+1)).recs k j)) (ah fI (f (i+1)).recs))/\(false=false/\(f (i+1)).prods.length=(f (i+1)).prods.length/\aj (f (i+1)).prods.length 4 (Ax.rowAt 0 (ah P.ak (f (i+1)).prods)) (ah P.ak (f (i+1)).prods))/\(false=false/\(f (i+1)).cons.length=(f (i+1)).cons.length/\aj (f (i+1)).cons.length 2 (Ax.rowAt 0 (ah aD (f (i+1)).cons)) (ah aD (f (i+1)).cons))/\True)/\(bP true true (f (i+1)) (f (i+1)))/\True)/\True/\wo (f (i+1))/\true=true/\True/\((d.x.err=d.x.err/\d.x.off=d.x.off/\d.x.old=d.x.old/\True/\True)/\(d.x.err=d.x.err/\d.x.off=d.x.off/\d.x.old=d.x.old/\(true=true/\d.x.recs.length=d.x.recs.length/\aj d.x.recs.length 5 (ah encR d.x.recs) (ah encR d.x.recs))/\True)/\True)/\True/\d.x.recs=[]/\(false=true->False)/\(false=false->(false=true->False)/\(false=false->(((f (i+1)).rng.lo=(f (i+1)).rng.lo/\(f (i+1)).rng.hi=(f (i+1)).rng.hi/\(f (i+1)).epoch=(f (i+1)).epoch/\(f (i+1)).frozen=(f (i+1)).frozen/\(0=0/\(f (i+1)).recs.length=(f (i+1)).recs.length)/\(0=0/\(f (i+1)).prods.length=(f (i+1)).prods.length)/\(0=0/\(f (i+1)).cons.length=(f (i+1)).cons.length)/\True)/\True)/\(((f (i+1)).recs.length=(f (i+1)).recs.length/\∀ k,k<(f (i+1)).recs.length->((f (i+1)).recs.getD k default).off=((f (i+1)).recs.getD k default).off/\((f (i+1)).recs.getD k default).key=((f (i+1)).recs.getD k default).key/\(((f (i+1)).recs.getD k default).val.length=((f (i+1)).recs.getD k default).val.length/\aj ((f (i+1)).recs.getD k default).val.length 1 (ah aJ ((f (i+1)).recs.getD k default).val) (ah aJ ((f (i+1)).recs.getD k default).val))/\((f (i+1)).recs.getD k default).prod=((f (i+1)).recs.getD k default).prod/\((f (i+1)).recs.getD k default).seq=((f (i+1)).recs.getD k default).seq/\True)/\((f (i+1)).prods.length=(f (i+1)).prods.length/\aj (f (i+1)).prods.length 4 (ah P.ak (f (i+1)).prods) (ah P.ak (f (i+1)).prods))/\((f (i+1)).cons.length=(f (i+1)).cons.length/\aj (f (i+1)).cons.length 2 (ah aD (f (i+1)).cons) (ah aD (f (i+1)).cons))/\True)/\qj (f (i+1))/\((d.e != 0)=true->∃ j:Nat,l.length - j<l.length - i/\(((true=true/\l.length=l.length/\aj l.length 10 (ah bS l) (ah bS l))/\(0=0/\0=0)/\true=true/\IntKind.i64.wrap ((i:Int)+1)=(j:Int)/\True)/\((bP true true (f (i+1)) (f j))/\True)/\true=true)/\true=true/\()=())/\((d.e != 0)=false->((bP true true (f i) (f i))/\(bP false false d.w d.w)/\True)/\True/\eH (f i)/\((!eG (f i) d.w)=true->False)/\((!eG (f i) d.w)=false->∃ j:Nat,l.length - j<l.length - i/\(((true=true/\l.length=l.length/\aj l.length 10 (ah bS l) (ah bS l))/\(0=0/\0=0)/\true=true/\IntKind.i64.wrap ((i:Int)+1)=(j:Int)/\True)/\((bP true true (f (i+1)) (f j))/\True)/\true=true)/\true=true/\()=())))))/\(decide ((i:Int)<(l.length:Int))=false->((0=0/\0=0)/\true=true/\True)/\((bP true true (f i) (f l.length))/\True)/\true=true)
theorem Sv (l:List cB) (f:Nat->Part) (d:Rd) (i:Nat):(bR Tryz.prog (ahz ⟨f i,d.w,d.e,l.getD i default,f (i+1),d.x,d.r⟩) 4 5 (fun i=>l.length - i) (lwT l) (XJ f) Rb (fun _=>.ret ()) (lwS f l.length) i)=UU l f d i:=by kernel_rfl
def UE (l:List cB) (f:Nat->Part) (d:Rd) (i:Nat):Prop :=
 (decide ((i:Int)<(l.length:Int))=true->((bP true true (f i) (f i))/\True)/\True/\FV (f i)/\((lD (Q.dA (f i)) (Q.dA (f i)))/\True)/\True/\J.yN (Q.dA (f i))/\(d.w,d.e)=J.nE (Q.dA (f i))/\(true&&decide ((i:Int)<(l.length:Int)))=true/\((bP true true (f i) (f i))/\(R.sU (l.getD (Int.toNat (i:Int)) default) (l.getD i default))/\True)/\True/\tX (f i) (l.getD i default) (f (i+1)) d.x d.r 2/\(true&&decide ((i:Int)<(l.length:Int)))=true/\((bP true true (f i) (f i))/\(R.sU (l.getD (Int.toNat (i:Int)) default) (l.getD i default))/\True)/\True/\QoR (f i) (l.getD i default) (f (i+1)) d.x/\(((f (i+1)).rng.lo=(f (i+1)).rng.lo/\(f (i+1)).rng.hi=(f (i+1)).rng.hi/\(f (i+1)).epoch=(f (i+1)).epoch/\(f (i+1)).frozen=(f (i+1)).frozen/\(false=false/\(f (i+1)).recs.length=(f (i+1)).recs.length/\aj (f (i+1)).recs.length 5 (Ax.rowAt 0 fun (k j:Nat)=>PU (K5 (f (i+1)).recs k j)) (ah fI (f (i+1)).recs))/\(false=false/\(f (i+1)).prods.length=(f (i+1)).prods.length/\aj (f (i+1)).prods.length 4 (Ax.rowAt 0 (ah P.ak (f (i+1)).prods)) (ah P.ak (f (i+1)).prods))/\(false=false/\(f (i+1)).cons.length=(f (i+1)).cons.length/\aj (f (i+1)).cons.length 2 (Ax.rowAt 0 (ah aD (f (i+1)).cons)) (ah aD (f (i+1)).cons))/\True)/\(bP true true (f (i+1)) (f (i+1)))/\True)/\True/\wo (f (i+1))/\true=true/\True/\((d.x.err=d.x.err/\d.x.off=d.x.off/\d.x.old=d.x.old/\(false=false/\d.r.length=d.r.length/\aj d.r.length 5 (Ax.rowAt 0 fun (k j:Nat)=>PU (K5 d.r k j)) (ah fI d.r))/\True)/\(d.x.err=d.x.err/\d.x.off=d.x.off/\d.x.old=d.x.old/\(true=true/\d.x.recs.length=d.x.recs.length/\aj d.x.recs.length 5 (ah encR d.x.recs) (ah encR d.x.recs))/\True)/\True)/\True/\(d.r.length<=9223372036854775806/\d.r=d.x.recs)/\true=true/\True/\(false=true->False)/\(false=false->(false=true->False)/\(false=false->(((f (i+1)).rng.lo=(f (i+1)).rng.lo/\(f (i+1)).rng.hi=(f (i+1)).rng.hi/\(f (i+1)).epoch=(f (i+1)).epoch/\(f (i+1)).frozen=(f (i+1)).frozen/\(0=0/\(f (i+1)).recs.length=(f (i+1)).recs.length)/\(0=0/\(f (i+1)).prods.length=(f (i+1)).prods.length)/\(0=0/\(f (i+1)).cons.length=(f (i+1)).cons.length)/\True)/\True)/\(((f (i+1)).recs.length=(f (i+1)).recs.length/\∀ k,k<(f (i+1)).recs.length->((f (i+1)).recs.getD k default).off=((f (i+1)).recs.getD k default).off/\((f (i+1)).recs.getD k default).key=((f (i+1)).recs.getD k default).key/\(((f (i+1)).recs.getD k default).val.length=((f (i+1)).recs.getD k default).val.length/\aj ((f (i+1)).recs.getD k default).val.length 1 (ah aJ ((f (i+1)).recs.getD k default).val) (ah aJ ((f (i+1)).recs.getD k default).val))/\((f (i+1)).recs.getD k default).prod=((f (i+1)).recs.getD k default).prod/\((f (i+1)).recs.getD k default).seq=((f (i+1)).recs.getD k default).seq/\True)/\((f (i+1)).prods.length=(f (i+1)).prods.length/\aj (f (i+1)).prods.length 4 (ah P.ak (f (i+1)).prods) (ah P.ak (f (i+1)).prods))/\((f (i+1)).cons.length=(f (i+1)).cons.length/\aj (f (i+1)).cons.length 2 (ah aD (f (i+1)).cons) (ah aD (f (i+1)).cons))/\True)/\qj (f (i+1))/\(((true=true/\l.length=l.length/\aj l.length 10 (ah bS l) (ah bS l))/\(0=0/\0=0)/\true=true/\(i:Int)=(i:Int)/\(0=0/\0=0)/\d.e=d.e/\(0=0/\0=0)/\(0=0/\0=0)/\(0:Int)=0/\True)/\((bP true true (f i) (f i))/\(bP false false d.w d.w)/\(d.r.length=d.r.length/\∀ k,k<d.r.length->(d.r.getD k default).off=(g_ d.r 0 k).off/\(d.r.getD k default).key=(g_ d.r 0 k).key/\((d.r.getD k default).val.length=(g_ d.r 0 k).val.length/\aj (d.r.getD k default).val.length 1 (ah aJ (d.r.getD k default).val) (ah aJ (g_ d.r 0 k).val))/\(d.r.getD k default).prod=(g_ d.r 0 k).prod/\(d.r.getD k default).seq=(g_ d.r 0 k).seq/\True)/\(d.x.err=d.x.err/\d.x.off=d.x.off/\d.x.old=d.x.old/\(0=0/\d.r.length=d.r.length)/\True)/\(bP true true (f (i+1)) (f (i+1)))/\True)/\true=true)/\aM Tryz.prog 4 16 (aN Tryz.prog 4 16) { t:=liT l i { p:=f i,w:=d.w,e:=d.e,c:=l.getD i default,q:=f (i+1),x:=d.x,r:=d.r:Rd }.e (⟨0,U9._proof_1 { p:=f i,w:=d.w,e:=d.e,c:=l.getD i default,q:=f (i+1),x:=d.x,r:=d.r:Rd }⟩:{ k:Nat // k<=List.length { p:=f i,w:=d.w,e:=d.e,c:=l.getD i default,q:=f (i+1),x:=d.x,r:=d.r:Rd }.r }).val,m:=liM { p:=f i,w:=d.w,e:=d.e,c:=l.getD i default,q:=f (i+1),x:=d.x,r:=d.r:Rd } (⟨0,U9._proof_1 { p:=f i,w:=d.w,e:=d.e,c:=l.getD i default,q:=f (i+1),x:=d.x,r:=d.r:Rd }⟩:{ k:Nat // k<=List.length { p:=f i,w:=d.w,e:=d.e,c:=l.getD i default,q:=f (i+1),x:=d.x,r:=d.r:Rd }.r }).val,mv:=[]:St } (T.map (bJ Rb (liS l i { p:=f i,w:=d.w,e:=d.e,c:=l.getD i default,q:=f (i+1),x:=d.x,r:=d.r:Rd })) ((fun (x:{ k:Nat // k<=List.length { p:=f i,w:=d.w,e:=d.e,c:=l.getD i default,q:=f (i+1),x:=d.x,r:=d.r:Rd }.r })=>T.ret ()) (⟨0,U9._proof_1 { p:=f i,w:=d.w,e:=d.e,c:=l.getD i default,q:=f (i+1),x:=d.x,r:=d.r:Rd }⟩:{ k:Nat // k<=List.length { p:=f i,w:=d.w,e:=d.e,c:=l.getD i default,q:=f (i+1),x:=d.x,r:=d.r:Rd }.r })))/\((d.e != 0)=true->∃ j:Nat,l.length - j<l.length - i/\(((true=true/\l.length=l.length/\aj l.length 10 (ah bS l) (ah bS l))/\(0=0/\0=0)/\true=true/\IntKind.i64.wrap ((i:Int)+1)=(j:Int)/\True)/\((bP true true (f (i+1)) (f j))/\True)/\true=true)/\true=true/\()=())/\((d.e != 0)=false->((bP true true (f i) (f i))/\(bP false false d.w d.w)/\True)/\True/\eH (f i)/\((!eG (f i) d.w)=true->False)/\((!eG (f i) d.w)=false->∃ j:Nat,l.length - j<l.length - i/\(((true=true/\l.length=l.length/\aj l.length 10 (ah bS l) (ah bS l))/\(0=0/\0=0)/\true=true/\IntKind.i64.wrap ((i:Int)+1)=(j:Int)/\True)/\((bP true true (f (i+1)) (f j))/\True)/\true=true)/\true=true/\()=())))))/\(decide ((i:Int)<(l.length:Int))=false->((0=0/\0=0)/\true=true/\True)/\((bP true true (f i) (f l.length))/\True)/\true=true)
theorem Tq (l:List cB) (f:Nat->Part) (d:Rd) (i:Nat):(bR Tryz.prog (U9 l i ⟨f i,d.w,d.e,l.getD i default,f (i+1),d.x,d.r⟩) 4 5 (fun i=>l.length - i) (lwT l) (XJ f) Rb (fun _=>.ret ()) (lwS f l.length) i)=UE l f d i:=by kernel_rfl
noncomputable def ldH (p:Part) (l:List cB) (f:Nat->Part) (z q:Part) (e:Int):aC Tryz.prog:=hh _ (mU 4 5 (dM (lwT l) (XJ f) Rb (fun _=>.ret ()) (lwS f l.length) 0) bO) (cs1 4 1 0 J.aiJ (cs1 4 2 1 (pcC true p) (cs1 4 2 3 (Q.ckC true p) (cs1 4 23 4 (nwC z q e) (cs1 4 24 4 (ahN z q e) (cs1 4 25 2 (R.Wu true true q q) bM)))))) bL
def agY (p:Part) (l:List cB) (f:Nat->Part) (q:Part) (e:Int):Prop :=
 True/\True/\((bP true true p p)/\True)/\True/\eH p/\(aH p=true->((bP true true p p)/\True)/\True/\zP p/\(aH p=true->(((true=true/\l.length=l.length/\aj l.length 10 (ah bS l) (ah bS l))/\(0=0/\0=0)/\true=true/\(0:Int)=0/\True)/\((bP true true p (f 0))/\True)/\true=true)/\aM Tryz.prog 4 5 (aN Tryz.prog 4 5) { t:=lwT l 0,m:=XJ f 0,mv:=[]:St } (T.map (bJ Rb (lwS f l.length)) ((fun (x:Nat)=>T.ret ()) 0))/\(((f l.length).rng.lo=(f l.length).rng.lo/\(f l.length).rng.hi=(f l.length).rng.hi/\True)/\(f l.length).epoch=(f l.length).epoch/\True)/\True/\(q=Gb (f l.length)/\e=J4 (f l.length))/\(((f l.length).rng.lo=(f l.length).rng.lo/\(f l.length).rng.hi=(f l.length).rng.hi/\True)/\(f l.length).epoch=(f l.length).epoch/\True)/\True/\(q=Gb (f l.length)/\e=J4 (f l.length))/\((bP true true q q)/\(bP true true q q)/\True)/\True/\eH q/\(true=true->(eG q q=true->(e==e)=true/\True)/\(eG q q=false->false=true/\True))/\(true=false->false=true/\True))/\(aH p=false->false=true/\True))/\(aH p=false->((bP true true p p)/\True)/\True/\zP p/\(aH p=true->false=true/\True)/\(aH p=false->(((true=true/\l.length=l.length/\aj l.length 10 (ah bS l) (ah bS l))/\(0=0/\0=0)/\true=true/\(0:Int)=0/\True)/\((bP true true p (f 0))/\True)/\true=true)/\aM Tryz.prog 4 5 (aN Tryz.prog 4 5) { t:=lwT l 0,m:=XJ f 0,mv:=[]:St } (T.map (bJ Rb (lwS f l.length)) ((fun (x:Nat)=>T.ret ()) 0))/\(((f l.length).rng.lo=(f l.length).rng.lo/\(f l.length).rng.hi=(f l.length).rng.hi/\True)/\(f l.length).epoch=(f l.length).epoch/\True)/\True/\(q=Gb (f l.length)/\e=J4 (f l.length))/\(((f l.length).rng.lo=(f l.length).rng.lo/\(f l.length).rng.hi=(f l.length).rng.hi/\True)/\(f l.length).epoch=(f l.length).epoch/\True)/\True/\(q=Gb (f l.length)/\e=J4 (f l.length))/\((bP true true q q)/\(bP true true q q)/\True)/\True/\eH q/\(true=true->(eG q q=true->(e==e)=true/\True)/\(eG q q=false->false=true/\True))/\(true=false->false=true/\True)))
theorem Yt (p:Part) (l:List cB) (f:Nat->Part) (q:Part) (e:Int):(bf Tryz.prog (ldH p l f (f l.length) q e) 4 [.agg (aX true p),R.uj true l] [] (aZ true))=agY p l f q e:=by kernel_rfl
theorem YB (l:List cB) (i:Nat) (d:Rd) (hn:d.r.length<=4096) (k:{ k:Nat // k<=d.r.length }):aM Tryz.prog 4 16 (aN Tryz.prog 4 16) ⟨liT l i d.e k.1,liM d k.1,[]⟩ (T.map (bJ Rb (liS l i d)) (.ret ())):=by
 refine dL (o:=fun _=>.ret ()) (sS:=fun (k:{ k:Nat // k<=d.r.length })=>liT l i d.e k.1) (stM:=fun k=>liM d k.1) Tryz.mixed (fun _=>rfl) (fun k=>(YK l i d k).mpr ?_) k
 unfold aeF
 obtain ⟨k,hk⟩:=k
 refine ⟨fun h1=>?_,fun h1=>?_⟩
 · have hlt:k<d.r.length:=by simpa using h1
   have hex:∀ q:{ k:Nat // k<=d.r.length }->Prop,q ⟨k+1,hlt⟩->∃ j,q j:=fun q hq=>⟨_,hq⟩
   have hw:IntKind.i64.wrap ((k:Int)+1)=((k+1:Nat):Int):=by rw [wrap_i64 (by omega) (by omega)];omega
   have e0:g_ d.r k k=d.r.getD k default:=if_neg (Nat.lt_irrefl k)
   have e1:g_ d.r (k+1) k=Bl (d.r.getD k default):=if_pos (Nat.lt_succ_self k)
   have e2:∀ q,¬ q=k->g_ d.r k q=g_ d.r (k+1) q:=fun q h=>by
    unfold g_
    by_cases h2:q<k
    · rw [if_pos h2,if_pos (by omega)]
    · rw [if_neg h2,if_neg (by omega)]
   simp only [Int.toNat_natCast,e0]
   refine ⟨by omega,by omega,by simp,hex _ ?_⟩
   simp only [e1]
   repeat' with_reducible apply And.intro
   all_goals first
    | with_reducible rfl
    | exact trivial
    | exact hw
    | exact aG _ _ _
    | (show _ - (k+1)<_ - k;omega)
    | (intro q _ hq;rw [e2 q hq];simp;done)
    | exact rfl
 · have:k=d.r.length:=by simp at h1;omega
   subst this
   simp
theorem wX (r:List Rec) (k:Nat):g_ r 0 k=r.getD k default:=if_neg (Nat.not_lt_zero k)
structure VX (d:Rd):Prop where
 b:Q.FV d.p
 rl:J.yN (dA d.p)
 w:(d.w,d.e)=J.nE (dA d.p)
 qo:QoR d.p d.c d.q d.x
 i:eH d.p
 s:d.e=0->eG d.p d.w=true
 k:(tX d.p d.c d.q d.x d.r 0/\d.q=default/\d.x.recs=[])∨(tX d.p d.c d.q d.x d.r 1/\wo d.q/\qj d.q/\d.x.recs=[])∨(tX d.p d.c d.q d.x d.r 2/\wo d.q/\qj d.q/\d.r=d.x.recs/\d.r.length<=4096)
theorem ag6 (l:List cB) (f:Nat->Part) (d:Rd) (i:Nat) (hn:l.length<=9223372036854775806) (he:l.length<=i->f i=f l.length) (h:i<l.length->VX ⟨f i,d.w,d.e,l.getD i default,f (i+1),d.x,d.r⟩/\mJ (f i) (l.getD i default)=0):Uz l f d i:=by
 unfold Uz
 by_cases hi:i<l.length
 · have hz:decide ((i:Int)<l.length)=true:=by simp;omega
   have hw:IntKind.i64.wrap ((i:Int)+1)=((i+1:Nat):Int):=by rw [wrap_i64 (by omega) (by omega)];omega
   obtain ⟨⟨h1,h2,h3,h4,h5,h6,h7⟩,h8⟩:=h hi
   simp only at h1 h2 h3 h4 h5 h6 h7
   have h7:tX (f i) (l.getD i default) (f (i+1)) d.x d.r 0/\f (i+1)=default/\d.x.recs=[]:=by
    rcases h7 with h | h | h
    all_goals first
     | exact h
     | (have:=h.1.k;rw [h8] at this;cases this)
   obtain ⟨a1,a2,a3⟩:=h7
   have hex:∀ q:Nat->Prop,q (i+1)->∃ j,q j:=fun q hq=>⟨_,hq⟩
   rw [Int.toNat_natCast]
   simp only [hz,hw,nG,wX]
   generalize l.getD i default=c at *
   generalize f i=p at *
   generalize hq:f (i+1)=q at *
   have hs:(d.e != 0)=false->eG p d.w=true:=fun h=>h6 (by simpa using h)
   repeat' first
    | with_reducible apply And.intro
    | (with_reducible intro hf;exact absurd hf (by decide))
    | with_reducible intro _
   all_goals first
    | with_reducible rfl
    | exact trivial
    | assumption
    | exact aG _ _ _
    | (refine hex _ ?_;simp [hq];omega)
    | (exfalso;simp_all;done)
    | (simp [*];done)
    | exact rfl
    | (rw [rowAt_zero];exact nG _ _)
 · have hz:decide ((i:Int)<l.length)=false:=by simp;omega
   simp only [hz,he (by omega)]
   simp
theorem aeZ (l:List cB) (f:Nat->Part) (d:Rd) (i:Nat) (hn:l.length<=9223372036854775806) (he:l.length<=i->f i=f l.length) (h:i<l.length->VX ⟨f i,d.w,d.e,l.getD i default,f (i+1),d.x,d.r⟩/\mJ (f i) (l.getD i default)=1):UU l f d i:=by
 unfold UU
 by_cases hi:i<l.length
 · have hz:decide ((i:Int)<l.length)=true:=by simp;omega
   have hw:IntKind.i64.wrap ((i:Int)+1)=((i+1:Nat):Int):=by rw [wrap_i64 (by omega) (by omega)];omega
   obtain ⟨⟨h1,h2,h3,h4,h5,h6,h7⟩,h8⟩:=h hi
   simp only at h1 h2 h3 h4 h5 h6 h7
   have h7:tX (f i) (l.getD i default) (f (i+1)) d.x d.r 1/\wo (f (i+1))/\qj (f (i+1))/\d.x.recs=[]:=by
    rcases h7 with h | h | h
    all_goals first
     | exact h
     | (have:=h.1.k;rw [h8] at this;cases this)
   obtain ⟨a1,a2,a3,a4⟩:=h7
   have hex:∀ q:Nat->Prop,q (i+1)->∃ j,q j:=fun q hq=>⟨_,hq⟩
   rw [Int.toNat_natCast]
   simp only [hz,hw,nG,wX]
   generalize l.getD i default=c at *
   generalize f i=p at *
   generalize hq:f (i+1)=q at *
   have hs:(d.e != 0)=false->eG p d.w=true:=fun h=>h6 (by simpa using h)
   repeat' first
    | with_reducible apply And.intro
    | (with_reducible intro hf;exact absurd hf (by decide))
    | with_reducible intro _
   all_goals first
    | with_reducible rfl
    | exact trivial
    | assumption
    | exact aG _ _ _
    | (refine hex _ ?_;simp [hq];omega)
    | (exfalso;simp_all;done)
    | (simp [*];done)
    | exact rfl
    | (rw [rowAt_zero];exact nG _ _)
 · have hz:decide ((i:Int)<l.length)=false:=by simp;omega
   simp only [hz,he (by omega)]
   simp
theorem ahx (l:List cB) (f:Nat->Part) (d:Rd) (i:Nat) (hn:l.length<=9223372036854775806) (he:l.length<=i->f i=f l.length) (h:i<l.length->VX ⟨f i,d.w,d.e,l.getD i default,f (i+1),d.x,d.r⟩/\mJ (f i) (l.getD i default)=2):UE l f d i:=by
 unfold UE
 by_cases hi:i<l.length
 · have hz:decide ((i:Int)<l.length)=true:=by simp;omega
   have hw:IntKind.i64.wrap ((i:Int)+1)=((i+1:Nat):Int):=by rw [wrap_i64 (by omega) (by omega)];omega
   obtain ⟨⟨h1,h2,h3,h4,h5,h6,h7⟩,h8⟩:=h hi
   simp only at h1 h2 h3 h4 h5 h6 h7
   have h7:tX (f i) (l.getD i default) (f (i+1)) d.x d.r 2/\wo (f (i+1))/\qj (f (i+1))/\d.r=d.x.recs/\d.r.length<=4096:=by
    rcases h7 with h | h | h
    all_goals first
     | exact h
     | (have:=h.1.k;rw [h8] at this;cases this)
   obtain ⟨a1,a2,a3,a4,a5⟩:=h7
   have hex:∀ q:Nat->Prop,q (i+1)->∃ j,q j:=fun q hq=>⟨_,hq⟩
   have lp:=YB l i ⟨f i,d.w,d.e,l.getD i default,f (i+1),d.x,d.r⟩ a5 ⟨0,Nat.zero_le _⟩
   have hr0:∀ k,g_ d.r 0 k=d.r.getD k default:=fun k=>if_neg (Nat.not_lt_zero k)
   have ar:d.r.length<=9223372036854775806:=by omega
   rw [Int.toNat_natCast]
   simp only [hz,hw,nG,wX]
   generalize l.getD i default=c at *
   generalize f i=p at *
   generalize hq:f (i+1)=q at *
   have hs:(d.e != 0)=false->eG p d.w=true:=fun h=>h6 (by simpa using h)
   repeat' first
    | with_reducible apply And.intro
    | (with_reducible intro hf;exact absurd hf (by decide))
    | with_reducible intro _
   all_goals first
    | with_reducible rfl
    | exact trivial
    | assumption
    | exact aG _ _ _
    | (refine hex _ ?_;simp [hq];omega)
    | (exfalso;simp_all;done)
    | (simp [*];done)
    | exact rfl
    | (rw [rowAt_zero];exact nG _ _)
 · have hz:decide ((i:Int)<l.length)=false:=by simp;omega
   simp only [hz,he (by omega)]
   simp
noncomputable def lwH (l:List cB) (f:Nat->Part) (D:Nat->Rd) (i:Nat):aC Tryz.prog:=match mJ (f i) (l.getD i default) with
 | 0=>aeY ⟨f i,(D i).w,(D i).e,l.getD i default,f (i+1),(D i).x,(D i).r⟩
 | 1=>ahz ⟨f i,(D i).w,(D i).e,l.getD i default,f (i+1),(D i).x,(D i).r⟩
 | _=>U9 l i ⟨f i,(D i).w,(D i).e,l.getD i default,f (i+1),(D i).x,(D i).r⟩
structure U4 (l:List cB) (f:Nat->Part) (D:Nat->Rd):Prop where
 n:l.length<=9223372036854775806
 e:∀ i,l.length<=i->f i=f l.length
 d:∀ i,i<l.length->VX ⟨f i,(D i).w,(D i).e,l.getD i default,f (i+1),(D i).x,(D i).r⟩
theorem PZ (p:Part) (c:cB):mJ p c<=2:=by
 unfold mJ
 repeat' split
 all_goals decide
theorem Zw (l:List cB) (f:Nat->Part) (D:Nat->Rd) (h:U4 l f D) (i:Nat):aM Tryz.prog 4 5 (aN Tryz.prog 4 5) ⟨lwT l i,XJ f i,[]⟩ (T.map (bJ Rb (lwS f l.length)) (.ret ())):=by
 refine dL (μ:=fun i=>l.length - i) (o:=fun _=>.ret ()) (ht:=lwH l f D) (sS:=lwT l) (stM:=XJ f) Tryz.mixed (fun _=>rfl) (fun i=>?_) i
 have hn:=h.n
 have hk:=PZ (f i) (l.getD i default)
 cases h0:mJ (f i) (l.getD i default) with
 | zero =>
   have:=ag6 l f (D i) i hn (h.e i) fun hi=>⟨h.d i hi,h0⟩
   unfold lwH
   rw [h0]
   exact (Sm l f (D i) i).mpr this
 | succ n =>
   cases n with
   | zero =>
     have:=aeZ l f (D i) i hn (h.e i) fun hi=>⟨h.d i hi,h0⟩
     unfold lwH
     rw [h0]
     exact (Sv l f (D i) i).mpr this
   | succ n =>
     have h2:mJ (f i) (l.getD i default)=2:=by omega
     have:=ahx l f (D i) i hn (h.e i) fun hi=>⟨h.d i hi,h2⟩
     unfold lwH
     rw [h2]
     exact (Tq l f (D i) i).mpr this
theorem aia (p:Part) (l:List cB) (f:Nat->Part) (D:Nat->Rd) (h:U4 l f D) (h0:f 0=p) (hi:eH p) (hk:Q.zP p):(aZ true).Sat (aB Tryz.prog 4 [.agg (aX true p),R.uj true l] []):=by
 refine aP (ht:=ldH p l f (f l.length) (Gb (f l.length)) (J4 (f l.length))) Tryz.mixed rfl ?_
 rw [Yt p l f (Gb (f l.length)) (J4 (f l.length))]
 unfold agY
 have lp:=Zw l f D h 0
 subst h0
 have hq:eH (Gb (f l.length)):=by
  unfold Gb
  split
  · exact ⟨by show (0:Nat)<=_;omega,by show (0:Nat)<=_;omega,by show (0:Nat)<=_;omega,fun k hk=>by cases hk⟩
  · exact ⟨by decide,by decide,by decide,fun k hk=>by cases hk⟩
 have hs:=R.Dk (Gb (f l.length))
 generalize Gb (f l.length)=q at *
 generalize J4 (f l.length)=e at *
 simp [lp,hi,hk,hq,hs]
end N
namespace J
structure PtT (p:Part):Prop where
 epoch:mW p.epoch
 frozen:mW p.frozen
 recs:∀ x∈p.recs,Ux x/\Bytes x.val
 prods:∀ x∈p.prods,sW x
 cons:∀ x∈p.cons,mW x.off
theorem Sb {p:Part} (h:PtT p) (ho:aH p=true):F4 p:=by
 obtain ⟨k1,k2,k3,k4,k5,_⟩:=R.SG ho
 obtain ⟨l1,l2,l3⟩:=R.Lm ho
 have hr:=D.X8 k3
 have hc:=R.D6 k5
 refine ⟨?_,h.epoch,h.frozen,⟨by omega,by omega,fun x hx=>⟨(h.recs x hx).1,(hr x hx).1,(hr x hx).2,(h.recs x hx).2⟩⟩,⟨by omega,by omega,h.prods⟩,⟨by omega,by omega,fun x hx=>⟨?_,h.cons x hx⟩⟩⟩
 · unfold fJ at k1
   by_cases hb:32<p.rng.lo.size∨32<p.rng.hi.size
   · rw [if_pos hb] at k1
     exact absurd k1 (by decide)
   · exact ⟨by omega,by omega⟩
 · have:=hc x hx
   unfold b_ at this
   simp at this
   omega
end J
end Go.Proofs.YtnbhdjadlbhknaaGreatDoor
