import Derived.Test.YtnbhdjadlbhknaaGreatDoorW6
import Derived.Test.YtnbhdjadlbhknaaGreatDoorW7
import Derived.Test.YtnbhdjadlbhknaaGreatDoorW8
import Derived.Test.YtnbhdjadlbhknaaGreatDoorW9
set_option linter.unusedVariables false
set_option linter.unusedSimpArgs false
set_option maxRecDepth 1000000
namespace Go.Proofs.YtnbhdjadlbhknaaGreatDoor
open Go.Ax
namespace J
def PW (l:List Int) (s:RS) (h:Pm) (a:List P.Producer) (c:List Con):List ay:=[.box 30 [.s (.string ByteArray.empty),.s (.string ByteArray.empty),.s (.int .u64 0),.s (.int .u64 0),.s (.slice none 0 0),.s (.slice none 0 0),.s (.slice none 0 0)],.box 95 [ig true l,.y (.int .i64 s.at_),.y (.int .i64 s.e),.y (.int .i64 s.bad)],.row 80 4 a.length none (ah P.ak a),FY c,.box 30 [.y (.string h.rng.lo),.y (.string h.rng.hi),.y (.int .u64 h.epoch),.y (.int .u64 h.frozen),dL false h.recs,.own 2 4 0 a.length,.own 3 2 0 c.length]]
def dpT (m n:Nat):List AV:=mkT 95 [(2,.ptr 0 0 0 0),(4,qP),(5,.ptr 4 0 0 0),(6,.y (.int .i64 m)),(7,.y (.int .i64 ((m - n:Nat):Int)))]
def dcT (m n:Nat):List AV:=mkT 95 [(2,.ptr 0 0 0 0),(4,qP),(5,.ptr 4 0 0 0),(6,.y (.int .i64 m)),(9,.y (.int .i64 ((m - n:Nat):Int)))]
def deT:List AV:=mkT 95 [(2,.ptr 0 0 0 0),(4,qP),(5,.ptr 4 0 0 0)]
def dpS (l:List Int) (h:Pm) (t:List P.Producer) (s':RS) (_:Unit):Exit×List AV×List ay:=(.exit 0,deT,PW l s' h t [])
def dcS (l:List Int) (h:Pm) (p:List P.Producer) (t:List Con) (s':RS) (_:Unit):Exit×List AV×List ay:=(.exit 2,deT,PW l s' h p t)
noncomputable def dpH (l:List Int) (s:RS) (a:Int) (s1:RS) (b:Int) (s2:RS) (c:Bool) (s3:RS) (d:Int) (s4:RS):aC Tryz.prog:=JJ (dO (hh _ bO (cs1 16 10 1 (Wm l s a s1) (cs1 16 11 1 (Wm l s1 b s2) (cs1 16 12 1 (qbC l s2 c s3) (cs1 16 13 1 (Wm l s3 d s4) bN)))) bM) (uL 16 14 6 4 noSh))
def agQ (l:List Int) (h:Pm) (m:Nat) (t:List P.Producer) (s':RS) (q:DQ (gH l) l m t s') (a:Int) (s1:RS) (b:Int) (s2:RS) (c:Bool) (s3:RS) (d:Int) (s4:RS):Prop :=
 (decide ((↑(m - q.n):Int)<(↑m:Int))=true->((q.s.e==(0:Int))=true->(((0:Nat)=(0:Nat)/\(0:Nat)=(0:Nat))/\True)/\((dW l q.s q.s)/\True)/\fq l q.s/\(a,s1)=aR l q.s/\(((0:Nat)=(0:Nat)/\(0:Nat)=(0:Nat))/\True)/\((dW l s1 s1)/\True)/\fq l s1/\(b,s2)=aR l s1/\(((0:Nat)=(0:Nat)/\(0:Nat)=(0:Nat))/\True)/\((dW l s2 s2)/\True)/\fq l s2/\(c,s3)=gZ l s2/\(((0:Nat)=(0:Nat)/\(0:Nat)=(0:Nat))/\True)/\((dW l s3 s3)/\True)/\fq l s3/\(d,s4)=aR l s3/\(decide (List.length q.a=List.length q.a)&&decide (List.length q.a+(1:Nat)<=(9223372036854775807:Nat))&&decide ((List.length q.a+(1:Nat))*(32:Nat)<=(140737488355328:Nat)))=true/\∃ (j:DQ (gH l) l m t s'),j.n<q.n/\((((0:Nat)=(0:Nat)/\(0:Nat)=(0:Nat))/\((0:Nat)=(0:Nat)/\(0:Nat)=(0:Nat))/\((0:Nat)=(0:Nat)/\(0:Nat)=(0:Nat))/\(↑m:Int)=(↑m:Int)/\IntKind.wrap IntKind.i64 ((↑(m - q.n):Int)+(1:Int))=(↑(m - j.n):Int)/\True)/\((ByteArray.empty=ByteArray.empty/\ByteArray.empty=ByteArray.empty/\(0:Int)=(0:Int)/\(0:Int)=(0:Int)/\True/\True/\True/\True)/\(dW l s4 j.s)/\(List.length q.a+(1:Nat)=List.length j.a/\aj (List.length q.a+(1:Nat)) (4:Nat) (aY (List.length q.a) (ah P.ak q.a) fun (k j:Nat)=>Ax.get [AV.y (Value.int IntKind.u64 a),AV.y (Value.int IntKind.u64 b),AV.y (Value.bool c),AV.y (Value.int IntKind.u64 d)] (k*(4:Nat)+j)) (ah P.ak j.a))/\((0:Nat)=(0:Nat)/\aj (0:Nat) (2:Nat) (ah aD []) (ah aD []))/\(h.rng.lo=h.rng.lo/\h.rng.hi=h.rng.hi/\h.epoch=h.epoch/\h.frozen=h.frozen/\(false=false/\List.length h.recs=List.length h.recs/\aj (List.length h.recs) (5:Nat) (ah encR h.recs) (ah encR h.recs))/\((0:Nat)=(0:Nat)/\List.length q.a+(1:Nat)=List.length j.a)/\((0:Nat)=(0:Nat)/\(0:Nat)=(0:Nat))/\True)/\True)/\true=true)/\true=true/\()=())/\((q.s.e==(0:Int))=false->(((0:Nat)=(0:Nat)/\(0:Nat)=(0:Nat))/\((0:Nat)=(0:Nat)/\(0:Nat)=(0:Nat))/\((0:Nat)=(0:Nat)/\(0:Nat)=(0:Nat))/\True)/\((ByteArray.empty=ByteArray.empty/\ByteArray.empty=ByteArray.empty/\(0:Int)=(0:Int)/\(0:Int)=(0:Int)/\True/\True/\True/\True)/\(dW l q.s s')/\(List.length q.a=List.length t/\aj (List.length q.a) (4:Nat) (ah P.ak q.a) (ah P.ak t))/\((0:Nat)=(0:Nat)/\aj (0:Nat) (2:Nat) (ah aD []) (ah aD []))/\(h.rng.lo=h.rng.lo/\h.rng.hi=h.rng.hi/\h.epoch=h.epoch/\h.frozen=h.frozen/\(false=false/\List.length h.recs=List.length h.recs/\aj (List.length h.recs) (5:Nat) (ah encR h.recs) (ah encR h.recs))/\((0:Nat)=(0:Nat)/\List.length q.a=List.length t)/\((0:Nat)=(0:Nat)/\(0:Nat)=(0:Nat))/\True)/\True)/\true=true))/\(decide ((↑(m - q.n):Int)<(↑m:Int))=false->(((0:Nat)=(0:Nat)/\(0:Nat)=(0:Nat))/\((0:Nat)=(0:Nat)/\(0:Nat)=(0:Nat))/\((0:Nat)=(0:Nat)/\(0:Nat)=(0:Nat))/\True)/\((ByteArray.empty=ByteArray.empty/\ByteArray.empty=ByteArray.empty/\(0:Int)=(0:Int)/\(0:Int)=(0:Int)/\True/\True/\True/\True)/\(dW l q.s s')/\(List.length q.a=List.length t/\aj (List.length q.a) (4:Nat) (ah P.ak q.a) (ah P.ak t))/\((0:Nat)=(0:Nat)/\aj (0:Nat) (2:Nat) (ah aD []) (ah aD []))/\(h.rng.lo=h.rng.lo/\h.rng.hi=h.rng.hi/\h.epoch=h.epoch/\h.frozen=h.frozen/\(false=false/\List.length h.recs=List.length h.recs/\aj (List.length h.recs) (5:Nat) (ah encR h.recs) (ah encR h.recs))/\((0:Nat)=(0:Nat)/\List.length q.a=List.length t)/\((0:Nat)=(0:Nat)/\(0:Nat)=(0:Nat))/\True)/\True)/\true=true)
theorem ZB (l:List Int) (h:Pm) (m:Nat) (t:List P.Producer) (s':RS) (q:DQ (gH l) l m t s') (a:Int) (s1:RS) (b:Int) (s2:RS) (c:Bool) (s3:RS) (d:Int) (s4:RS):(bP Tryz.prog (dpH l q.s a s1 b s2 c s3 d s4) 16 8 (fun q:DQ (gH l) l m t s'=>q.n) (fun q=>dpT m q.n) (fun q=>PW l q.s h q.a []) [2,5,6] (fun _=>.ret ()) (dpS l h t s') q)=agQ l h m t s' q a s1 b s2 c s3 d s4:=by kernel_rfl
noncomputable def dcH (l:List Int) (s:RS) (a:List Int) (s1:RS) (b:Int) (s2:RS):aC Tryz.prog:=JJ (dO (hh _ bO (cs1 16 19 1 (qyC l s 32 a s1) (cs1 16 20 1 (Wm l s1 b s2) bN)) bM) (uL 16 21 6 5 noSh))
def ahd (l:List Int) (h:Pm) (p:List P.Producer) (m:Nat) (t:List Con) (s':RS) (q:DQ (jN l) l m t s') (a:List Int) (s1:RS) (b:Int) (s2:RS):Prop :=
 (decide ((↑(m - q.n):Int)<(↑m:Int))=true->((q.s.e==(0:Int))=true->(((0:Nat)=(0:Nat)/\(0:Nat)=(0:Nat))/\(32:Int)=(32:Int)/\True)/\((dW l q.s q.s)/\True)/\(fq l q.s/\yI (32:Int))/\(a,s1)=dh l q.s (32:Int)/\(∀ (k:Nat),k<List.length a->true=true)/\(((0:Nat)=(0:Nat)/\(0:Nat)=(0:Nat))/\True)/\((dW l s1 s1)/\True)/\fq l s1/\(b,s2)=aR l s1/\(decide (List.length q.a=List.length q.a)&&decide (List.length q.a+(1:Nat)<=(9223372036854775807:Nat))&&decide ((List.length q.a+(1:Nat))*(24:Nat)<=(140737488355328:Nat)))=true/\∃ (j:DQ (jN l) l m t s'),j.n<q.n/\((((0:Nat)=(0:Nat)/\(0:Nat)=(0:Nat))/\((0:Nat)=(0:Nat)/\(0:Nat)=(0:Nat))/\((0:Nat)=(0:Nat)/\(0:Nat)=(0:Nat))/\(↑m:Int)=(↑m:Int)/\IntKind.wrap IntKind.i64 ((↑(m - q.n):Int)+(1:Int))=(↑(m - j.n):Int)/\True)/\((ByteArray.empty=ByteArray.empty/\ByteArray.empty=ByteArray.empty/\(0:Int)=(0:Int)/\(0:Int)=(0:Int)/\True/\True/\True/\True)/\(dW l s2 j.s)/\(List.length p=List.length p/\aj (List.length p) (4:Nat) (ah P.ak p) (ah P.ak p))/\(List.length q.a+(1:Nat)=List.length j.a/\aj (List.length q.a+(1:Nat)) (2:Nat) (aY (List.length q.a) (ah aD q.a) fun (k j:Nat)=>Ax.get [AV.y (Value.string (Ig (List.length a) (ah aJ a))),AV.y (Value.int IntKind.u64 b)] (k*(2:Nat)+j)) (ah aD j.a))/\(h.rng.lo=h.rng.lo/\h.rng.hi=h.rng.hi/\h.epoch=h.epoch/\h.frozen=h.frozen/\(false=false/\List.length h.recs=List.length h.recs/\aj (List.length h.recs) (5:Nat) (ah encR h.recs) (ah encR h.recs))/\((0:Nat)=(0:Nat)/\List.length p=List.length p)/\((0:Nat)=(0:Nat)/\List.length q.a+(1:Nat)=List.length j.a)/\True)/\True)/\true=true)/\true=true/\()=())/\((q.s.e==(0:Int))=false->(((0:Nat)=(0:Nat)/\(0:Nat)=(0:Nat))/\((0:Nat)=(0:Nat)/\(0:Nat)=(0:Nat))/\((0:Nat)=(0:Nat)/\(0:Nat)=(0:Nat))/\True)/\((ByteArray.empty=ByteArray.empty/\ByteArray.empty=ByteArray.empty/\(0:Int)=(0:Int)/\(0:Int)=(0:Int)/\True/\True/\True/\True)/\(dW l q.s s')/\(List.length p=List.length p/\aj (List.length p) (4:Nat) (ah P.ak p) (ah P.ak p))/\(List.length q.a=List.length t/\aj (List.length q.a) (2:Nat) (ah aD q.a) (ah aD t))/\(h.rng.lo=h.rng.lo/\h.rng.hi=h.rng.hi/\h.epoch=h.epoch/\h.frozen=h.frozen/\(false=false/\List.length h.recs=List.length h.recs/\aj (List.length h.recs) (5:Nat) (ah encR h.recs) (ah encR h.recs))/\((0:Nat)=(0:Nat)/\List.length p=List.length p)/\((0:Nat)=(0:Nat)/\List.length q.a=List.length t)/\True)/\True)/\true=true))/\(decide ((↑(m - q.n):Int)<(↑m:Int))=false->(((0:Nat)=(0:Nat)/\(0:Nat)=(0:Nat))/\((0:Nat)=(0:Nat)/\(0:Nat)=(0:Nat))/\((0:Nat)=(0:Nat)/\(0:Nat)=(0:Nat))/\True)/\((ByteArray.empty=ByteArray.empty/\ByteArray.empty=ByteArray.empty/\(0:Int)=(0:Int)/\(0:Int)=(0:Int)/\True/\True/\True/\True)/\(dW l q.s s')/\(List.length p=List.length p/\aj (List.length p) (4:Nat) (ah P.ak p) (ah P.ak p))/\(List.length q.a=List.length t/\aj (List.length q.a) (2:Nat) (ah aD q.a) (ah aD t))/\(h.rng.lo=h.rng.lo/\h.rng.hi=h.rng.hi/\h.epoch=h.epoch/\h.frozen=h.frozen/\(false=false/\List.length h.recs=List.length h.recs/\aj (List.length h.recs) (5:Nat) (ah encR h.recs) (ah encR h.recs))/\((0:Nat)=(0:Nat)/\List.length p=List.length p)/\((0:Nat)=(0:Nat)/\List.length q.a=List.length t)/\True)/\True)/\true=true)
theorem aai (l:List Int) (h:Pm) (p:List P.Producer) (m:Nat) (t:List Con) (s':RS) (q:DQ (jN l) l m t s') (a:List Int) (s1:RS) (b:Int) (s2:RS):(bP Tryz.prog (dcH l q.s a s1 b s2) 16 17 (fun q:DQ (jN l) l m t s'=>q.n) (fun q=>dcT m q.n) (fun q=>PW l q.s h p q.a) [3,5,6] (fun _=>.ret ()) (dcS l h p t s') q)=ahd l h p m t s' q a s1 b s2:=by kernel_rfl
noncomputable def aie (p:Part):dZ Tryz.prog:=⟨15,[.agg (aX false p)],[],.need (Q.Gj p) (Im (aH p) 165),T.Sat.need fun h=>Q.abp false p h⟩
structure LC (l:List Int) where
 g:kJ
 s1:RS
 ep:Int
 s2:RS
 fr:Int
 s3:RS
 rc:List Rec
 s4:RS
 n1:Nat
 s5:RS
 t6:List P.Producer
 s6:RS
 n2:Nat
 s7:RS
 t8:List Con
 s8:RS
 q:DQ (gH l) l n1 t6 s6
 r:DQ (jN l) l n2 t8 s8
abbrev LC.hd {l:List Int} (x:LC l):Pm:=⟨x.g,x.ep,x.fr,x.rc⟩
abbrev LC.p {l:List Int} (x:LC l):Part:=⟨x.g,x.ep,x.fr,x.rc,x.t6,x.t8⟩
noncomputable def agj (l:List Int) (x:LC l):aC Tryz.prog:=JJ (dO (hh _ (mU 16 8 (dM (fun q:DQ (gH l) l x.n1 x.t6 x.s6=>dpT x.n1 q.n) (fun q=>PW l q.s x.hd q.a []) [2,5,6] (fun _=>.ret ()) (dpS l x.hd x.t6 x.s6) x.q) (mU 16 17 (dM (fun q:DQ (jN l) l x.n2 x.t8 x.s8=>dcT x.n2 q.n) (fun q=>PW l q.s x.hd x.t6 q.a) [3,5,6] (fun _=>.ret ()) (dcS l x.hd x.t6 x.t8 x.s8) x.r) bO)) (cs1 16 2 1 (qgC l default x.g x.s1) (cs1 16 3 1 (Wm l x.s1 x.ep x.s2) (cs1 16 4 1 (Wm l x.s2 x.fr x.s3) (cs1 16 5 1 (aiI l x.s3 4096 x.rc x.s4) (cs1 16 6 1 (qcC l x.s4 256 (x.n1:Int) x.s5) (cs1 16 15 1 (qcC l x.s6 64 (x.n2:Int) x.s7) (cs1 16 22 1 (qdC l x.s8) (cs1 16 22 5 (aie x.p) bN)))))))) bM) (uL 16 2 2 1096 (uL 16 24 0 779 noSh)))
def abK (l:List Int) (x:LC l) (p:Part) (e:Int):Prop :=
 (((0:Nat)=(0:Nat)/\(0:Nat)=(0:Nat))/\True)/\(((lu l l)/\(0:Int)=(0:Int)/\(0:Int)=(0:Int)/\(0:Int)=(0:Int)/\True)/\True)/\fq l (@default RS instInhabitedRS)/\(x.g,x.s1)=pR l (@default RS instInhabitedRS)/\(((0:Nat)=(0:Nat)/\(0:Nat)=(0:Nat))/\True)/\((dW l x.s1 x.s1)/\True)/\fq l x.s1/\(x.ep,x.s2)=aR l x.s1/\(((0:Nat)=(0:Nat)/\(0:Nat)=(0:Nat))/\True)/\((dW l x.s2 x.s2)/\True)/\fq l x.s2/\(x.fr,x.s3)=aR l x.s2/\(((0:Nat)=(0:Nat)/\(0:Nat)=(0:Nat))/\(4096:Int)=(4096:Int)/\True)/\((dW l x.s3 x.s3)/\True)/\(fq l x.s3/\yI (4096:Int)/\(4096:Int)<=(4096:Int))/\(x.rc,x.s4)=gI l x.s3 (4096:Int)/\(((0:Nat)=(0:Nat)/\(0:Nat)=(0:Nat))/\(256:Int)=(256:Int)/\True)/\((dW l x.s4 x.s4)/\True)/\(fq l x.s4/\yI (256:Int))/\((↑x.n1:Int),x.s5)=aK l x.s4 (256:Int)/\((((0:Nat)=(0:Nat)/\(0:Nat)=(0:Nat))/\((0:Nat)=(0:Nat)/\(0:Nat)=(0:Nat))/\((0:Nat)=(0:Nat)/\(0:Nat)=(0:Nat))/\(↑x.n1:Int)=(↑x.n1:Int)/\(0:Int)=(↑(x.n1 - x.q.n):Int)/\True)/\(({ data:=#[]:ByteArray }=ByteArray.empty/\{ data:=#[]:ByteArray }=ByteArray.empty/\(0:Int)=(0:Int)/\(0:Int)=(0:Int)/\True/\True/\True/\True)/\(dW l x.s5 x.q.s)/\((0:Nat)=List.length x.q.a/\aj (0:Nat) (4:Nat) (fun (x x_1:Nat)=>AV.junk) (ah P.ak x.q.a))/\((0:Nat)=(0:Nat)/\aj (0:Nat) (2:Nat) (fun (x x_1:Nat)=>AV.junk) (ah aD []))/\(x.g.lo=x.g.lo/\x.g.hi=x.g.hi/\x.ep=x.ep/\x.fr=x.fr/\(false=false/\List.length x.rc=List.length x.rc/\aj (List.length x.rc) (5:Nat) (ah encR x.rc) (ah encR x.rc))/\((0:Nat)=(0:Nat)/\(0:Nat)=List.length x.q.a)/\((0:Nat)=(0:Nat)/\(0:Nat)=(0:Nat))/\True)/\True)/\true=true)/\aL Tryz.prog (16:Nat) (8:Nat) (aN Tryz.prog (16:Nat) (8:Nat)) { t:=dpT x.n1 x.q.n,m:=PW l x.q.s (LC.hd x) x.q.a [],mv:=[]:St } (T.map (bJ [(2:Nat),(5:Nat),(6:Nat)] (dpS l (LC.hd x) x.t6 x.s6)) ((fun (x:DQ (gH l) l x.n1 x.t6 x.s6)=>T.ret ()) x.q))/\(((0:Nat)=(0:Nat)/\(0:Nat)=(0:Nat))/\(64:Int)=(64:Int)/\True)/\((dW l x.s6 x.s6)/\True)/\(fq l x.s6/\yI (64:Int))/\((↑x.n2:Int),x.s7)=aK l x.s6 (64:Int)/\((((0:Nat)=(0:Nat)/\(0:Nat)=(0:Nat))/\((0:Nat)=(0:Nat)/\(0:Nat)=(0:Nat))/\((0:Nat)=(0:Nat)/\(0:Nat)=(0:Nat))/\(↑x.n2:Int)=(↑x.n2:Int)/\(0:Int)=(↑(x.n2 - x.r.n):Int)/\True)/\((ByteArray.empty=ByteArray.empty/\ByteArray.empty=ByteArray.empty/\(0:Int)=(0:Int)/\(0:Int)=(0:Int)/\True/\True/\True/\True)/\(dW l x.s7 x.r.s)/\(List.length x.t6=List.length x.t6/\aj (List.length x.t6) (4:Nat) (ah P.ak x.t6) (ah P.ak x.t6))/\((0:Nat)=List.length x.r.a/\aj (0:Nat) (2:Nat) (ah aD []) (ah aD x.r.a))/\(x.g.lo=x.g.lo/\x.g.hi=x.g.hi/\x.ep=x.ep/\x.fr=x.fr/\(false=false/\List.length x.rc=List.length x.rc/\aj (List.length x.rc) (5:Nat) (ah encR x.rc) (ah encR x.rc))/\((0:Nat)=(0:Nat)/\List.length x.t6=List.length x.t6)/\((0:Nat)=(0:Nat)/\(0:Nat)=List.length x.r.a)/\True)/\True)/\true=true)/\aL Tryz.prog (16:Nat) (17:Nat) (aN Tryz.prog (16:Nat) (17:Nat)) { t:=dcT x.n2 x.r.n,m:=PW l x.r.s (LC.hd x) x.t6 x.r.a,mv:=[]:St } (T.map (bJ [(3:Nat),(5:Nat),(6:Nat)] (dcS l (LC.hd x) x.t6 x.t8 x.s8)) ((fun (x:DQ (jN l) l x.n2 x.t8 x.s8)=>T.ret ()) x.r))/\(((0:Nat)=(0:Nat)/\(0:Nat)=(0:Nat))/\True)/\((dW l x.s8 x.s8)/\True)/\fq l x.s8/\((kS l x.s8 != (0:Int))=true->(({ data:=#[]:ByteArray }=p.rng.lo/\{ data:=#[]:ByteArray }=p.rng.hi/\(0:Int)=p.epoch/\(0:Int)=p.frozen/\List.length p.recs=(0:Nat)/\List.length p.prods=(0:Nat)/\List.length p.cons=(0:Nat)/\True)/\(165:Int)=e/\True)/\True)/\((kS l x.s8 != (0:Int))=false->((x.g.lo=x.g.lo/\x.g.hi=x.g.hi/\x.ep=x.ep/\x.fr=x.fr/\(false=false/\List.length x.rc=List.length x.rc/\aj (List.length x.rc) (5:Nat) (ah encR x.rc) (ah encR x.rc))/\(false=false/\List.length x.t6=List.length x.t6/\aj (List.length x.t6) (4:Nat) (Ax.rowAt (0:Nat) (ah P.ak x.t6)) (ah P.ak x.t6))/\(false=false/\List.length x.t8=List.length x.t8/\aj (List.length x.t8) (2:Nat) (Ax.rowAt (0:Nat) (ah aD x.t8)) (ah aD x.t8))/\True)/\True)/\True/\Q.Gj (LC.p x)/\(aH (LC.p x)=true->true=true/\True/\(∀ (k:Nat),k<List.length x.t6->∀ (j:Nat),j<(4:Nat)->fC (ah P.ak x.t6 k j)=true)/\(∀ (k:Nat),k<List.length x.t8->∀ (j:Nat),j<(2:Nat)->fC (ah aD x.t8 k j)=true)/\((x.g.lo=p.rng.lo/\x.g.hi=p.rng.hi/\x.ep=p.epoch/\x.fr=p.frozen/\(false=false/\List.length x.rc=List.length p.recs/\aj (List.length x.rc) (5:Nat) (ah encR x.rc) (ah encR p.recs))/\(true=true/\List.length x.t6=List.length p.prods/\aj (List.length x.t6) (4:Nat) (Ax.rowAt (0:Nat) (ah P.ak x.t6)) (ah P.ak p.prods))/\(true=true/\List.length x.t8=List.length p.cons/\aj (List.length x.t8) (2:Nat) (Ax.rowAt (0:Nat) (ah aD x.t8)) (ah aD p.cons))/\True)/\(0:Int)=e/\True)/\True)/\(aH (LC.p x)=false->true=true/\True/\(({ data:=#[]:ByteArray }=p.rng.lo/\{ data:=#[]:ByteArray }=p.rng.hi/\(0:Int)=p.epoch/\(0:Int)=p.frozen/\List.length p.recs=(0:Nat)/\List.length p.prods=(0:Nat)/\List.length p.cons=(0:Nat)/\True)/\(165:Int)=e/\True)/\True))
theorem QT (l:List Int) (x:LC l) (p:Part) (e:Int):(bf Tryz.prog (agj l x) 16 [ig true l] [] (rpR p e))=abK l x p e:=by kernel_rfl
theorem QB {l:List Int} {s:RS} {most:Int} (h:fq l s):fq l (gI l s most).2:=by
 rw [(GY l s most).1]
 exact Jg h
theorem XF (l:List Int) (h:Pm) (m:Nat) (hm:m<=4096) (t:List P.Producer) (s':RS) (q:DQ (gH l) l m t s'):aL Tryz.prog 16 8 (aN Tryz.prog 16 8) ⟨dpT m q.n,PW l q.s h q.a [],[]⟩ (T.map (bJ [2,5,6] (dpS l h t s')) (.ret ())):=by
 refine dK (P:=Tryz.prog) (f:=16) (k:=8) (ι:=DQ (gH l) l m t s') (μ:=fun q=>q.n) (ht:=fun q=>dpH l q.s (aR l q.s).1 (aR l q.s).2 (aR l (aR l q.s).2).1 (aR l (aR l q.s).2).2 (gZ l (aR l (aR l q.s).2).2).1 (gZ l (aR l (aR l q.s).2).2).2 (aR l (gZ l (aR l (aR l q.s).2).2).2).1 (aR l (gZ l (aR l (aR l q.s).2).2).2).2) (sV:=fun q=>dpT m q.n) (stM:=fun q=>PW l q.s h q.a []) (X:=[2,5,6]) (o:=fun _=>.ret ()) (S:=dpS l h t s') Tryz.mixed (fun _=>rfl) (fun q=>?_) q
 rw [ZB]
 unfold agQ
 obtain ⟨n,s,a,e,hs,k,z⟩:=q
 have hcl:=aG l.length 1 (ah aJ l)
 have hcr:=aG h.recs.length 5 (ah encR h.recs)
 simp only
 cases n with
 | zero =>
   have e1:a=t:=congrArg Prod.fst e
   have e2:s=s':=congrArg Prod.snd e
   subst e1 e2
   have hd:decide (((m - 0:Nat):Int)<(m:Int))=false:=by simp
   simp only [hd]
   simp [hcl,hcr]
 | succ n =>
   have hd:decide (((m - (n+1):Nat):Int)<(m:Int))=true:=by simp only [decide_eq_true_eq];omega
   have w:IntKind.wrap IntKind.i64 (((m - (n+1):Nat):Int)+1)=((m - n:Nat):Int):=by rw [wrap_i64 (by omega) (by omega)];omega
   simp only [hd,w]
   by_cases he:s.e=0
   · have h0:(s.e != 0)=false:=by simp [he]
     have h0':(s.e==0)=true:=by simp [he]
     have k1:=(dG hs).1
     have k2:=(dG k1).1
     have k3:=qj k2
     have k4:=(dG k3).1
     have e1:f_ (gH l) n (gH l s).2 (a++[(gH l s).1])=(t,s'):=by
      have:=e
      unfold f_ at this
      simpa [h0] using this
     have ha:=sK (enc:=P.ak) (l:=a) (n:=a.length) (sz:=4) (x:=(gH l s).1) (cs:=P.ak (gH l s).1) rfl (fun j hj=>dn _)
     simp only [h0']
     simp [hs,k1,k2,k3,hcl,hcr]
     refine ⟨by omega,⟨n,(gH l s).2,a++[(gH l s).1],e1,k4,by omega,by simp;omega⟩,by show n<n+1;omega,?_⟩
     simp [gH]
     exact ha
   · have h0:(s.e != 0)=true:=by simpa using he
     have h0':(s.e==0)=false:=by simpa using he
     have e1:(a,s)=(t,s'):=by
      have:=e
      unfold f_ at this
      simpa [h0] using this
     have e3:a=t:=congrArg Prod.fst e1
     have e4:s=s':=congrArg Prod.snd e1
     subst e3 e4
     simp only [h0']
     simp [hcl,hcr]
theorem Ze (l:List Int) (h:Pm) (p:List P.Producer) (m:Nat) (hm:m<=4096) (t:List Con) (s':RS) (q:DQ (jN l) l m t s'):aL Tryz.prog 16 17 (aN Tryz.prog 16 17) ⟨dcT m q.n,PW l q.s h p q.a,[]⟩ (T.map (bJ [3,5,6] (dcS l h p t s')) (.ret ())):=by
 refine dK (P:=Tryz.prog) (f:=16) (k:=17) (ι:=DQ (jN l) l m t s') (μ:=fun q=>q.n) (ht:=fun q=>dcH l q.s (dh l q.s 32).1 (dh l q.s 32).2 (aR l (dh l q.s 32).2).1 (aR l (dh l q.s 32).2).2) (sV:=fun q=>dcT m q.n) (stM:=fun q=>PW l q.s h p q.a) (X:=[3,5,6]) (o:=fun _=>.ret ()) (S:=dcS l h p t s') Tryz.mixed (fun _=>rfl) (fun q=>?_) q
 rw [aai]
 unfold ahd
 obtain ⟨n,s,a,e,hs,k,z⟩:=q
 have hcl:=aG l.length 1 (ah aJ l)
 have hcr:=aG h.recs.length 5 (ah encR h.recs)
 have hcp:=aG p.length 4 (ah P.ak p)
 simp only
 cases n with
 | zero =>
   have e1:a=t:=congrArg Prod.fst e
   have e2:s=s':=congrArg Prod.snd e
   subst e1 e2
   have hd:decide (((m - 0:Nat):Int)<(m:Int))=false:=by simp
   simp only [hd]
   simp [hcl,hcr,hcp]
 | succ n =>
   have hd:decide (((m - (n+1):Nat):Int)<(m:Int))=true:=by simp only [decide_eq_true_eq];omega
   have w:IntKind.wrap IntKind.i64 (((m - (n+1):Nat):Int)+1)=((m - n:Nat):Int):=by rw [wrap_i64 (by omega) (by omega)];omega
   simp only [hd,w]
   by_cases he:s.e=0
   · have h0:(s.e != 0)=false:=by simp [he]
     have h0':(s.e==0)=true:=by simp [he]
     have k1:fq l (dh l s 32).2:=lV hs
     have k2:=(dG k1).1
     have e1:f_ (jN l) n (jN l s).2 (a++[(jN l s).1])=(t,s'):=by
      have:=e
      unfold f_ at this
      simpa [h0] using this
     have ha:=sK (enc:=aD) (l:=a) (n:=a.length) (sz:=2) (x:=(jN l s).1) (cs:=aD (jN l s).1) rfl (fun j hj=>dn _)
     have z2:=Kk
     simp only [h0']
     simp [hs,k1,z2,hcl,hcr,hcp]
     refine ⟨by omega,⟨n,(jN l s).2,a++[(jN l s).1],e1,k2,by omega,by simp;omega⟩,by show n<n+1;omega,?_⟩
     simp [jN]
     exact ⟨⟨rfl,rfl,rfl⟩,ha⟩
   · have h0:(s.e != 0)=true:=by simpa using he
     have h0':(s.e==0)=false:=by simpa using he
     have e1:(a,s)=(t,s'):=by
      have:=e
      unfold f_ at this
      simpa [h0] using this
     have e3:a=t:=congrArg Prod.fst e1
     have e4:s=s':=congrArg Prod.snd e1
     subst e3 e4
     simp only [h0']
     simp [hcl,hcr,hcp]
theorem su {α:Type} {f:RS->α×RS}:∀ n s a,(f_ f n s a).1.length<=a.length+n
 | 0,s,a=>Nat.le_refl _
 | n+1,s,a=>by
   unfold f_
   split
   · show a.length<=_;omega
   · have:=su (f:=f) n (f s).2 (a++[(f s).1])
     rw [List.length_append] at this
     simp at this
     omega
theorem sQ {α:Type} {l:List Int} {f:RS->α×RS} {Q:α->Prop} (hf:∀ s,fq l s->fq l (f s).2/\Q (f s).1):∀ n s a,fq l s->(∀ x∈a,Q x)->fq l (f_ f n s a).2/\∀ x∈(f_ f n s a).1,Q x
 | 0,s,a,h,ha=>⟨h,ha⟩
 | n+1,s,a,h,ha=>by
   unfold f_
   split
   · exact ⟨h,ha⟩
   · refine sQ hf n _ _ (hf s h).1 fun x hx=>?_
     rcases List.mem_append.1 hx with hx | hx
     · exact ha x hx
     · obtain rfl:=List.mem_singleton.1 hx
       exact (hf s h).2
theorem WG {l:List Int} {s:RS} (h:fq l s):0<=(fF l s).1.seq:=by
 have h1:=(dG (dG (lV (most:=256) (Bb (most:=32) (dG h).1 rfl))).1).2.lo
 unfold fF
 simp only
 split
 · exact Int.le_refl _
 · exact h1
theorem agm (l:List Int) (h:yO l):(rpR (nH l).1 (nH l).2).Sat (aB Tryz.prog 16 [ig true l] []):=by
 have hl:=h.n
 have k0:=afH h.n h.b
 obtain ⟨g,s1,e1⟩:∃ v t,(v,t)=pR l default:=⟨_,_,rfl⟩
 have k1:fq l s1:=by have:=acT k0;rw [<- e1] at this;exact this
 obtain ⟨ep,s2,e2⟩:∃ v t,(v,t)=aR l s1:=⟨_,_,rfl⟩
 have k2:=(Dx k1 e2).1
 obtain ⟨fr,s3,e3⟩:∃ v t,(v,t)=aR l s2:=⟨_,_,rfl⟩
 have k3:=(Dx k2 e3).1
 obtain ⟨rc,s4,e4⟩:∃ v t,(v,t)=gI l s3 4096:=⟨_,_,rfl⟩
 have k4:fq l s4:=by have:=QB (most:=4096) k3;rw [<- e4] at this;exact this
 obtain ⟨n1',s5,e5⟩:∃ v t,(v,t)=aK l s4 256:=⟨_,_,rfl⟩
 have k5:fq l s5:=by have:=(fJ (most:=256) k4).1;rw [<- e5] at this;exact this
 have c5:=count_le (most:=256) k4
 rw [<- e5] at c5
 simp only at c5
 obtain ⟨n1,rfl⟩:=Int.eq_ofNat_of_zero_le c5.2
 obtain ⟨t6,s6,e6⟩:∃ v t,(v,t)=f_ (gH l) n1 s5 []:=⟨_,_,rfl⟩
 have a6:=sQ (Q:=fun x:P.Producer=>0<=x.offset/\x.offset<18446744073709551616) (f:=gH l) (fun s h=>⟨Rc h,(dG (qj (dG (dG h).1).1)).2.lo,(dG (qj (dG (dG h).1).1)).2.hi⟩) n1 s5 [] k5 (fun x hx=>by cases hx)
 rw [<- e6] at a6
 obtain ⟨k6,po⟩:=a6
 simp only at k6 po
 obtain ⟨n2',s7,e7⟩:∃ v t,(v,t)=aK l s6 64:=⟨_,_,rfl⟩
 have k7:fq l s7:=by have:=(fJ (most:=64) k6).1;rw [<- e7] at this;exact this
 have c7:=count_le (most:=64) k6
 rw [<- e7] at c7
 simp only at c7
 obtain ⟨n2,rfl⟩:=Int.eq_ofNat_of_zero_le c7.2
 obtain ⟨t8,s8,e8⟩:∃ v t,(v,t)=f_ (jN l) n2 s7 []:=⟨_,_,rfl⟩
 have k8:fq l s8:=by
  have:=(sQ (Q:=fun _:Con=>True) (f:=jN l) (fun s h=>⟨ZP h,trivial⟩) n2 s7 [] k7 (fun x hx=>by cases hx)).1
  rw [<- e8] at this
  exact this
 have hr:pW l=(⟨g,ep,fr,rc,t6,t8⟩,s8):=by
  unfold pW Yd xD LH
  simp only [<- e1,<- e2,<- e3,<- e4,<- e5,Int.toNat_natCast,<- e6,<- e7,<- e8]
 have l6:t6.length<=n1:=by have:=su (f:=gH l) n1 s5 [];rw [<- e6] at this;simpa using this
 have l8:t8.length<=n2:=by have:=su (f:=jN l) n2 s7 [];rw [<- e8] at this;simpa using this
 have c4:=count_le (most:=4096) k3
 have l4:rc.length<=4096:=by
  have:=su (f:=fF l) (aK l s3 4096).1.toNat (aK l s3 4096).2 []
  have e:(rc,s4)=f_ (fF l) (aK l s3 4096).1.toNat (aK l s3 4096).2 []:=e4
  rw [<- e] at this
  simp at this
  omega
 have sq:∀ y∈rc,0<=y.seq:=by
  have:=(sQ (Q:=fun y:Rec=>0<=y.seq) (f:=fF l) (fun s h=>⟨t_ h,WG h⟩) (aK l s3 4096).1.toNat (aK l s3 4096).2 [] (fJ k3).1 (fun x hx=>by cases hx)).2
  have e:(rc,s4)=f_ (fF l) (aK l s3 4096).1.toNat (aK l s3 4096).2 []:=e4
  rw [<- e] at this
  exact this
 have hpi:Q.Gj ⟨g,ep,fr,rc,t6,t8⟩:=⟨by show rc.length<=_;omega,by show t6.length<=_;omega,by show t8.length<=_;omega,po,by show t6.length<=_;omega,sq⟩
 obtain ⟨q,q1,q2,q3⟩:∃ q:DQ (gH l) l n1 t6 s6,q.n=n1/\q.s=s5/\q.a=[]:=⟨⟨n1,s5,[],e6.symm,k5,Nat.le_refl _,by simp⟩,rfl,rfl,rfl⟩
 obtain ⟨r,r1,r2,r3⟩:∃ q:DQ (jN l) l n2 t8 s8,q.n=n2/\q.s=s7/\q.a=[]:=⟨⟨n2,s7,[],e8.symm,k7,Nat.le_refl _,by simp⟩,rfl,rfl,rfl⟩
 have lp:=XF l ⟨g,ep,fr,rc⟩ n1 (by omega) t6 s6 q
 have lq:=Ze l ⟨g,ep,fr,rc⟩ t6 n2 (by omega) t8 s8 r
 have hx:=afs l
 refine aP (ht:=agj l ⟨g,s1,ep,s2,fr,s3,rc,s4,n1,s5,t6,s6,n2,s7,t8,s8,q,r⟩) Tryz.mixed rfl ?_
 rw [QT l ⟨g,s1,ep,s2,fr,s3,rc,s4,n1,s5,t6,s6,n2,s7,t8,s8,q,r⟩ (nH l).1 (nH l).2]
 rw [<- hx,hr]
 unfold abK
 have z64:=aes
 have z256:=Nk
 have z4096:=Ui
 have z0:(default:Part)=⟨⟨ByteArray.empty,ByteArray.empty⟩,0,0,[],[],[]⟩:=rfl
 have z1:ByteArray.empty=(⟨#[]⟩:ByteArray):=rfl
 have hr6:aj t6.length 4 (Ax.rowAt 0 (ah P.ak t6)) (ah P.ak t6):=fun k hk j hj=>dn _
 have hr8:aj t8.length 2 (Ax.rowAt 0 (ah aD t8)) (ah aD t8):=fun k hk j hj=>dn _
 have tp:=aeX t6
 have tc:=afx t8
 have hcl:=aG l.length 1 (ah aJ l)
 have hcr:=aG rc.length 5 (ah encR rc)
 rw [q1,q2,q3] at lp
 rw [r1,r2,r3] at lq
 simp only [q1,q2,q3,r1,r2,r3]
 by_cases hd:kS l s8=0
 · cases hw:aH (⟨g,ep,fr,rc,t6,t8⟩:Part)
   · simp [hl,k0,k1,k2,k3,k4,k5,k6,k7,k8,z64,z256,z4096,hd,hw,hpi,z0,z1,hr6,hr8,hcl,hcr,e1,e2,e3,e4,e5,e7]
     repeat' with_reducible apply And.intro
     all_goals first | assumption | rfl | skip
   · simp [hl,k0,k1,k2,k3,k4,k5,k6,k7,k8,z64,z256,z4096,hd,hw,hpi,z0,z1,hr6,hr8,hcl,hcr,e1,e2,e3,e4,e5,e7]
     repeat' with_reducible apply And.intro
     all_goals first | assumption | rfl | skip
 · simp [hl,k0,k1,k2,k3,k4,k5,k6,k7,k8,z64,z256,z4096,hd,hpi,z0,z1,hr6,hr8,hcl,hcr,e1,e2,e3,e4,e5,e7]
   repeat' with_reducible apply And.intro
   all_goals first | assumption | rfl | skip
theorem agh (l:List Int) (h:yO l):(agu (nH l).1 (nH l).2).Sat (aB Tryz.prog 16 [ig true l] []):=by
 have h1:aB Tryz.prog 16 [ig true l] [] (.tup [.agg (Ld (nH l).1),.y (.int .i64 (nH l).2)],[],[]):=yV (agm l h)
 have h2:aB Tryz.prog 16 [ig true l] [] (.tup [.agg (aX false (nH l).1),.y (.int .i64 (nH l).2)],[],[]):=D6 (fun H E v hH hr=>Xu hH hr) h1
 exact T.Sat.ret h2
noncomputable def acO (l:List Int) (p:Part) (e:Int):dZ Tryz.prog:=⟨16,[ig true l],[],.need (yO l) (.need ((p,e)=nH l) (agu p e)),T.Sat.need fun h=>T.Sat.need fun q=>by
 have e1:p=(nH l).1:=congrArg Prod.fst q
 have e2:e=(nH l).2:=congrArg Prod.snd q
 rw [e1,e2]
 exact agh l h⟩
end J
namespace N
open H Q R
noncomputable def afr (p:Part):aC Tryz.prog:=hh _ bO (cs1 19 1 4 (sfC false true p.recs p.recs) (cs1 19 2 4 (P.aa9 false true p.prods p.prods) (cs1 19 3 4 (R.aeQ false true p.cons p.cons) bN))) bM
def aaw (p:Part):Prop :=
 ((false=false/\p.recs.length=p.recs.length/\aj p.recs.length 5 (ah fH p.recs) (ah fH p.recs))/\(true=true/\p.recs.length=p.recs.length/\aj p.recs.length 5 (ah encR p.recs) (ah encR p.recs))/\True)/\True/\(p.recs.length<=9223372036854775806/\p.recs=p.recs)/\((false=false/\p.prods.length=p.prods.length/\aj p.prods.length 4 (ah P.ak p.prods) (ah P.ak p.prods))/\(true=true/\p.prods.length=p.prods.length/\aj p.prods.length 4 (ah P.ak p.prods) (ah P.ak p.prods))/\True)/\True/\p.prods.length<=9223372036854775806/\((false=false/\p.cons.length=p.cons.length/\aj p.cons.length 2 (ah aD p.cons) (ah aD p.cons))/\(true=true/\p.cons.length=p.cons.length/\aj p.cons.length 2 (ah aD p.cons) (ah aD p.cons))/\True)/\True/\p.cons.length<=9223372036854775806/\(true=true->(P.kR p.prods p.prods=true->(iA p.cons p.cons=true->((p.rng.lo.data.toList==p.rng.lo.data.toList&&(p.rng.hi.data.toList==p.rng.hi.data.toList&&true))=true->((p.epoch==p.epoch)=true->(p.frozen==p.frozen)=true/\True)/\((p.epoch==p.epoch)=false->false=true/\True))/\((p.rng.lo.data.toList==p.rng.lo.data.toList&&(p.rng.hi.data.toList==p.rng.hi.data.toList&&true))=false->false=true/\True))/\(iA p.cons p.cons=false->false=true/\True))/\(P.kR p.prods p.prods=false->false=true/\True))/\(true=false->false=true/\True)
theorem Sj (p:Part):(bf Tryz.prog (afr p) 19 [.agg (Q.ptF p),.agg (aX true p)] [] (aZ true))=aaw p:=by kernel_rfl
theorem afc (p:Part) (hp:vo p):(aZ true).Sat (aB Tryz.prog 19 [.agg (Q.ptF p),.agg (aX true p)] []):=by
 refine aP (ht:=afr p) Tryz.mixed rfl ?_
 rw [Sj p]
 unfold aaw
 obtain ⟨h1,h2,h3⟩:=hp
 have g1:p.recs.length<=9223372036854775806:=by omega
 have g2:p.prods.length<=9223372036854775806:=by omega
 have g3:p.cons.length<=9223372036854775806:=by omega
 have e3:iA p.cons p.cons=true:=by
  unfold iA jd SQ
  simp
 simp [g1,g2,g3,Go.Proofs.YtnbhdjadlbhknaaGreatDoor.D.Ka,e3]
noncomputable def afn (p:Part):dZ Tryz.prog:=⟨19,[.agg (Q.ptF p),.agg (aX true p)],[],.need (vo p) (aZ true),T.Sat.need fun h=>afc p h⟩
theorem ahh (q:Part) (h:q=default):(aZ true).Sat (aB Tryz.prog 19 [.agg (aX true default),.agg (aX true q)] []):=by
 subst h
 have:=abQ true true default default ⟨by decide,by decide,by decide,fun k hk=>by cases hk⟩
 rwa [show eH default default=true from rfl] at this
noncomputable def ai0 (q:Part):dZ Tryz.prog:=⟨19,[.agg (aX true default),.agg (aX true q)],[],.need (q=default) (aZ true),T.Sat.need fun h=>ahh q h⟩
def Qe (x:mX) (r:List Rec):List AV:=[.y (.int .i64 x.err),.y (.int .u64 x.off),.y (.bool x.old),iM false r]
noncomputable def ag0 (r:List Rec):aC Tryz.prog:=hh _ bO (cs1 20 1 4 (sfC false true r r) bN) bM
def aa2 (x:mX) (r:List Rec):Prop :=
 ((false=false/\r.length=r.length/\aj r.length 5 (ah fH r) (ah fH r))/\(true=true/\x.recs.length=r.length/\aj x.recs.length 5 (ah encR x.recs) (ah encR r))/\True)/\True/\(r.length<=9223372036854775806/\r=r)/\(true=true->((x.err==x.err)=true->((x.off==x.off)=true->(x.old==x.old)=true/\True)/\((x.off==x.off)=false->false=true/\True))/\((x.err==x.err)=false->false=true/\True))/\(true=false->false=true/\True)
theorem Tv (x:mX) (r:List Rec):(bf Tryz.prog (ag0 r) 20 [.agg (Qe x r),.agg (R.J3 x)] [] (aZ true))=aa2 x r:=by kernel_rfl
theorem af0 (x:mX) (r:List Rec) (h:r.length<=9223372036854775806/\r=x.recs):(aZ true).Sat (aB Tryz.prog 20 [.agg (Qe x r),.agg (R.J3 x)] []):=by
 refine aP (ht:=ag0 r) Tryz.mixed rfl ?_
 rw [Tv x r]
 unfold aa2
 obtain ⟨h1,rfl⟩:=h
 simp [h1]
noncomputable def aiR (x:mX) (r:List Rec):dZ Tryz.prog:=⟨20,[.agg (Qe x r),.agg (R.J3 x)],[],.need (r.length<=9223372036854775806/\r=x.recs) (aZ true),T.Sat.need fun h=>af0 x r h⟩
noncomputable def ae8 (x:mX):aC Tryz.prog:=hh _ bO (cs1 20 1 4 (R.smC true true [] x.recs) bN) bM
def abg (x:mX):Prop :=
 (0=0/\(true=true/\x.recs.length=x.recs.length/\aj x.recs.length 5 (ah encR x.recs) (ah encR x.recs))/\True)/\True/\0<=9223372036854775806/\(iL [] x.recs=true->((x.err==x.err)=true->((x.off==x.off)=true->(x.old==x.old)=true/\True)/\((x.off==x.off)=false->false=true/\True))/\((x.err==x.err)=false->false=true/\True))/\(iL [] x.recs=false->false=true/\True)
theorem U3 (x:mX):(bf Tryz.prog (ae8 x) 20 [.agg (Bq x),.agg (R.J3 x)] [] (aZ true))=abg x:=by kernel_rfl
theorem ahq (x:mX) (h:x.recs=[]):(aZ true).Sat (aB Tryz.prog 20 [.agg (Bq x),.agg (R.J3 x)] []):=by
 refine aP (ht:=ae8 x) Tryz.mixed rfl ?_
 rw [U3 x]
 unfold abg
 have e:iL [] ([]:List Rec)=true:=rfl
 simp [h,e]
noncomputable def agF (x:mX):dZ Tryz.prog:=⟨20,[.agg (Bq x),.agg (R.J3 x)],[],.need (x.recs=[]) (aZ true),T.Sat.need fun h=>ahq x h⟩
def F9 (p:Part):Part:=if fK p.rng=0/\p.epoch≠0 then ⟨p.rng,p.epoch,0,[],[],[]⟩ else default
def KT (p:Part):Int:=if fK p.rng=0/\p.epoch≠0 then 0 else 165
def nwT (q:Part) (e:Int):T An:=.ret (.tup [.agg (aX true q),.y (.int .i64 e)],[],[])
noncomputable def nwH (r:kJ):aC Tryz.prog:=hh _ bO (cs1 11 1 1 (acd r) (cs1 22 1 1 (TQ r) bN)) bM
def ahk (r:kJ) (n:Int) (q:Part) (e:Int):Prop :=
 ((r.lo=r.lo/\r.hi=r.hi/\True)/\True)/\True/\((fK r != 0)=true->(({ data:=#[]:ByteArray }=q.rng.lo/\{ data:=#[]:ByteArray }=q.rng.hi/\0=q.epoch/\0=q.frozen/\q.recs.length=0/\q.prods.length=0/\q.cons.length=0/\True)/\165=e/\True)/\True)/\((fK r != 0)=false->((n==0)=true->(({ data:=#[]:ByteArray }=q.rng.lo/\{ data:=#[]:ByteArray }=q.rng.hi/\0=q.epoch/\0=q.frozen/\q.recs.length=0/\q.prods.length=0/\q.cons.length=0/\True)/\165=e/\True)/\True)/\((n==0)=false->((r.lo=q.rng.lo/\r.hi=q.rng.hi/\n=q.epoch/\0=q.frozen/\q.recs.length=0/\q.prods.length=0/\q.cons.length=0/\True)/\0=e/\True)/\True))
theorem Y5 (r:kJ) (n:Int) (q:Part) (e:Int):(bf Tryz.prog (nwH r) 11 [.agg (mG r),.y (.int .u64 n)] [] (nwT q e))=ahk r n q e:=by kernel_rfl
def abD (r:kJ) (n:Int) (q:Part) (e:Int):Prop :=
 ((r.lo=r.lo/\r.hi=r.hi/\True)/\True)/\True/\((fK r != 0)=true->(({ data:=#[]:ByteArray }=q.rng.lo/\{ data:=#[]:ByteArray }=q.rng.hi/\0=q.epoch/\0=q.frozen/\q.recs.length=0/\q.prods.length=0/\q.cons.length=0/\True)/\165=e/\True)/\True)/\((fK r != 0)=false->((n==0)=true->(({ data:=#[]:ByteArray }=q.rng.lo/\{ data:=#[]:ByteArray }=q.rng.hi/\0=q.epoch/\0=q.frozen/\q.recs.length=0/\q.prods.length=0/\q.cons.length=0/\True)/\165=e/\True)/\True)/\((n==0)=false->((r.lo=q.rng.lo/\r.hi=q.rng.hi/\n=q.epoch/\0=q.frozen/\q.recs.length=0/\q.prods.length=0/\q.cons.length=0/\True)/\0=e/\True)/\True))
theorem Qy (r:kJ) (n:Int) (q:Part) (e:Int):(bf Tryz.prog (nwH r) 22 [.agg (mG r),.y (.int .u64 n)] [] (nwT q e))=abD r n q e:=by kernel_rfl
theorem aiS (p:Part):(nwT (F9 p) (KT p)).Sat (aB Tryz.prog 11 [.agg (mG p.rng),.y (.int .u64 p.epoch)] []):=by
 refine aP (ht:=nwH p.rng) Tryz.mixed rfl ?_
 rw [Y5 p.rng p.epoch (F9 p) (KT p)]
 unfold ahk F9 KT
 have eb:({ data:=#[] }:ByteArray)=ByteArray.empty:=rfl
 by_cases h1:fK p.rng=0
 · by_cases h2:p.epoch=0
   · simp [h1,h2,eb]
     exact ⟨rfl,rfl,rfl,rfl,rfl,rfl,rfl⟩
   · simp [h1,h2]
 · simp [h1,eb]
   exact ⟨rfl,rfl,rfl,rfl,rfl,rfl,rfl⟩
theorem ahD (p:Part):(nwT (F9 p) (KT p)).Sat (aB Tryz.prog 22 [.agg (mG p.rng),.y (.int .u64 p.epoch)] []):=by
 refine aP (ht:=nwH p.rng) Tryz.mixed rfl ?_
 rw [Qy p.rng p.epoch (F9 p) (KT p)]
 unfold abD F9 KT
 have eb:({ data:=#[] }:ByteArray)=ByteArray.empty:=rfl
 by_cases h1:fK p.rng=0
 · by_cases h2:p.epoch=0
   · simp [h1,h2,eb]
     exact ⟨rfl,rfl,rfl,rfl,rfl,rfl,rfl⟩
   · simp [h1,h2]
 · simp [h1,eb]
   exact ⟨rfl,rfl,rfl,rfl,rfl,rfl,rfl⟩
noncomputable def nwC (p q:Part) (e:Int):dZ Tryz.prog:=⟨11,[.agg (mG p.rng),.y (.int .u64 p.epoch)],[],.need (q=F9 p/\e=KT p) (nwT q e),T.Sat.need fun h=>by obtain ⟨rfl,rfl⟩:=h;exact aiS p⟩
noncomputable def aiU (p q:Part) (e:Int):dZ Tryz.prog:=⟨22,[.agg (mG p.rng),.y (.int .u64 p.epoch)],[],.need (q=F9 p/\e=KT p) (nwT q e),T.Sat.need fun h=>by obtain ⟨rfl,rfl⟩:=h;exact ahD p⟩
end N
namespace Q
open J
attribute [local irreducible] iF mR dA fU eB au aQ bD je PU
noncomputable def aeT (b:Bool) (p:Part):aC Tryz.prog:=dO (byH b p) (uL 17 19 0 779 noSh)
def abC (b:Bool) (p:Part):Prop :=
 ((p.rng.lo=p.rng.lo/\p.rng.hi=p.rng.hi/\True)/\True)/\True/\RgOk p.rng/\(p.epoch=p.epoch/\True)/\True/\eZ p.epoch/\(decide ((fU p.rng).length=(fU p.rng).length)&&decide ((fU p.rng).length+(au p.epoch).length<=9223372036854775807)&&decide (((fU p.rng).length+(au p.epoch).length)*1<=140737488355328))=true/\(p.frozen=p.frozen/\True)/\True/\eZ p.frozen/\(decide ((fU p.rng).length+(au p.epoch).length=(fU p.rng).length+(au p.epoch).length)&&decide ((fU p.rng).length+(au p.epoch).length+(au p.frozen).length<=9223372036854775807)&&decide (((fU p.rng).length+(au p.epoch).length+(au p.frozen).length)*1<=140737488355328))=true/\((b=b/\p.recs.length=p.recs.length/\aj p.recs.length 5 (ah encR p.recs) (ah encR p.recs))/\True)/\True/\Un p.recs/\(decide ((fU p.rng).length+(au p.epoch).length+(au p.frozen).length=(fU p.rng).length+(au p.epoch).length+(au p.frozen).length)&&decide ((fU p.rng).length+(au p.epoch).length+(au p.frozen).length+(eB p.recs).length<=9223372036854775807)&&decide (((fU p.rng).length+(au p.epoch).length+(au p.frozen).length+(eB p.recs).length)*1<=140737488355328))=true/\(IntKind.u64.wrap (p.prods.length:Int)=(p.prods.length:Int)/\True)/\True/\eZ (p.prods.length:Int)/\(decide ((fU p.rng).length+(au p.epoch).length+(au p.frozen).length+(eB p.recs).length=(fU p.rng).length+(au p.epoch).length+(au p.frozen).length+(eB p.recs).length)&&decide ((fU p.rng).length+(au p.epoch).length+(au p.frozen).length+(eB p.recs).length+(au (p.prods.length:Int)).length<=9223372036854775807)&&decide (((fU p.rng).length+(au p.epoch).length+(au p.frozen).length+(eB p.recs).length+(au (p.prods.length:Int)).length)*1<=140737488355328))=true/\(((0=0/\0=0)/\(0=0/\(fU p.rng).length+(au p.epoch).length+(au p.frozen).length+(eB p.recs).length+(au (p.prods.length:Int)).length=(iF p 0).length)/\(0:Int)=0/\True)/\((bQ b b p p)/\((fU p.rng).length+(au p.epoch).length+(au p.frozen).length+(eB p.recs).length+(au (p.prods.length:Int)).length=(iF p 0).length/\aj ((fU p.rng).length+(au p.epoch).length+(au p.frozen).length+(eB p.recs).length+(au (p.prods.length:Int)).length) 1 (aY ((fU p.rng).length+(au p.epoch).length+(au p.frozen).length+(eB p.recs).length) (aY ((fU p.rng).length+(au p.epoch).length+(au p.frozen).length) (aY ((fU p.rng).length+(au p.epoch).length) (aY (fU p.rng).length (ah aJ (fU p.rng)) fun (k:Nat)=>ah aJ (au p.epoch) (0+k)) fun (k:Nat)=>ah aJ (au p.frozen) (0+k)) fun (k:Nat)=>ah aJ (eB p.recs) (0+k)) fun (k:Nat)=>ah aJ (au (p.prods.length:Int)) (0+k)) (ah aJ (iF p 0)))/\True)/\true=true)/\aL Tryz.prog 17 6 (aN Tryz.prog 17 6) { t:=b1T p (⟨0,byH._proof_1 p⟩:{ k:Nat // k<=p.prods.length }).val,m:=PY b p (iF p (⟨0,byH._proof_1 p⟩:{ k:Nat // k<=p.prods.length }).val),mv:=[]:St } (T.map (bJ bX (b1S b p)) ((fun (x:{ k:Nat // k<=p.prods.length })=>T.ret ()) (⟨0,byH._proof_1 p⟩:{ k:Nat // k<=p.prods.length })))/\(IntKind.u64.wrap (p.cons.length:Int)=(p.cons.length:Int)/\True)/\True/\eZ (p.cons.length:Int)/\(decide ((iF p p.prods.length).length=(iF p p.prods.length).length)&&decide ((iF p p.prods.length).length+(au (p.cons.length:Int)).length<=9223372036854775807)&&decide (((iF p p.prods.length).length+(au (p.cons.length:Int)).length)*1<=140737488355328))=true/\(((0=0/\0=0)/\(0=0/\(iF p p.prods.length).length+(au (p.cons.length:Int)).length=(mR p 0).length)/\(0:Int)=0/\True)/\((bQ b b p p)/\((iF p p.prods.length).length+(au (p.cons.length:Int)).length=(mR p 0).length/\aj ((iF p p.prods.length).length+(au (p.cons.length:Int)).length) 1 (aY (iF p p.prods.length).length (ah aJ (iF p p.prods.length)) fun (k:Nat)=>ah aJ (au (p.cons.length:Int)) (0+k)) (ah aJ (mR p 0)))/\True)/\true=true)/\aL Tryz.prog 17 15 (aN Tryz.prog 17 15) { t:=b2T p (⟨0,byH._proof_2 p⟩:{ k:Nat // k<=p.cons.length }).val,m:=PY b p (mR p (⟨0,byH._proof_2 p⟩:{ k:Nat // k<=p.cons.length }).val),mv:=[]:St } (T.map (bJ bX (b2S b p)) ((fun (x:{ k:Nat // k<=p.cons.length })=>T.ret ()) (⟨0,byH._proof_2 p⟩:{ k:Nat // k<=p.cons.length })))/\(∀ k,k<(dA p).length->∀ j,j<1->fC (ah aJ (dA p) k j)=true)/\(true=true/\(dA p).length=(dA p).length/\aj (dA p).length 1 (Ax.rowAt 0 (ah aJ (dA p))) (ah aJ (dA p)))/\True
theorem V8 (b:Bool) (p:Part):(bf Tryz.prog (aeT b p) 17 [.agg (aX b p)] [] (.ret (ig true (dA p),[],[])))=abC b p:=by kernel_rfl
theorem aha (b:Bool) (p:Part) (h:Fh p):(T.ret ((ig true (dA p),[],[]):An)).Sat (aB Tryz.prog 17 [.agg (aX b p)] []):=by
 refine aP (ht:=aeT b p) Tryz.mixed rfl ?_
 rw [V8 b p]
 unfold abC
 have mU:=Yb b p h ⟨0,Nat.zero_le _⟩
 have lp2:=aag b p h ⟨0,Nat.zero_le _⟩
 obtain ⟨h1,h2,h3,h4,h5,h6,h7,h8,h9⟩:=h
 have w1:IntKind.u64.wrap (p.prods.length:Int)=(p.prods.length:Int):=wrap_u64 (by omega) (by omega)
 have w2:IntKind.u64.wrap (p.cons.length:Int)=(p.cons.length:Int):=wrap_u64 (by omega) (by omega)
 have u1:eZ (p.prods.length:Int):=⟨by omega,by omega⟩
 have u2:eZ (p.cons.length:Int):=⟨by omega,by omega⟩
 have e1:iF p 0=fU p.rng++au p.epoch++au p.frozen++eB p.recs++au (p.prods.length:Int):=by simp [iF,PU]
 have e2:mR p 0=iF p p.prods.length++au (p.cons.length:Int):=by simp [mR]
 have n1:(iF p 0).length=(fU p.rng).length+(au p.epoch).length+(au p.frozen).length+(eB p.recs).length+(au (p.prods.length:Int)).length:=by rw [e1];simp only [List.length_append]
 have n2:(mR p 0).length=(iF p p.prods.length).length+(au (p.cons.length:Int)).length:=by rw [e2];simp only [List.length_append]
 have m1:=VW p 0
 have m2:=Kz p p.prods.length
 have m3:=Kz p 0
 simp only [Nat.zero_add,<- List.length_append,sF,w1,w2,<- e1,<- e2]
 repeat' with_reducible apply And.intro
 all_goals first
  | with_reducible rfl
  | exact trivial
  | assumption
  | omega
  | exact aG _ _ _
  | (simp;done)
  | (simp;omega)
  | (intro k _ j hj;(obtain rfl:j=0:=by omega);rfl)
noncomputable def adj (b:Bool) (p:Part):dZ Tryz.prog:=⟨17,[.agg (aX b p)],[],.need (Fh p) (.ret (ig true (dA p),[],[])),T.Sat.need fun h=>aha b p h⟩
end Q
namespace N
open H Q R
structure Rd where
 (p w:Part) (e:Int) (c:cu) (q:Part) (x:mX) (r:List Rec)
def lwT (l:List cu) (i:Nat):List AV:=mkT 122 [(1,R.uh true l),(2,.ptr 0 0 0 0),(5,.y (.bool true)),(6,.y (.int .i64 i))]
def X3 (f:Nat->Part) (i:Nat):List ay:=[.box 30 (aX true (f i))]
def UC:List Nat:=[0,1,2,3,4,5,6,7,8,9,10,11,12,13,14,15]
def lwS (f:Nat->Part) (n:Nat) (_:Unit):Exit×List AV×List ay:=(.exit 0,mkT 122 [(2,.ptr 0 0 0 0),(5,.y (.bool true))],X3 f n)
def g_ (r:List Rec) (k:Nat):Nat->Rec:=fun p=>if p<k then Ad (r.getD p default) else r.getD p default
def liT (l:List cu) (i:Nat) (e:Int) (k:Nat):List AV:=mkT 122 [(1,R.uh true l),(2,.ptr 0 0 0 0),(5,.y (.bool true)),(6,.y (.int .i64 i)),(7,.ptr 1 0 0 0),(8,.y (.int .i64 e)),(10,.ptr 7 0 0 0),(11,.ptr 8 0 0 0),(15,.y (.int .i64 k))]
def liM (d:Rd) (k:Nat):List ay:=[.box 30 (aX true d.p),.box 30 (aX false d.w),.dead,.dead,.dead,afq d.r.length (g_ d.r k),.dead,.box 44 (MP d.x d.r 5),.box 30 (aX true d.q)]
def liS (l:List cu) (i:Nat) (d:Rd) (_:Unit):Exit×List AV×List ay:=(.exit 2,mkT 122 [(1,R.uh true l),(2,.ptr 0 0 0 0),(5,.y (.bool true)),(6,.y (.int .i64 i)),(7,.ptr 1 0 0 0),(8,.y (.int .i64 d.e)),(11,.ptr 8 0 0 0)],[.box 30 (aX true d.p),.box 30 (aX false d.w),.dead,.dead,.dead,.dead,.dead,.dead,.box 30 (aX true d.q)])
noncomputable def liH:aC Tryz.prog:=dO (hh _ bO bN bM) (uL 4 18 3 786 noSh)
def aeY (l:List cu) (i:Nat) (d:Rd) (k:{ k:Nat // k<=d.r.length }):Prop :=
 (decide ((k.val:Int)<(d.r.length:Int))=true->0<=(k.val:Int)/\(k.val:Int)<(d.r.length:Int)/\decide (Int.toNat (k.val:Int)=Int.toNat (k.val:Int))=true/\∃ (j:{ k:Nat // k<=d.r.length }),d.r.length - j.val<d.r.length - k.val/\(((true=true/\l.length=l.length/\aj l.length 10 (ah bT l) (ah bT l))/\(0=0/\0=0)/\true=true/\(i:Int)=(i:Int)/\(0=0/\0=0)/\d.e=d.e/\(0=0/\0=0)/\(0=0/\0=0)/\IntKind.i64.wrap ((k.val:Int)+1)=(j.val:Int)/\True)/\(((bQ true true d.p d.p)/\(bQ false false d.w d.w)/\(d.r.length=d.r.length/\(((true=true/\77=(g_ d.r j.val (Int.toNat (k.val:Int))).off)/\(true=true/\(g_ d.r k.val (Int.toNat (k.val:Int))).key=(g_ d.r j.val (Int.toNat (k.val:Int))).key)/\((g_ d.r j.val (Int.toNat (k.val:Int))).val.length=(g_ d.r k.val (Int.toNat (k.val:Int))).val.length/\aj (g_ d.r j.val (Int.toNat (k.val:Int))).val.length 1 (ah aJ (g_ d.r k.val (Int.toNat (k.val:Int))).val) (ah aJ (g_ d.r j.val (Int.toNat (k.val:Int))).val))/\(true=true/\(g_ d.r k.val (Int.toNat (k.val:Int))).prod=(g_ d.r j.val (Int.toNat (k.val:Int))).prod)/\(true=true/\(g_ d.r k.val (Int.toNat (k.val:Int))).seq=(g_ d.r j.val (Int.toNat (k.val:Int))).seq)/\True)/\True)/\∀ k_1,k_1<d.r.length->¬k_1=Int.toNat (k.val:Int)->(g_ d.r k.val k_1).off=(g_ d.r j.val k_1).off/\(g_ d.r k.val k_1).key=(g_ d.r j.val k_1).key/\((g_ d.r k.val k_1).val.length=(g_ d.r j.val k_1).val.length/\aj (g_ d.r k.val k_1).val.length 1 (ah aJ (g_ d.r k.val k_1).val) (ah aJ (g_ d.r j.val k_1).val))/\(g_ d.r k.val k_1).prod=(g_ d.r j.val k_1).prod/\(g_ d.r k.val k_1).seq=(g_ d.r j.val k_1).seq/\True)/\(d.x.err=d.x.err/\d.x.off=d.x.off/\d.x.old=d.x.old/\(0=0/\d.r.length=d.r.length)/\True)/\(bQ true true d.q d.q)/\True)/\True)/\true=true)/\true=true/\()=())/\(decide ((k.val:Int)<(d.r.length:Int))=false->((true=true/\l.length=l.length/\aj l.length 10 (ah bT l) (ah bT l))/\(0=0/\0=0)/\true=true/\(i:Int)=(i:Int)/\(0=0/\0=0)/\d.e=d.e/\(0=0/\0=0)/\True)/\((bQ true true d.p d.p)/\(bQ false false d.w d.w)/\(bQ true true d.q d.q)/\True)/\true=true)
theorem Yo (l:List cu) (i:Nat) (d:Rd) (k:{ k:Nat // k<=d.r.length }):(bP Tryz.prog liH 4 16 (fun (k:{ k:Nat // k<=d.r.length })=>d.r.length - k.1) (fun k=>liT l i d.e k.1) (fun k=>liM d k.1) UC (fun _=>.ret ()) (liS l i d) k)=aeY l i d k:=by kernel_rfl
noncomputable def agb (d:Rd):aC Tryz.prog:=nC (dO (hh _ bO (cs1 4 7 1 (Q.adj true d.p) (cs1 4 7 2 (J.acO (dA d.p) d.w d.e) (cs1 4 8 5 (aiX true d.p d.c d.q d.x d.r) (cs1 4 9 5 (R.ab5 d.p d.c d.q d.x) (cs1 4 10 2 (ai0 d.q) (cs1 4 11 2 (agF d.x) (cs1 4 14 1 ahQ (cs1 4 19 5 (R.Xy true false d.p d.w) bN)))))))) bM) noSh) [21]
noncomputable def agp (d:Rd):aC Tryz.prog:=nC (dO (hh _ bO (cs1 4 7 1 (Q.adj true d.p) (cs1 4 7 2 (J.acO (dA d.p) d.w d.e) (cs1 4 8 5 (ai8 true d.p d.c d.q d.x d.r) (cs1 4 9 5 (R.ab5 d.p d.c d.q d.x) (cs1 4 10 2 (afn d.q) (cs1 4 11 2 (agF d.x) (cs1 4 14 1 (N.sqC d.q) (cs1 4 19 5 (R.Xy true false d.p d.w) bN)))))))) bM) noSh) [21]
noncomputable def Vr (l:List cu) (i:Nat) (d:Rd):aC Tryz.prog:=nC (dO (hh _ (mU 4 16 (dM (fun (k:{ k:Nat // k<=d.r.length })=>liT l i d.e k.1) (fun k=>liM d k.1) UC (fun _=>.ret ()) (liS l i d) ⟨0,Nat.zero_le _⟩) bO) (cs1 4 7 1 (Q.adj true d.p) (cs1 4 7 2 (J.acO (dA d.p) d.w d.e) (cs1 4 8 5 (ai2 true d.p d.c d.q d.x d.r) (cs1 4 9 5 (R.ab5 d.p d.c d.q d.x) (cs1 4 10 2 (afn d.q) (cs1 4 11 2 (aiR d.x d.r) (cs1 4 14 1 (N.sqC d.q) (cs1 4 19 5 (R.Xy true false d.p d.w) bN)))))))) bM) noSh) [21]
def SG (l:List cu) (f:Nat->Part) (d:Rd) (i:Nat):Prop :=
 (decide ((i:Int)<(l.length:Int))=true->((bQ true true (f i) (f i))/\True)/\True/\Fh (f i)/\((lu (Q.dA (f i)) (Q.dA (f i)))/\True)/\True/\J.yO (Q.dA (f i))/\(d.w,d.e)=J.nH (Q.dA (f i))/\(true&&decide ((i:Int)<(l.length:Int)))=true/\((bQ true true (f i) (f i))/\(R.sS (l.getD (Int.toNat (i:Int)) default) (l.getD i default))/\True)/\True/\um (f i) (l.getD i default) (f (i+1)) d.x d.r 0/\(true&&decide ((i:Int)<(l.length:Int)))=true/\((bQ true true (f i) (f i))/\(R.sS (l.getD (Int.toNat (i:Int)) default) (l.getD i default))/\True)/\True/\QoR (f i) (l.getD i default) (f (i+1)) d.x/\((ByteArray.empty=ByteArray.empty/\ByteArray.empty=ByteArray.empty/\(0:Int)=0/\(0:Int)=0/\(true=true/\0=0/\aj 0 5 (ah encR []) (ah encR []))/\(true=true/\0=0/\aj 0 4 (ah P.ak []) (ah P.ak []))/\(true=true/\0=0/\aj 0 2 (ah aD []) (ah aD []))/\True)/\(bQ true true (f (i+1)) (f (i+1)))/\True)/\True/\f (i+1)=@default Part instInhabitedPart/\((d.x.err=d.x.err/\d.x.off=d.x.off/\d.x.old=d.x.old/\True/\True)/\(d.x.err=d.x.err/\d.x.off=d.x.off/\d.x.old=d.x.old/\(true=true/\d.x.recs.length=d.x.recs.length/\aj d.x.recs.length 5 (ah encR d.x.recs) (ah encR d.x.recs))/\True)/\True)/\True/\d.x.recs=[]/\(false=true->False)/\(false=false->(false=true->False)/\(false=false->((ByteArray.empty=ByteArray.empty/\ByteArray.empty=ByteArray.empty/\(0:Int)=0/\(0:Int)=0/\(true=true/\0=0/\aj 0 5 (ah encR []) (ah encR []))/\(true=true/\0=0/\aj 0 4 (ah P.ak []) (ah P.ak []))/\(true=true/\0=0/\aj 0 2 (ah aD []) (ah aD []))/\True)/\True)/\True/\((d.e != 0)=true->∃ j:Nat,l.length - j<l.length - i/\(((true=true/\l.length=l.length/\aj l.length 10 (ah bT l) (ah bT l))/\(0=0/\0=0)/\true=true/\IntKind.i64.wrap ((i:Int)+1)=(j:Int)/\True)/\((bQ true true (f (i+1)) (f j))/\True)/\true=true)/\true=true/\()=())/\((d.e != 0)=false->((bQ true true (f i) (f i))/\(bQ false false d.w d.w)/\True)/\True/\eG (f i)/\((!eH (f i) d.w)=true->False)/\((!eH (f i) d.w)=false->∃ j:Nat,l.length - j<l.length - i/\(((true=true/\l.length=l.length/\aj l.length 10 (ah bT l) (ah bT l))/\(0=0/\0=0)/\true=true/\IntKind.i64.wrap ((i:Int)+1)=(j:Int)/\True)/\((bQ true true (f (i+1)) (f j))/\True)/\true=true)/\true=true/\()=())))))/\(decide ((i:Int)<(l.length:Int))=false->((0=0/\0=0)/\true=true/\True)/\((bQ true true (f i) (f l.length))/\True)/\true=true)
theorem Vt (l:List cu) (f:Nat->Part) (d:Rd) (i:Nat):(bP Tryz.prog (agb ⟨f i,d.w,d.e,l.getD i default,f (i+1),d.x,d.r⟩) 4 5 (fun i=>l.length - i) (lwT l) (X3 f) UC (fun _=>.ret ()) (lwS f l.length) i)=SG l f d i:=by kernel_rfl
def TB (l:List cu) (f:Nat->Part) (d:Rd) (i:Nat):Prop :=
 (decide ((i:Int)<(l.length:Int))=true->((bQ true true (f i) (f i))/\True)/\True/\Fh (f i)/\((lu (Q.dA (f i)) (Q.dA (f i)))/\True)/\True/\J.yO (Q.dA (f i))/\(d.w,d.e)=J.nH (Q.dA (f i))/\(true&&decide ((i:Int)<(l.length:Int)))=true/\((bQ true true (f i) (f i))/\(R.sS (l.getD (Int.toNat (i:Int)) default) (l.getD i default))/\True)/\True/\um (f i) (l.getD i default) (f (i+1)) d.x d.r 1/\(true&&decide ((i:Int)<(l.length:Int)))=true/\((bQ true true (f i) (f i))/\(R.sS (l.getD (Int.toNat (i:Int)) default) (l.getD i default))/\True)/\True/\QoR (f i) (l.getD i default) (f (i+1)) d.x/\(((f (i+1)).rng.lo=(f (i+1)).rng.lo/\(f (i+1)).rng.hi=(f (i+1)).rng.hi/\(f (i+1)).epoch=(f (i+1)).epoch/\(f (i+1)).frozen=(f (i+1)).frozen/\(false=false/\(f (i+1)).recs.length=(f (i+1)).recs.length/\aj (f (i+1)).recs.length 5 (Ax.rowAt 0 fun (k j:Nat)=>PN (JL (f (i+1)).recs k j)) (ah fH (f (i+1)).recs))/\(false=false/\(f (i+1)).prods.length=(f (i+1)).prods.length/\aj (f (i+1)).prods.length 4 (Ax.rowAt 0 (ah P.ak (f (i+1)).prods)) (ah P.ak (f (i+1)).prods))/\(false=false/\(f (i+1)).cons.length=(f (i+1)).cons.length/\aj (f (i+1)).cons.length 2 (Ax.rowAt 0 (ah aD (f (i+1)).cons)) (ah aD (f (i+1)).cons))/\True)/\(bQ true true (f (i+1)) (f (i+1)))/\True)/\True/\vo (f (i+1))/\true=true/\True/\((d.x.err=d.x.err/\d.x.off=d.x.off/\d.x.old=d.x.old/\True/\True)/\(d.x.err=d.x.err/\d.x.off=d.x.off/\d.x.old=d.x.old/\(true=true/\d.x.recs.length=d.x.recs.length/\aj d.x.recs.length 5 (ah encR d.x.recs) (ah encR d.x.recs))/\True)/\True)/\True/\d.x.recs=[]/\(false=true->False)/\(false=false->(false=true->False)/\(false=false->(((f (i+1)).rng.lo=(f (i+1)).rng.lo/\(f (i+1)).rng.hi=(f (i+1)).rng.hi/\(f (i+1)).epoch=(f (i+1)).epoch/\(f (i+1)).frozen=(f (i+1)).frozen/\(0=0/\(f (i+1)).recs.length=(f (i+1)).recs.length)/\(0=0/\(f (i+1)).prods.length=(f (i+1)).prods.length)/\(0=0/\(f (i+1)).cons.length=(f (i+1)).cons.length)/\True)/\True)/\(((f (i+1)).recs.length=(f (i+1)).recs.length/\∀ k,k<(f (i+1)).recs.length->((f (i+1)).recs.getD k default).off=((f (i+1)).recs.getD k default).off/\((f (i+1)).recs.getD k default).key=((f (i+1)).recs.getD k default).key/\(((f (i+1)).recs.getD k default).val.length=((f (i+1)).recs.getD k default).val.length/\aj ((f (i+1)).recs.getD k default).val.length 1 (ah aJ ((f (i+1)).recs.getD k default).val) (ah aJ ((f (i+1)).recs.getD k default).val))/\((f (i+1)).recs.getD k default).prod=((f (i+1)).recs.getD k default).prod/\((f (i+1)).recs.getD k default).seq=((f (i+1)).recs.getD k default).seq/\True)/\((f (i+1)).prods.length=(f (i+1)).prods.length/\aj (f (i+1)).prods.length 4 (ah P.ak (f (i+1)).prods) (ah P.ak (f (i+1)).prods))/\((f (i+1)).cons.length=(f (i+1)).cons.length/\aj (f (i+1)).cons.length 2 (ah aD (f (i+1)).cons) (ah aD (f (i+1)).cons))/\True)/\qO (f (i+1))/\((d.e != 0)=true->∃ j:Nat,l.length - j<l.length - i/\(((true=true/\l.length=l.length/\aj l.length 10 (ah bT l) (ah bT l))/\(0=0/\0=0)/\true=true/\IntKind.i64.wrap ((i:Int)+1)=(j:Int)/\True)/\((bQ true true (f (i+1)) (f j))/\True)/\true=true)/\true=true/\()=())/\((d.e != 0)=false->((bQ true true (f i) (f i))/\(bQ false false d.w d.w)/\True)/\True/\eG (f i)/\((!eH (f i) d.w)=true->False)/\((!eH (f i) d.w)=false->∃ j:Nat,l.length - j<l.length - i/\(((true=true/\l.length=l.length/\aj l.length 10 (ah bT l) (ah bT l))/\(0=0/\0=0)/\true=true/\IntKind.i64.wrap ((i:Int)+1)=(j:Int)/\True)/\((bQ true true (f (i+1)) (f j))/\True)/\true=true)/\true=true/\()=())))))/\(decide ((i:Int)<(l.length:Int))=false->((0=0/\0=0)/\true=true/\True)/\((bQ true true (f i) (f l.length))/\True)/\true=true)
theorem Vv (l:List cu) (f:Nat->Part) (d:Rd) (i:Nat):(bP Tryz.prog (agp ⟨f i,d.w,d.e,l.getD i default,f (i+1),d.x,d.r⟩) 4 5 (fun i=>l.length - i) (lwT l) (X3 f) UC (fun _=>.ret ()) (lwS f l.length) i)=TB l f d i:=by kernel_rfl
def RB (l:List cu) (f:Nat->Part) (d:Rd) (i:Nat):Prop :=
 (decide ((i:Int)<(l.length:Int))=true->((bQ true true (f i) (f i))/\True)/\True/\Fh (f i)/\((lu (Q.dA (f i)) (Q.dA (f i)))/\True)/\True/\J.yO (Q.dA (f i))/\(d.w,d.e)=J.nH (Q.dA (f i))/\(true&&decide ((i:Int)<(l.length:Int)))=true/\((bQ true true (f i) (f i))/\(R.sS (l.getD (Int.toNat (i:Int)) default) (l.getD i default))/\True)/\True/\um (f i) (l.getD i default) (f (i+1)) d.x d.r 2/\(true&&decide ((i:Int)<(l.length:Int)))=true/\((bQ true true (f i) (f i))/\(R.sS (l.getD (Int.toNat (i:Int)) default) (l.getD i default))/\True)/\True/\QoR (f i) (l.getD i default) (f (i+1)) d.x/\(((f (i+1)).rng.lo=(f (i+1)).rng.lo/\(f (i+1)).rng.hi=(f (i+1)).rng.hi/\(f (i+1)).epoch=(f (i+1)).epoch/\(f (i+1)).frozen=(f (i+1)).frozen/\(false=false/\(f (i+1)).recs.length=(f (i+1)).recs.length/\aj (f (i+1)).recs.length 5 (Ax.rowAt 0 fun (k j:Nat)=>PN (JL (f (i+1)).recs k j)) (ah fH (f (i+1)).recs))/\(false=false/\(f (i+1)).prods.length=(f (i+1)).prods.length/\aj (f (i+1)).prods.length 4 (Ax.rowAt 0 (ah P.ak (f (i+1)).prods)) (ah P.ak (f (i+1)).prods))/\(false=false/\(f (i+1)).cons.length=(f (i+1)).cons.length/\aj (f (i+1)).cons.length 2 (Ax.rowAt 0 (ah aD (f (i+1)).cons)) (ah aD (f (i+1)).cons))/\True)/\(bQ true true (f (i+1)) (f (i+1)))/\True)/\True/\vo (f (i+1))/\true=true/\True/\((d.x.err=d.x.err/\d.x.off=d.x.off/\d.x.old=d.x.old/\(false=false/\d.r.length=d.r.length/\aj d.r.length 5 (Ax.rowAt 0 fun (k j:Nat)=>PN (JL d.r k j)) (ah fH d.r))/\True)/\(d.x.err=d.x.err/\d.x.off=d.x.off/\d.x.old=d.x.old/\(true=true/\d.x.recs.length=d.x.recs.length/\aj d.x.recs.length 5 (ah encR d.x.recs) (ah encR d.x.recs))/\True)/\True)/\True/\(d.r.length<=9223372036854775806/\d.r=d.x.recs)/\true=true/\True/\(false=true->False)/\(false=false->(false=true->False)/\(false=false->(((f (i+1)).rng.lo=(f (i+1)).rng.lo/\(f (i+1)).rng.hi=(f (i+1)).rng.hi/\(f (i+1)).epoch=(f (i+1)).epoch/\(f (i+1)).frozen=(f (i+1)).frozen/\(0=0/\(f (i+1)).recs.length=(f (i+1)).recs.length)/\(0=0/\(f (i+1)).prods.length=(f (i+1)).prods.length)/\(0=0/\(f (i+1)).cons.length=(f (i+1)).cons.length)/\True)/\True)/\(((f (i+1)).recs.length=(f (i+1)).recs.length/\∀ k,k<(f (i+1)).recs.length->((f (i+1)).recs.getD k default).off=((f (i+1)).recs.getD k default).off/\((f (i+1)).recs.getD k default).key=((f (i+1)).recs.getD k default).key/\(((f (i+1)).recs.getD k default).val.length=((f (i+1)).recs.getD k default).val.length/\aj ((f (i+1)).recs.getD k default).val.length 1 (ah aJ ((f (i+1)).recs.getD k default).val) (ah aJ ((f (i+1)).recs.getD k default).val))/\((f (i+1)).recs.getD k default).prod=((f (i+1)).recs.getD k default).prod/\((f (i+1)).recs.getD k default).seq=((f (i+1)).recs.getD k default).seq/\True)/\((f (i+1)).prods.length=(f (i+1)).prods.length/\aj (f (i+1)).prods.length 4 (ah P.ak (f (i+1)).prods) (ah P.ak (f (i+1)).prods))/\((f (i+1)).cons.length=(f (i+1)).cons.length/\aj (f (i+1)).cons.length 2 (ah aD (f (i+1)).cons) (ah aD (f (i+1)).cons))/\True)/\qO (f (i+1))/\(((true=true/\l.length=l.length/\aj l.length 10 (ah bT l) (ah bT l))/\(0=0/\0=0)/\true=true/\(i:Int)=(i:Int)/\(0=0/\0=0)/\d.e=d.e/\(0=0/\0=0)/\(0=0/\0=0)/\(0:Int)=0/\True)/\((bQ true true (f i) (f i))/\(bQ false false d.w d.w)/\(d.r.length=d.r.length/\∀ k,k<d.r.length->(d.r.getD k default).off=(g_ d.r 0 k).off/\(d.r.getD k default).key=(g_ d.r 0 k).key/\((d.r.getD k default).val.length=(g_ d.r 0 k).val.length/\aj (d.r.getD k default).val.length 1 (ah aJ (d.r.getD k default).val) (ah aJ (g_ d.r 0 k).val))/\(d.r.getD k default).prod=(g_ d.r 0 k).prod/\(d.r.getD k default).seq=(g_ d.r 0 k).seq/\True)/\(d.x.err=d.x.err/\d.x.off=d.x.off/\d.x.old=d.x.old/\(0=0/\d.r.length=d.r.length)/\True)/\(bQ true true (f (i+1)) (f (i+1)))/\True)/\true=true)/\aL Tryz.prog 4 16 (aN Tryz.prog 4 16) { t:=liT l i { p:=f i,w:=d.w,e:=d.e,c:=l.getD i default,q:=f (i+1),x:=d.x,r:=d.r:Rd }.e (⟨0,Vr._proof_1 { p:=f i,w:=d.w,e:=d.e,c:=l.getD i default,q:=f (i+1),x:=d.x,r:=d.r:Rd }⟩:{ k:Nat // k<=List.length { p:=f i,w:=d.w,e:=d.e,c:=l.getD i default,q:=f (i+1),x:=d.x,r:=d.r:Rd }.r }).val,m:=liM { p:=f i,w:=d.w,e:=d.e,c:=l.getD i default,q:=f (i+1),x:=d.x,r:=d.r:Rd } (⟨0,Vr._proof_1 { p:=f i,w:=d.w,e:=d.e,c:=l.getD i default,q:=f (i+1),x:=d.x,r:=d.r:Rd }⟩:{ k:Nat // k<=List.length { p:=f i,w:=d.w,e:=d.e,c:=l.getD i default,q:=f (i+1),x:=d.x,r:=d.r:Rd }.r }).val,mv:=[]:St } (T.map (bJ UC (liS l i { p:=f i,w:=d.w,e:=d.e,c:=l.getD i default,q:=f (i+1),x:=d.x,r:=d.r:Rd })) ((fun (x:{ k:Nat // k<=List.length { p:=f i,w:=d.w,e:=d.e,c:=l.getD i default,q:=f (i+1),x:=d.x,r:=d.r:Rd }.r })=>T.ret ()) (⟨0,Vr._proof_1 { p:=f i,w:=d.w,e:=d.e,c:=l.getD i default,q:=f (i+1),x:=d.x,r:=d.r:Rd }⟩:{ k:Nat // k<=List.length { p:=f i,w:=d.w,e:=d.e,c:=l.getD i default,q:=f (i+1),x:=d.x,r:=d.r:Rd }.r })))/\((d.e != 0)=true->∃ j:Nat,l.length - j<l.length - i/\(((true=true/\l.length=l.length/\aj l.length 10 (ah bT l) (ah bT l))/\(0=0/\0=0)/\true=true/\IntKind.i64.wrap ((i:Int)+1)=(j:Int)/\True)/\((bQ true true (f (i+1)) (f j))/\True)/\true=true)/\true=true/\()=())/\((d.e != 0)=false->((bQ true true (f i) (f i))/\(bQ false false d.w d.w)/\True)/\True/\eG (f i)/\((!eH (f i) d.w)=true->False)/\((!eH (f i) d.w)=false->∃ j:Nat,l.length - j<l.length - i/\(((true=true/\l.length=l.length/\aj l.length 10 (ah bT l) (ah bT l))/\(0=0/\0=0)/\true=true/\IntKind.i64.wrap ((i:Int)+1)=(j:Int)/\True)/\((bQ true true (f (i+1)) (f j))/\True)/\true=true)/\true=true/\()=())))))/\(decide ((i:Int)<(l.length:Int))=false->((0=0/\0=0)/\true=true/\True)/\((bQ true true (f i) (f l.length))/\True)/\true=true)
theorem TL (l:List cu) (f:Nat->Part) (d:Rd) (i:Nat):(bP Tryz.prog (Vr l i ⟨f i,d.w,d.e,l.getD i default,f (i+1),d.x,d.r⟩) 4 5 (fun i=>l.length - i) (lwT l) (X3 f) UC (fun _=>.ret ()) (lwS f l.length) i)=RB l f d i:=by kernel_rfl
noncomputable def ldH (p:Part) (l:List cu) (f:Nat->Part) (z q:Part) (e:Int):aC Tryz.prog:=hh _ (mU 4 5 (dM (lwT l) (X3 f) UC (fun _=>.ret ()) (lwS f l.length) 0) bO) (cs1 4 1 0 J.aiD (cs1 4 2 1 (pcC true p) (cs1 4 2 3 (Q.ckC true p) (cs1 4 23 4 (nwC z q e) (cs1 4 24 4 (aiU z q e) (cs1 4 25 2 (R.Xy true true q q) bN)))))) bM
def ahe (p:Part) (l:List cu) (f:Nat->Part) (q:Part) (e:Int):Prop :=
 True/\True/\((bQ true true p p)/\True)/\True/\eG p/\(aH p=true->((bQ true true p p)/\True)/\True/\Bj p/\(aH p=true->(((true=true/\l.length=l.length/\aj l.length 10 (ah bT l) (ah bT l))/\(0=0/\0=0)/\true=true/\(0:Int)=0/\True)/\((bQ true true p (f 0))/\True)/\true=true)/\aL Tryz.prog 4 5 (aN Tryz.prog 4 5) { t:=lwT l 0,m:=X3 f 0,mv:=[]:St } (T.map (bJ UC (lwS f l.length)) ((fun (x:Nat)=>T.ret ()) 0))/\(((f l.length).rng.lo=(f l.length).rng.lo/\(f l.length).rng.hi=(f l.length).rng.hi/\True)/\(f l.length).epoch=(f l.length).epoch/\True)/\True/\(q=F9 (f l.length)/\e=KT (f l.length))/\(((f l.length).rng.lo=(f l.length).rng.lo/\(f l.length).rng.hi=(f l.length).rng.hi/\True)/\(f l.length).epoch=(f l.length).epoch/\True)/\True/\(q=F9 (f l.length)/\e=KT (f l.length))/\((bQ true true q q)/\(bQ true true q q)/\True)/\True/\eG q/\(true=true->(eH q q=true->(e==e)=true/\True)/\(eH q q=false->false=true/\True))/\(true=false->false=true/\True))/\(aH p=false->false=true/\True))/\(aH p=false->((bQ true true p p)/\True)/\True/\Bj p/\(aH p=true->false=true/\True)/\(aH p=false->(((true=true/\l.length=l.length/\aj l.length 10 (ah bT l) (ah bT l))/\(0=0/\0=0)/\true=true/\(0:Int)=0/\True)/\((bQ true true p (f 0))/\True)/\true=true)/\aL Tryz.prog 4 5 (aN Tryz.prog 4 5) { t:=lwT l 0,m:=X3 f 0,mv:=[]:St } (T.map (bJ UC (lwS f l.length)) ((fun (x:Nat)=>T.ret ()) 0))/\(((f l.length).rng.lo=(f l.length).rng.lo/\(f l.length).rng.hi=(f l.length).rng.hi/\True)/\(f l.length).epoch=(f l.length).epoch/\True)/\True/\(q=F9 (f l.length)/\e=KT (f l.length))/\(((f l.length).rng.lo=(f l.length).rng.lo/\(f l.length).rng.hi=(f l.length).rng.hi/\True)/\(f l.length).epoch=(f l.length).epoch/\True)/\True/\(q=F9 (f l.length)/\e=KT (f l.length))/\((bQ true true q q)/\(bQ true true q q)/\True)/\True/\eG q/\(true=true->(eH q q=true->(e==e)=true/\True)/\(eH q q=false->false=true/\True))/\(true=false->false=true/\True)))
theorem Yg (p:Part) (l:List cu) (f:Nat->Part) (q:Part) (e:Int):(bf Tryz.prog (ldH p l f (f l.length) q e) 4 [.agg (aX true p),R.uh true l] [] (aZ true))=ahe p l f q e:=by kernel_rfl
theorem Z9 (l:List cu) (i:Nat) (d:Rd) (hn:d.r.length<=4096) (k:{ k:Nat // k<=d.r.length }):aL Tryz.prog 4 16 (aN Tryz.prog 4 16) ⟨liT l i d.e k.1,liM d k.1,[]⟩ (T.map (bJ UC (liS l i d)) (.ret ())):=by
 refine dK (o:=fun _=>.ret ()) (sV:=fun (k:{ k:Nat // k<=d.r.length })=>liT l i d.e k.1) (stM:=fun k=>liM d k.1) Tryz.mixed (fun _=>rfl) (fun k=>(Yo l i d k).mpr ?_) k
 unfold aeY
 obtain ⟨k,hk⟩:=k
 refine ⟨fun h1=>?_,fun h1=>?_⟩
 · have hlt:k<d.r.length:=by simpa using h1
   have hex:∀ q:{ k:Nat // k<=d.r.length }->Prop,q ⟨k+1,hlt⟩->∃ j,q j:=fun q hq=>⟨_,hq⟩
   have hw:IntKind.i64.wrap ((k:Int)+1)=((k+1:Nat):Int):=by rw [wrap_i64 (by omega) (by omega)];omega
   have e0:g_ d.r k k=d.r.getD k default:=if_neg (Nat.lt_irrefl k)
   have e1:g_ d.r (k+1) k=Ad (d.r.getD k default):=if_pos (Nat.lt_succ_self k)
   have e2:∀ q,¬ q=k->g_ d.r k q=g_ d.r (k+1) q:=fun q h=>by
    unfold g_
    by_cases h2:q<k
    · rw [if_pos h2,if_pos (by omega)]
    · rw [if_neg h2,if_neg (by omega)]
   simp only [Int.toNat_natCast,e0]
   refine ⟨by omega,by omega,by simp,hex _ ?_⟩
   simp only [e1]
   repeat' with_reducible apply And.intro
   all_goals first
    | with_reducible rfl
    | exact trivial
    | exact hw
    | exact aG _ _ _
    | (show _ - (k+1)<_ - k;omega)
    | (intro q _ hq;rw [e2 q hq];simp;done)
    | (simp;done)
    | exact rfl
 · have:k=d.r.length:=by simp at h1;omega
   subst this
   simp
theorem xC (r:List Rec) (k:Nat):g_ r 0 k=r.getD k default:=if_neg (Nat.not_lt_zero k)
structure Rf (d:Rd):Prop where
 b:Q.Fh d.p
 rl:J.yO (dA d.p)
 w:(d.w,d.e)=J.nH (dA d.p)
 qo:QoR d.p d.c d.q d.x
 i:eG d.p
 s:d.e=0->eH d.p d.w=true
 k:(um d.p d.c d.q d.x d.r 0/\d.q=default/\d.x.recs=[])∨(um d.p d.c d.q d.x d.r 1/\vo d.q/\qO d.q/\d.x.recs=[])∨(um d.p d.c d.q d.x d.r 2/\vo d.q/\qO d.q/\d.r=d.x.recs/\d.r.length<=4096)
theorem agS (l:List cu) (f:Nat->Part) (d:Rd) (i:Nat) (hn:l.length<=9223372036854775806) (he:l.length<=i->f i=f l.length) (h:i<l.length->Rf ⟨f i,d.w,d.e,l.getD i default,f (i+1),d.x,d.r⟩/\mJ (f i) (l.getD i default)=0):SG l f d i:=by
 unfold SG
 by_cases hi:i<l.length
 · have hz:decide ((i:Int)<l.length)=true:=by simp;omega
   have hw:IntKind.i64.wrap ((i:Int)+1)=((i+1:Nat):Int):=by rw [wrap_i64 (by omega) (by omega)];omega
   obtain ⟨⟨h1,h2,h3,h4,h5,h6,h7⟩,h8⟩:=h hi
   simp only at h1 h2 h3 h4 h5 h6 h7
   have h7:um (f i) (l.getD i default) (f (i+1)) d.x d.r 0/\f (i+1)=default/\d.x.recs=[]:=by
    rcases h7 with h | h | h
    all_goals first
     | exact h
     | (have:=h.1.k;rw [h8] at this;cases this)
   obtain ⟨a1,a2,a3⟩:=h7
   have hex:∀ q:Nat->Prop,q (i+1)->∃ j,q j:=fun q hq=>⟨_,hq⟩
   rw [Int.toNat_natCast]
   simp only [hz,hw,nN,xC]
   generalize l.getD i default=c at *
   generalize f i=p at *
   generalize hq:f (i+1)=q at *
   have hs:(d.e != 0)=false->eH p d.w=true:=fun h=>h6 (by simpa using h)
   repeat' first
    | with_reducible apply And.intro
    | (with_reducible intro hf;exact absurd hf (by decide))
    | with_reducible intro _
   all_goals first
    | with_reducible rfl
    | exact trivial
    | assumption
    | exact aG _ _ _
    | (refine hex _ ?_;simp [hq];omega)
    | (exfalso;simp_all;done)
    | (simp [*];done)
    | (simp;done)
    | exact rfl
    | (rw [rowAt_zero];exact nN _ _)
 · have hz:decide ((i:Int)<l.length)=false:=by simp;omega
   simp only [hz,he (by omega)]
   simp
theorem agW (l:List cu) (f:Nat->Part) (d:Rd) (i:Nat) (hn:l.length<=9223372036854775806) (he:l.length<=i->f i=f l.length) (h:i<l.length->Rf ⟨f i,d.w,d.e,l.getD i default,f (i+1),d.x,d.r⟩/\mJ (f i) (l.getD i default)=1):TB l f d i:=by
 unfold TB
 by_cases hi:i<l.length
 · have hz:decide ((i:Int)<l.length)=true:=by simp;omega
   have hw:IntKind.i64.wrap ((i:Int)+1)=((i+1:Nat):Int):=by rw [wrap_i64 (by omega) (by omega)];omega
   obtain ⟨⟨h1,h2,h3,h4,h5,h6,h7⟩,h8⟩:=h hi
   simp only at h1 h2 h3 h4 h5 h6 h7
   have h7:um (f i) (l.getD i default) (f (i+1)) d.x d.r 1/\vo (f (i+1))/\qO (f (i+1))/\d.x.recs=[]:=by
    rcases h7 with h | h | h
    all_goals first
     | exact h
     | (have:=h.1.k;rw [h8] at this;cases this)
   obtain ⟨a1,a2,a3,a4⟩:=h7
   have hex:∀ q:Nat->Prop,q (i+1)->∃ j,q j:=fun q hq=>⟨_,hq⟩
   rw [Int.toNat_natCast]
   simp only [hz,hw,nN,xC]
   generalize l.getD i default=c at *
   generalize f i=p at *
   generalize hq:f (i+1)=q at *
   have hs:(d.e != 0)=false->eH p d.w=true:=fun h=>h6 (by simpa using h)
   repeat' first
    | with_reducible apply And.intro
    | (with_reducible intro hf;exact absurd hf (by decide))
    | with_reducible intro _
   all_goals first
    | with_reducible rfl
    | exact trivial
    | assumption
    | exact aG _ _ _
    | (refine hex _ ?_;simp [hq];omega)
    | (exfalso;simp_all;done)
    | (simp [*];done)
    | (simp;done)
    | exact rfl
    | (rw [rowAt_zero];exact nN _ _)
 · have hz:decide ((i:Int)<l.length)=false:=by simp;omega
   simp only [hz,he (by omega)]
   simp
theorem aeR (l:List cu) (f:Nat->Part) (d:Rd) (i:Nat) (hn:l.length<=9223372036854775806) (he:l.length<=i->f i=f l.length) (h:i<l.length->Rf ⟨f i,d.w,d.e,l.getD i default,f (i+1),d.x,d.r⟩/\mJ (f i) (l.getD i default)=2):RB l f d i:=by
 unfold RB
 by_cases hi:i<l.length
 · have hz:decide ((i:Int)<l.length)=true:=by simp;omega
   have hw:IntKind.i64.wrap ((i:Int)+1)=((i+1:Nat):Int):=by rw [wrap_i64 (by omega) (by omega)];omega
   obtain ⟨⟨h1,h2,h3,h4,h5,h6,h7⟩,h8⟩:=h hi
   simp only at h1 h2 h3 h4 h5 h6 h7
   have h7:um (f i) (l.getD i default) (f (i+1)) d.x d.r 2/\vo (f (i+1))/\qO (f (i+1))/\d.r=d.x.recs/\d.r.length<=4096:=by
    rcases h7 with h | h | h
    all_goals first
     | exact h
     | (have:=h.1.k;rw [h8] at this;cases this)
   obtain ⟨a1,a2,a3,a4,a5⟩:=h7
   have hex:∀ q:Nat->Prop,q (i+1)->∃ j,q j:=fun q hq=>⟨_,hq⟩
   have lp:=Z9 l i ⟨f i,d.w,d.e,l.getD i default,f (i+1),d.x,d.r⟩ a5 ⟨0,Nat.zero_le _⟩
   have hr0:∀ k,g_ d.r 0 k=d.r.getD k default:=fun k=>if_neg (Nat.not_lt_zero k)
   have ar:d.r.length<=9223372036854775806:=by omega
   rw [Int.toNat_natCast]
   simp only [hz,hw,nN,xC]
   generalize l.getD i default=c at *
   generalize f i=p at *
   generalize hq:f (i+1)=q at *
   have hs:(d.e != 0)=false->eH p d.w=true:=fun h=>h6 (by simpa using h)
   repeat' first
    | with_reducible apply And.intro
    | (with_reducible intro hf;exact absurd hf (by decide))
    | with_reducible intro _
   all_goals first
    | with_reducible rfl
    | exact trivial
    | assumption
    | exact aG _ _ _
    | (refine hex _ ?_;simp [hq];omega)
    | (exfalso;simp_all;done)
    | (simp [*];done)
    | (simp;done)
    | exact rfl
    | (rw [rowAt_zero];exact nN _ _)
 · have hz:decide ((i:Int)<l.length)=false:=by simp;omega
   simp only [hz,he (by omega)]
   simp
noncomputable def lwH (l:List cu) (f:Nat->Part) (D:Nat->Rd) (i:Nat):aC Tryz.prog:=match mJ (f i) (l.getD i default) with
 | 0=>agb ⟨f i,(D i).w,(D i).e,l.getD i default,f (i+1),(D i).x,(D i).r⟩
 | 1=>agp ⟨f i,(D i).w,(D i).e,l.getD i default,f (i+1),(D i).x,(D i).r⟩
 | _=>Vr l i ⟨f i,(D i).w,(D i).e,l.getD i default,f (i+1),(D i).x,(D i).r⟩
structure U6 (l:List cu) (f:Nat->Part) (D:Nat->Rd):Prop where
 n:l.length<=9223372036854775806
 e:∀ i,l.length<=i->f i=f l.length
 d:∀ i,i<l.length->Rf ⟨f i,(D i).w,(D i).e,l.getD i default,f (i+1),(D i).x,(D i).r⟩
theorem Ta (p:Part) (c:cu):mJ p c<=2:=by
 unfold mJ
 repeat' split
 all_goals decide
theorem ZM (l:List cu) (f:Nat->Part) (D:Nat->Rd) (h:U6 l f D) (i:Nat):aL Tryz.prog 4 5 (aN Tryz.prog 4 5) ⟨lwT l i,X3 f i,[]⟩ (T.map (bJ UC (lwS f l.length)) (.ret ())):=by
 refine dK (μ:=fun i=>l.length - i) (o:=fun _=>.ret ()) (ht:=lwH l f D) (sV:=lwT l) (stM:=X3 f) Tryz.mixed (fun _=>rfl) (fun i=>?_) i
 have hn:=h.n
 have hk:=Ta (f i) (l.getD i default)
 cases h0:mJ (f i) (l.getD i default) with
 | zero =>
   have:=agS l f (D i) i hn (h.e i) fun hi=>⟨h.d i hi,h0⟩
   unfold lwH
   rw [h0]
   exact (Vt l f (D i) i).mpr this
 | succ n =>
   cases n with
   | zero =>
     have:=agW l f (D i) i hn (h.e i) fun hi=>⟨h.d i hi,h0⟩
     unfold lwH
     rw [h0]
     exact (Vv l f (D i) i).mpr this
   | succ n =>
     have h2:mJ (f i) (l.getD i default)=2:=by omega
     have:=aeR l f (D i) i hn (h.e i) fun hi=>⟨h.d i hi,h2⟩
     unfold lwH
     rw [h2]
     exact (TL l f (D i) i).mpr this
theorem aiz (p:Part) (l:List cu) (f:Nat->Part) (D:Nat->Rd) (h:U6 l f D) (h0:f 0=p) (hi:eG p) (hk:Q.Bj p):(aZ true).Sat (aB Tryz.prog 4 [.agg (aX true p),R.uh true l] []):=by
 refine aP (ht:=ldH p l f (f l.length) (F9 (f l.length)) (KT (f l.length))) Tryz.mixed rfl ?_
 rw [Yg p l f (F9 (f l.length)) (KT (f l.length))]
 unfold ahe
 have lp:=ZM l f D h 0
 subst h0
 have hq:eG (F9 (f l.length)):=by
  unfold F9
  split
  · exact ⟨by show (0:Nat)<=_;omega,by show (0:Nat)<=_;omega,by show (0:Nat)<=_;omega,fun k hk=>by cases hk⟩
  · exact ⟨by decide,by decide,by decide,fun k hk=>by cases hk⟩
 have hs:=R.DY (F9 (f l.length))
 generalize F9 (f l.length)=q at *
 generalize KT (f l.length)=e at *
 simp [lp,hi,hk,hq,hs]
end N
namespace J
structure PtT (p:Part):Prop where
 epoch:mY p.epoch
 frozen:mY p.frozen
 recs:∀ x∈p.recs,Ru x/\Bytes x.val
 prods:∀ x∈p.prods,tT x
 cons:∀ x∈p.cons,mY x.off
theorem Qf {p:Part} (h:PtT p) (ho:aH p=true):FZ p:=by
 obtain ⟨k1,k2,k3,k4,k5,_⟩:=R.RX ho
 obtain ⟨l1,l2,l3⟩:=R.KY ho
 have hr:=D.aaq k3
 have hc:=R.CG k5
 refine ⟨?_,h.epoch,h.frozen,⟨by omega,by omega,fun x hx=>⟨(h.recs x hx).1,(hr x hx).1,(hr x hx).2,(h.recs x hx).2⟩⟩,⟨by omega,by omega,h.prods⟩,⟨by omega,by omega,fun x hx=>⟨?_,h.cons x hx⟩⟩⟩
 · unfold fK at k1
   by_cases hb:32<p.rng.lo.size∨32<p.rng.hi.size
   · rw [if_pos hb] at k1
     exact absurd k1 (by decide)
   · exact ⟨by omega,by omega⟩
 · have:=hc x hx
   unfold b_ at this
   simp at this
   omega
end J
end Go.Proofs.YtnbhdjadlbhknaaGreatDoor
