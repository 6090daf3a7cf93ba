import Derived.Test.YtnbhdjadlbhknaaGreatDoorE12
import Derived.Test.YtnbhdjadlbhknaaGreatDoorW1
import Derived.Test.YtnbhdjadlbhknaaGreatDoorW3
import Derived.Test.YtnbhdjadlbhknaaGreatDoorW4
import Derived.Test.YtnbhdjadlbhknaaGreatDoorW5
import Derived.Test.YtnbhdjadlbhknaaGreatDoorW7
set_option linter.unusedVariables false
set_option linter.unusedSimpArgs false
set_option maxRecDepth 1000000
namespace Go.Proofs.YtnbhdjadlbhknaaGreatDoor
open Go.Ax
namespace J
theorem MG:∀ (bs:List Int) (i:Nat) (v:Int),(∀ x∈bs,0<=x/\x<256)->i<=9->0<=v->v<2 ^ (7*i)->0<=(Ch bs i v).2.1/\(Ch bs i v).2.1<18446744073709551616/\(Ch bs i v).2.2<=i+bs.length
 | [],i,v,_,_,_,_=>by simp [Ch]
 | c::r,i,v,hb,hi,h0,h1=>by
   obtain ⟨c0,c1⟩:=hb c (by simp)
   unfold Ch
   by_cases hA:i=9/\c≠1
   · rw [if_pos hA];simp
   · rw [if_neg hA]
     obtain ⟨n0,n1⟩:=Vy (c:=c) h0 h1
     have h9:i=9->c=1:=fun h=>by
      by_cases hc:c=1
      · exact hc
      · exact absurd ⟨h,hc⟩ hA
     by_cases h2:128<=c
     · rw [if_pos h2]
       have hi8:i+1<=9:=by
        by_cases h:i=9
        · have:=h9 h;omega
        · omega
       have:=MG r (i+1) (v+(c % 128)*2 ^ (7*i)) (fun x hx=>hb x (by simp [hx])) hi8 n0 n1
       refine ⟨this.1,this.2.1,?_⟩
       simp only [List.length_cons]
       omega
     · rw [if_neg h2]
       by_cases h3:c=0/\0<i
       · rw [if_pos h3];simp
       · rw [if_neg h3]
         obtain ⟨m0,m1⟩:=ae9 (d:=c % 128) hi (by omega) (by omega) (fun h=>by have:=h9 h;omega)
         have hp:=(Xn hi).1
         refine ⟨n0,?_,by simp only [List.length_cons];omega⟩
         by_cases hi9:i=9
         · have:=h9 hi9
           subst this
           subst hi9
           have e:((1:Int) % 128)*2 ^ (7*9)=9223372036854775808:=by decide
           have e2:(2:Int) ^ (7*9)=9223372036854775808:=by decide
           rw [e2] at h1
           show v+1 % 128*2 ^ (7*9)<_
           rw [e]
           omega
         · have hp9:(2:Int) ^ (7*(i+1))<=9223372036854775808:=(Xn (by omega)).1
           show v+c % 128*2 ^ (7*i)<_
           omega
theorem Rj {l:List Int} {s:RS} (h:fq l s):0<=(qY l s).2.1/\(qY l s).2.1<18446744073709551616/\s.at_+(qY l s).2.2<=l.length:=by
 have:=MG (l.drop s.at_) 0 0 (fun x hx=>h.b.b x (List.mem_of_mem_drop hx)) (by decide) (by decide) (by decide)
 have hat:=h.at_
 rw [List.length_drop] at this
 refine ⟨this.1,this.2.1,?_⟩
 unfold qY
 omega
theorem p9 {l:List Int} {s:RS} (h:fq l s) {e:Int} (he:e≠0) {p:Nat} (hp:p<=l.length):fq l (kC s e p):=by
 unfold kC
 split
 · exact h
 · exact ⟨h.n,hp,h.b,fun h=>absurd h he⟩
theorem mO:mW 0:=⟨by decide,by decide⟩
theorem dG {l:List Int} {s:RS} (h:fq l s):fq l (aR l s).2/\mW (aR l s).1:=by
 obtain ⟨b0,b1,b2⟩:=Rj h
 unfold aR
 split
 · exact ⟨h,mO⟩
 · split
   · exact ⟨⟨h.n,b2,h.b,h.bad⟩,b0,b1⟩
   · rename_i hz
     exact ⟨p9 h hz h.at_,mO⟩
theorem DX {l:List Int} {s:RS} (h:fq l s) {v:Int} {s':RS} (e:(v,s')=aR l s):fq l s'/\mW v:=by
 have:=dG h
 rw [<- e] at this
 exact this
def dh (l:List Int) (s:RS) (most:Int):List Int×RS:=if (aK l s most).2.e != 0 then ([],(aK l s most).2) else ((l.drop (aK l s most).2.at_).take (aK l s most).1.toNat,⟨(aK l s most).2.at_+(aK l s most).1.toNat,(aK l s most).2.e,(aK l s most).2.bad⟩)
def kS (l:List Int) (s:RS):Int:=if s.e=0/\s.at_<l.length then 15 else s.e
theorem mo {s:RS} {e:Int} {p:Nat} (he:e≠0):(kC s e p).e≠0:=by
 unfold kC
 split
 · rename_i h;simpa using h
 · exact he
theorem fK {l:List Int} {s:RS} {most:Int} (h:fq l s):fq l (aK l s most).2/\mW (aK l s most).1/\((aK l s most).2.e=0->((aK l s most).2.at_:Int)+(aK l s most).1<=l.length):=by
 obtain ⟨h1,h2⟩:=dG h
 have hat:=h.at_
 unfold aK
 split
 · rename_i he
   refine ⟨h1,mO,fun hz=>?_⟩
   have hz:(aR l s).2.e=0:=hz
   simp [hz] at he
 · split
   · refine ⟨p9 h1 (by decide) hat,mO,fun hz=>?_⟩
     exfalso
     exact absurd hz (mo (by decide))
   · split
     · refine ⟨p9 h1 (by decide) hat,mO,fun hz=>?_⟩
       exfalso
       exact absurd hz (mo (by decide))
     · exact ⟨h1,h2,fun _=>by omega⟩
theorem lZ {l:List Int} {s:RS} {most:Int} (h:fq l s):fq l (dh l s most).2:=by
 obtain ⟨h1,h2,h3⟩:=fK (most:=most) h
 unfold dh
 split
 · exact h1
 · rename_i he
   have he:(aK l s most).2.e=0:=by simpa using he
   have:=h3 he
   have:=h2.lo
   exact ⟨h1.n,by show (aK l s most).2.at_+(aK l s most).1.toNat<=l.length;omega,h1.b,h1.bad⟩
def strOf (t:List Int):ByteArray:=GI t.length (ah aJ t)
def xI (l:List Int) (s:RS) (most:Int):ByteArray×RS:=(strOf (dh l s most).1,(dh l s most).2)
def pQ (l:List Int) (s:RS):kF×RS :=
 let a:=xI l s 32;let b:=xI l a.2 32
 if b.2.e != 0 then (default,b.2) else (⟨a.1,b.1⟩,b.2)
def fF (l:List Int) (s:RS):Rec×RS :=
 let a:=aR l s;let b:=xI l a.2 32;let c:=dh l b.2 256;let d:=aR l c.2;let e:=aR l d.2
 if e.2.e != 0 then (default,e.2) else (⟨a.1,b.1,c.1,d.1,e.1⟩,e.2)
theorem Lg:yI 32:=⟨by decide,by decide⟩
theorem Ml:yI 256:=⟨by decide,by decide⟩
theorem AP {l:List Int} {s:RS} {most:Int} (h:fq l s) {v:ByteArray} {s':RS} (e:(v,s')=xI l s most):fq l s':=by
 rw [show s'=(dh l s most).2 from congrArg Prod.snd e]
 exact lZ h
theorem Kj {l:List Int} {s:RS} {most:Int} (h:fq l s) {v:List Int} {s':RS} (e:(v,s')=dh l s most):fq l s':=by
 rw [show s'=(dh l s most).2 from congrArg Prod.snd e]
 exact lZ h
theorem acA {l:List Int} {s:RS} (h:fq l s):fq l (pQ l s).2:=by
 have h1:fq l (xI l (xI l s 32).2 32).2:=AP (AP h rfl) rfl
 unfold pQ
 simp only
 split<;>exact h1
theorem t_ {l:List Int} {s:RS} (h:fq l s):fq l (fF l s).2:=by
 have h1:fq l (aR l (aR l (dh l (xI l (aR l s).2 32).2 256).2).2).2:=(dG (dG (lZ (AP (dG h).1 rfl))).1).1
 unfold fF
 simp only
 split<;>exact h1
def qm (l:List Int):Nat->RS->List Rec->List Rec×RS
 | 0,s,a=>(a,s)
 | n+1,s,a=>if s.e != 0 then ([],s) else qm l n (fF l s).2 (a++[(fF l s).1])
def yD (l:List Int) (s:RS) (most:Int):List Rec×RS:=qm l (aK l s most).1.toNat (aK l s most).2 []
theorem aa7 {s t:RS} (h1:s.at_=t.at_) (h2:s.e=t.e) (h3:s.bad=t.bad):s=t:=by
 cases s;cases t;simp_all
theorem agB (l:List Rec):∀ k,k<l.length->∀ j,j<5->fC (ah encR l k j)=true:=by
 intro k hk j hj
 have:j=0∨j=1∨j=2∨j=3∨j=4:=by omega
 rcases this with rfl | rfl | rfl | rfl | rfl<;>rfl
theorem aeW {l:List Int} (hl:LOk l) (hb:Bytes l):fq l default:=⟨hl.n,Nat.zero_le _,hb,fun _=>rfl⟩
structure yN (l:List Int):Prop where
 n:LOk l
 b:Bytes l
def dem:AV->AV
 | .ys _ sz n c=>.ys false sz n c
 | a=>a
theorem Nb {H:HH} (hH:(H true).le (H false)) {a:AV} {E:Env} {v:Value} (h:Rel a H E v):Rel (dem a) H E v:=by
 cases a with
 | ys b sz n c =>
   cases b with
   | false=>exact h
   | true =>
     obtain ⟨ad,cap,hu,hn,hk⟩:=h
     refine ⟨ad,cap,hu,hn,fun h0=>?_⟩
     obtain ⟨a',ha,hk⟩:=hk h0
     refine ⟨a',ha,fun k hkn j hj=>?_⟩
     obtain ⟨x,hx,h1,h2⟩:=hk k hkn j hj
     refine ⟨x,IH.oW hH hx,h1,Rel.mono (c k j) (fun b=>?_) h2⟩
     cases b with
     | false=>exact hH
     | true=>exact IH.le_refl _
 | _=>exact h
theorem Gn {H:HH} (hH:(H true).le (H false)) {E:Env}:∀ {l:List AV} {vs:List Value},aA l H E vs->aA (l.map dem) H E vs
 | [],_,h=>h
 | _::_,_,h=>by
   obtain ⟨v,r,hv,h1,h2⟩:=h
   exact ⟨v,r,hv,Nb hH h1,Gn hH h2⟩
theorem Dx {P:Program} {f:FuncId} {args:List AV} {M M':List ay} {r r':AV} {mv:List Nat} (hr:∀ (H:HH) (E:Env) (v:Value),(H true).le (H false)->Rel r H E v->Rel r' H E v) (h:dB P f args M r M' mv):dB P f args M r' M' mv:=by
 intro H E w vals hC hargs
 refine (h H E w vals hC hargs).mono ?_
 rintro e w' ⟨v,H',E',he,hv,hc,hev⟩
 exact ⟨v,H',E',he,hr _ _ _ hc.tf.1 hv,hc,hev⟩
def gF (l:List Int) (s:RS):P.Producer×RS :=
 let a:=aR l s;let b:=aR l a.2;let c:=gZ l b.2;let d:=aR l c.2
 (⟨a.1,b.1,c.1,d.1⟩,d.2)
def jE (l:List Int) (s:RS):Con×RS :=
 let a:=xI l s 32;let b:=aR l a.2
 (⟨a.1,b.1⟩,b.2)
def eU {α:Type} (f:RS->α×RS):Nat->RS->List α->List α×RS
 | 0,s,a=>(a,s)
 | n+1,s,a=>eU f n (f s).2 (a++[(f s).1])
def nO (l:List Int) (s:RS):List P.Producer×RS:=eU (gF l) (aK l s 256).1.toNat (aK l s 256).2 []
def GH (l:List Int) (s:RS):List Con×RS:=eU (jE l) (aK l s 64).1.toNat (aK l s 64).2 []
structure Oe where
 rng:kF
 epoch:Int
 frozen:Int
 recs:List Rec
structure PQ (l:List Int) (t:List P.Producer) (s':RS) where
 n:Nat
 s:RS
 a:List P.Producer
 e:eU (gF l) n s a=(t,s')
 h:fq l s
 m:a.length+n<=100000
structure CQ (l:List Int) (t:List Con) (s':RS) where
 n:Nat
 s:RS
 a:List Con
 e:eU (jE l) n s a=(t,s')
 h:fq l s
 m:a.length+n<=100000
def Kz (l:List Int):Oe×RS :=
 let g:=pQ l default;let e:=aR l g.2;let f:=aR l e.2;let r:=yD l f.2 4096
 (⟨g.1,e.1,f.1,r.1⟩,r.2)
def wG (l:List Int):Part×RS :=
 let h:=Kz l;let p:=nO l h.2;let c:=GH l p.2
 (⟨h.1.rng,h.1.epoch,h.1.frozen,h.1.recs,p.1,c.1⟩,c.2)
def nE (l:List Int):Part×Int:=if kS l (wG l).2=0/\aH (wG l).1=true then ((wG l).1,0) else (default,165)
def KH (p:Part):List AV:=[.y (.string p.rng.lo),.y (.string p.rng.hi),.y (.int .u64 p.epoch),.y (.int .u64 p.frozen),dK false p.recs,P.bg true p.prods,dD true p.cons]
def rpR (p:Part) (e:Int):T An:=.ret (.tup [.agg (KH p),.y (.int .i64 e)],[],[])
structure RpP (l:List Int) where
 g:kF
 s1:RS
 ep:Int
 s2:RS
 fr:Int
 s3:RS
 rc:List Rec
 s4:RS
 n1:Int
 s5:RS
 t6:List P.Producer
 s6:RS
 n2:Int
 s7:RS
 t8:List Con
 s8:RS
 q:PQ l t6 s6
 r:CQ l t8 s8
abbrev RpP.hd {l:List Int} (x:RpP l):Oe:=⟨x.g,x.ep,x.fr,x.rc⟩
abbrev RpP.p {l:List Int} (x:RpP l):Part:=⟨x.g,x.ep,x.fr,x.rc,x.t6,x.t8⟩
theorem q9 {l:List Int} {s:RS} (h:fq l s):fq l (gZ l s).2:=by
 unfold gZ
 split
 · exact h
 · split
   · exact p9 h (by decide) h.at_
   · split
     · exact p9 h (by decide) h.at_
     · have:=h.at_
       exact ⟨h.n,by show s.at_+1<=l.length;omega,h.b,h.bad⟩
theorem GR (l:List Int):∀ n s a,fq l s->fq l (qm l n s a).2
 | 0,s,a,h=>h
 | n+1,s,a,h=>by
   unfold qm
   split
   · exact h
   · exact GR l n _ _ (t_ h)
theorem I6 {l:List Int} {s:RS} {most:Int} (h:fq l s):fq l (yD l s most).2:=GR l _ _ _ (fK h).1
theorem ade:yI 64:=⟨by decide,by decide⟩
theorem TA:yI 4096:=⟨by decide,by decide⟩
theorem QH {l:List Int} {s:RS} (h:fq l s):fq l (gF l s).2:=(dG (q9 (dG (dG h).1).1)).1
theorem Zz {l:List Int} {s:RS} (h:fq l s):fq l (jE l s).2:=(dG (AP h rfl)).1
theorem MZ {α:Type} {l:List Int} {f:RS->α×RS} (hf:∀ s,fq l s->fq l (f s).2):∀ n s a,fq l s->fq l (eU f n s a).2
 | 0,s,a,h=>h
 | n+1,s,a,h=>by
   unfold eU
   exact MZ hf n _ _ (hf s h)
theorem count_le {l:List Int} {s:RS} {most:Int} (h:fq l s):(aK l s most).1<=max most 0/\0<=(aK l s most).1:=by
 have h2:=(fK (most:=most) h).2.1.lo
 refine ⟨?_,h2⟩
 unfold aK
 split
 · simp;omega
 · split
   · simp;omega
   · split
     · simp;omega
     · rename_i a b c
       have:¬ (most<0∨most<(aR l s).1):=b
       omega
theorem aft (l:List P.Producer):∀ k,k<l.length->∀ j,j<4->fC (ah P.ak l k j)=true:=by
 intro k hk j hj
 have:j=0∨j=1∨j=2∨j=3:=by omega
 rcases this with rfl | rfl | rfl | rfl<;>rfl
theorem agu (l:List Con):∀ k,k<l.length->∀ j,j<2->fC (ah aD l k j)=true:=by
 intro k hk j hj
 have:j=0∨j=1:=by omega
 rcases this with rfl | rfl<;>rfl
def agc (p:Part) (e:Int):T An:=.ret (.tup [.agg (aX false p),.y (.int .i64 e)],[],[])
theorem Y0 {H:HH} (hH:(H true).le (H false)) {p:Part} {e:Int} {E:Env} {v:Value} (h:Rel (.tup [.agg (KH p),.y (.int .i64 e)]) H E v):Rel (.tup [.agg (aX false p),.y (.int .i64 e)]) H E v:=by
 obtain ⟨vs,hu,a,r,hr,h1,h2⟩:=h
 obtain ⟨us,hu2,h3⟩:=h1
 exact ⟨vs,hu,a,r,hr,⟨us,hu2,Gn hH h3⟩,h2⟩
theorem adh {i:Nat} (h:i<=8):(2:Int) ^ (64 - 7*i)=128*2 ^ (64 - 7*(i+1)):=by
 rw [show 64 - 7*i=7+(64 - 7*(i+1)) by omega,Int.pow_add]
 rfl
theorem agW (i:Nat):(2:Int) ^ (7*(i+1))=128*2 ^ (7*i):=by
 rw [show 7*(i+1)=7+7*i by omega,Int.pow_add]
 rfl
theorem ahR (n:Nat):(0:Int)<2 ^ n:=Int.pow_pos (by decide)
theorem aaj (a v p:Int):a+v % 128*p+v / 128*(128*p)=a+v*p:=by
 have h:v=v % 128+128*(v / 128):=by omega
 have e1:v / 128*(128*p)=(128*(v / 128))*p:=by rw [<- Int.mul_assoc,Int.mul_comm (v / 128) 128]
 rw [e1,Int.add_assoc,<- Int.add_mul]
 congr 2
 omega
theorem adP:∀ (f i:Nat) (v acc:Int) (r:List Int),i<=9->0<=v->(0<i->0<v)->v<2 ^ (64 - 7*i)->v<128 ^ (f+1)->Ch (nL f v++r) i acc=(0,acc+v*2 ^ (7*i),i+(nL f v).length):=by
 have last:∀ (f i:Nat) (v acc:Int) (r:List Int),i<=9->0<=v->(0<i->0<v)->v<2 ^ (64 - 7*i)->v<128->Ch (nL f v++r) i acc=(0,acc+v*2 ^ (7*i),i+(nL f v).length):=by
  intro f i v acc r hi h0 hp hb hv
  rw [oJ hv]
  show Ch (v::r) i acc=_
  unfold Ch
  have h9:¬ (i=9/\v≠1):=by
   rintro ⟨rfl,h⟩
   have e:(2:Int) ^ (64 - 7*9)=2:=by decide
   rw [e] at hb
   have:=hp (by decide)
   omega
  have hz:¬ (v=0/\0<i):=by
   rintro ⟨rfl,h⟩
   have:=hp h
   omega
  rw [if_neg h9,if_neg (by omega),if_neg hz]
  have e:v % 128=v:=by omega
  rw [e]
  rfl
 intro f
 induction f with
 | zero=>intro i v acc r hi h0 hp hb hv;exact last 0 i v acc r hi h0 hp hb (by simpa using hv)
 | succ f ih =>
   intro i v acc r hi h0 hp hb hv
   by_cases h:v<128
   · exact last (f+1) i v acc r hi h0 hp hb h
   · have hi8:i<=8:=by
      by_cases h9:i=9
      · subst h9
        have e:(2:Int) ^ (64 - 7*9)=2:=by decide
        rw [e] at hb
        omega
      · omega
     rw [lI (by omega)]
     show Ch ((v % 128+128)::(nL f (v / 128)++r)) i acc=_
     rw [Ch]
     rw [if_neg (by rintro ⟨h9,_⟩;omega),if_pos (by omega)]
     have e:(v % 128+128) % 128=v % 128:=by omega
     rw [e]
     have hb2:v / 128<2 ^ (64 - 7*(i+1)):=by
      rw [adh hi8] at hb
      omega
     have hv2:v / 128<128 ^ (f+1):=by
      have:(128:Int) ^ (f+1+1)=128 ^ (f+1)*128:=Int.pow_succ 128 (f+1)
      rw [this] at hv
      omega
     rw [ih (i+1) (v / 128) (acc+v % 128*2 ^ (7*i)) r (by omega) (by omega) (fun _=>by omega) hb2 hv2]
     rw [agW,aaj]
     simp
     omega
theorem Sz {v:Int} (h:mW v) (r:List Int):Ch (au v++r) 0 0=(0,v,(au v).length):=by
 have:=adP 10 0 v 0 r (by decide) h.lo (fun h=>absurd h (by decide)) (by have:=h.hi;exact this) (by
  have e:(128:Int) ^ (10+1)=151115727451828646838272:=by decide
  have:=h.hi
  omega)
 unfold au
 simpa using this
theorem QE:∀ (bs:List Int) (i:Nat) (acc w:Int) (n:Nat),(∀ x∈bs,0<=x/\x<256)->i<=9->Ch bs i acc=(0,w,n) ->
 ∃ v r,bs=nL (10 - i) v++r/\0<=v/\(0<i->0<v)/\v<2 ^ (64 - 7*i)/\w=acc+v*2 ^ (7*i)/\n=i+(nL (10 - i) v).length
 | [],i,acc,w,n,_,_,h=>by simp [Ch] at h
 | c::bs,i,acc,w,n,hb,hi,h=>by
   obtain ⟨c0,c1⟩:=hb c (by simp)
   rw [Ch] at h
   by_cases hA:i=9/\c≠1
   · rw [if_pos hA] at h
     simp at h
   · rw [if_neg hA] at h
     have h9:i=9->c=1:=fun h=>by
      by_cases hc:c=1
      · exact hc
      · exact absurd ⟨h,hc⟩ hA
     by_cases h2:128<=c
     · rw [if_pos h2] at h
       have hi8:i<=8:=by
        by_cases h:i=9
        · have:=h9 h;omega
        · omega
       obtain ⟨v,r,q1,q2,q3,q4,q5,q6⟩:=QE bs (i+1) _ w n (fun x hx=>hb x (by simp [hx])) (by omega) h
       have hv:=q3 (by omega)
       have e1:(c % 128+128*v) % 128+128=c:=by omega
       have e2:(c % 128+128*v) / 128=v:=by omega
       have e3:10 - i=(10 - (i+1))+1:=by omega
       refine ⟨c % 128+128*v,r,?_,by omega,fun _=>by omega,?_,?_,?_⟩
       · rw [e3,lI (by omega),e1,e2,List.cons_append,<- q1]
       · rw [adh hi8]
         omega
       · rw [q5,agW]
         have e4:v*(128*2 ^ (7*i))=(128*v)*2 ^ (7*i):=by rw [<- Int.mul_assoc,Int.mul_comm v 128]
         rw [e4,Int.add_assoc,<- Int.add_mul]
       · rw [q6,e3,lI (by omega),e2]
         simp
         omega
     · rw [if_neg h2] at h
       by_cases h3:c=0/\0<i
       · rw [if_pos h3] at h
         simp at h
       · rw [if_neg h3] at h
         simp at h
         obtain ⟨q1,q2⟩:=h
         refine ⟨c,bs,?_,c0,fun hh=>?_,?_,?_,?_⟩
         · rw [oJ (by omega)]
           rfl
         · by_cases hc:c=0
           · exact absurd ⟨hc,hh⟩ h3
           · omega
         · by_cases h:i=9
           · have:=h9 h
             subst this
             subst h
             decide
           · rw [adh (by omega)]
             have:=ahR (64 - 7*(i+1))
             omega
         · have e:c % 128=c:=by omega
           rw [e] at q1
           exact q1.symm
         · rw [oJ (by omega),<- q2]
           rfl
theorem afe {bs:List Int} {w:Int} {n:Nat} (hb:∀ x∈bs,0<=x/\x<256) (h:Ch bs 0 0=(0,w,n)):mW w/\n=(au w).length/\∃ r,bs=au w++r:=by
 obtain ⟨v,r,q1,q2,_,q4,q5,q6⟩:=QE bs 0 0 w n hb (by decide) h
 have e:w=v:=by rw [q5];simp
 subst e
 exact ⟨⟨q2,by simpa using q4⟩,by rw [q6];simp [au],r,q1⟩
structure wO {α:Type} (l:List Int) (f:RS->α×RS) (enc:α->List Int) (ok:α->Prop):Prop where
 fwd:∀ s x r,fq l s->s.e=0->ok x->l.drop s.at_=enc x++r->f s=(x,⟨s.at_+(enc x).length,0,s.bad⟩)
 bwd:∀ s,fq l s->(f s).2.e=0->s.e=0/\ok (f s).1/\(f s).2=⟨s.at_+(enc (f s).1).length,0,s.bad⟩/\∃ r,l.drop s.at_=enc (f s).1++r
 rok:∀ s,fq l s->fq l (f s).2
theorem iQ {l a r:List Int} {n:Nat} (h:l.drop n=a++r):l.drop (n+a.length)=r:=by
 rw [<- List.drop_drop,h]
 simp
theorem Me {l a r:List Int} {n:Nat} (h:l.drop n=a++r) (hn:n<=l.length):n+a.length<=l.length:=by
 have:=congrArg List.length h
 rw [List.length_drop,List.length_append] at this
 omega
theorem wO.pair {α β:Type} {l:List Int} {f:RS->α×RS} {g:RS->β×RS} {ea:α->List Int} {eb:β->List Int} {oa:α->Prop} {ob:β->Prop} (hf:wO l f ea oa) (hg:wO l g eb ob) :
 wO l (fun s=>(((f s).1,(g (f s).2).1),(g (f s).2).2)) (fun x=>ea x.1++eb x.2) (fun x=>oa x.1/\ob x.2) where
 fwd:=fun s x r h he ho hd=>by
  obtain ⟨a,b⟩:=x
  simp only [List.append_assoc] at hd
  have h1:=hf.fwd s a _ h he ho.1 hd
  have h2:=hf.rok s h
  rw [h1] at h2
  have h3:=hg.fwd _ b r h2 rfl ho.2 (iQ hd)
  rw [h1]
  simp only
  rw [h3]
  simp [Nat.add_assoc]
 bwd:=fun s h he=>by
  obtain ⟨b1,b2,b3,r,b4⟩:=hg.bwd _ (hf.rok s h) he
  obtain ⟨a1,a2,a3,r1,a4⟩:=hf.bwd s h b1
  refine ⟨a1,⟨a2,b2⟩,?_,r,?_⟩
  · simp only
    rw [b3,a3]
    simp [Nat.add_assoc]
  · simp only
    have h5:=iQ a4
    have h6:(f s).2.at_=s.at_+(ea (f s).1).length:=by rw [a3]
    rw [h6,h5] at b4
    rw [a4,b4]
    simp
 rok:=fun s h=>hg.rok _ (hf.rok s h)
theorem wO.map {α β:Type} {l:List Int} {f:RS->α×RS} {ea:α->List Int} {oa:α->Prop} (hf:wO l f ea oa) (φ:α->β) (ψ:β->α) {eb:β->List Int} {ob:β->Prop} (h1:∀ x,φ (ψ x)=x) (h2:∀ a,oa a->eb (φ a)=ea a/\ob (φ a)) (h3:∀ x,ob x->oa (ψ x)) :
 wO l (fun s=>(φ (f s).1,(f s).2)) eb ob where
 fwd:=fun s x r h he ho hd=>by
  have e:=(h2 _ (h3 x ho)).1
  rw [h1] at e
  rw [e] at hd
  have:=hf.fwd s (ψ x) r h he (h3 x ho) hd
  simp only [this,h1,e]
 bwd:=fun s h he=>by
  obtain ⟨a1,a2,a3,r,a4⟩:=hf.bwd s h he
  obtain ⟨e1,e2⟩:=h2 _ a2
  refine ⟨a1,e2,?_,r,?_⟩
  · simp only [e1];exact a3
  · simp only [e1];exact a4
 rok:=fun s h=>hf.rok s h
theorem wO.whole {α:Type} {l:List Int} {f:RS->α×RS} {enc:α->List Int} {ok:α->Prop} (hf:wO l f enc ok) (d:α):wO l (fun s=>if (f s).2.e != 0 then (d,(f s).2) else f s) enc ok where
 fwd:=fun s x r h he ho hd=>by
  have:=hf.fwd s x r h he ho hd
  simp only [this]
  rfl
 bwd:=fun s h he=>by
  by_cases h0:((f s).2.e != 0)=true
  · rw [if_pos h0] at he
    have he:(f s).2.e=0:=he
    simp [he] at h0
  · rw [if_neg h0] at he ⊢
    exact hf.bwd s h he
 rok:=fun s h=>by
  split
  · exact hf.rok s h
  · exact hf.rok s h
theorem wO.of {α:Type} {l:List Int} {f g:RS->α×RS} {enc:α->List Int} {ok:α->Prop} (hf:wO l f enc ok) (h:∀ s,g s=f s):wO l g enc ok:=by
 rw [show g=f from funext h]
 exact hf
theorem gQ (l:List Int):wO l (aR l) au mW where
 fwd:=fun s x r h he ho hd=>by
  have hu:qY l s=(0,x,(au x).length):=by unfold qY;rw [hd];exact Sz ho r
  have h0:(s.e != 0)=false:=by simp [he]
  unfold aR
  simp [h0,hu,he]
 bwd:=fun s h he=>by
  unfold aR at he ⊢
  by_cases h0:(s.e != 0)=true
  · rw [if_pos h0] at he
    have he:s.e=0:=he
    simp [he] at h0
  · rw [if_neg h0] at he ⊢
    have hs:s.e=0:=by simpa using h0
    by_cases h1:(qY l s).1=0
    · rw [if_pos h1] at he ⊢
      obtain ⟨w,n,e⟩:∃ w n,qY l s=(0,w,n):=⟨(qY l s).2.1,(qY l s).2.2,by rw [<- h1]⟩
      obtain ⟨q1,q2,r,q3⟩:=afe (fun x hx=>h.b.b x (List.mem_of_mem_drop hx)) e
      rw [e]
      exact ⟨hs,q1,by simp [q2,hs],r,q3⟩
    · rw [if_neg h1] at he
      exact absurd he (mo h1)
 rok:=fun s h=>(dG h).1
theorem TF (l:List Int):wO l (gZ l) jg (fun _=>True) where
 fwd:=fun s x r h he ho hd=>by
  have h0:(s.e != 0)=false:=by simp [he]
  have hlt:=Me hd h.at_
  have hl1:(jg x).length=1:=rfl
  have hg:l.getD s.at_ 0=if x then 1 else 0:=by
   have:=congrArg (fun z:List Int=>z.getD 0 0) hd
   simp [jg] at this
   simpa using this
  unfold gZ
  rw [h0]
  simp only [hg]
  rw [if_neg (by decide),if_neg (by omega)]
  cases x<;>simp [jg,he]
 bwd:=fun s h he=>by
  unfold gZ at he ⊢
  by_cases h0:(s.e != 0)=true
  · rw [if_pos h0] at he
    have he:s.e=0:=he
    simp [he] at h0
  · rw [if_neg h0] at he ⊢
    have hs:s.e=0:=by simpa using h0
    by_cases h1:s.at_=l.length
    · rw [if_pos h1] at he
      exact absurd he (mo (by decide))
    · rw [if_neg h1] at he ⊢
      by_cases h2:1<l.getD s.at_ 0
      · rw [if_pos h2] at he
        exact absurd he (mo (by decide))
      · rw [if_neg h2] at he ⊢
        have hat:=h.at_
        have hlt:s.at_<l.length:=by omega
        have hm:l.getD s.at_ 0∈l:=by
         simp only [List.getD,List.getElem?_eq_getElem hlt,Option.getD_some]
         exact List.getElem_mem hlt
        have hb:=h.b.b _ hm
        have hc:l.getD s.at_ 0=0∨l.getD s.at_ 0=1:=by omega
        refine ⟨hs,trivial,?_,l.drop (s.at_+1),?_⟩
        · simp [jg,hs]
        · rw [G9 l s.at_ hlt]
          rcases hc with hc | hc<;>rw [hc]<;>rfl
 rok:=fun s h=>q9 h
theorem zH {l:List Int} {s:RS} {most:Int} (he:(aK l s most).2.e=0):aK l s most=aR l s/\(aR l s).2.e=0/\¬ (most<0∨most<(aR l s).1)/\¬ ((l.length:Int) - (aR l s).2.at_<(aR l s).1):=by
 unfold aK at he ⊢
 by_cases h0:((aR l s).2.e != 0)=true
 · rw [if_pos h0] at he
   have he:(aR l s).2.e=0:=he
   simp [he] at h0
 · rw [if_neg h0] at he ⊢
   have hs:(aR l s).2.e=0:=by simpa using h0
   by_cases h1:most<0∨most<(aR l s).1
   · rw [if_pos h1] at he
     exact absurd he (mo (by decide))
   · rw [if_neg h1] at he ⊢
     by_cases h2:(l.length:Int) - (aR l s).2.at_<(aR l s).1
     · rw [if_pos h2] at he
       exact absurd he (mo (by decide))
     · rw [if_neg h2]
       exact ⟨rfl,hs,h1,h2⟩
theorem Dq {l:List Int} {s:RS} {most:Int} {n:Nat} {r:List Int} (h:fq l s) (he:s.e=0) (hn:(n:Int)<=most) (hl:(n:Int)<18446744073709551616) (hr:n<=r.length) (hd:l.drop s.at_=au (n:Int)++r):aK l s most=((n:Int),⟨s.at_+(au (n:Int)).length,0,s.bad⟩):=by
 have hu:=(gQ l).fwd s (n:Int) r h he ⟨by omega,hl⟩ hd
 have hle:=Me hd h.at_
 have hlen:=congrArg List.length (iQ hd)
 rw [List.length_drop] at hlen
 unfold aK
 rw [hu]
 simp only
 rw [if_neg (by decide),if_neg (by omega),if_neg (by omega)]
structure aby (most:Int) (t:List Int):Prop where
 n:(t.length:Int)<=most
 n2:(t.length:Int)<18446744073709551616
 b:Bytes t
theorem Dp (l:List Int) (most:Int):wO l (fun s=>dh l s most) aQ (aby most) where
 fwd:=fun s t r h he ho hd=>by
  unfold aQ at hd
  rw [List.append_assoc] at hd
  have hc:=Dq (most:=most) (n:=t.length) h he ho.n ho.n2 (by simp) hd
  have hn:=iQ hd
  show dh l s most=_
  unfold dh
  rw [hc]
  simp only [Int.toNat_natCast]
  rw [if_neg (by decide),hn]
  simp [aQ,Nat.add_assoc]
 bwd:=fun s h he=>by
  have he:(dh l s most).2.e=0:=he
  show s.e=0/\aby most (dh l s most).1/\(dh l s most).2=⟨s.at_+(aQ (dh l s most).1).length,0,s.bad⟩/\∃ r,l.drop s.at_=aQ (dh l s most).1++r
  unfold dh at he ⊢
  by_cases h0:((aK l s most).2.e != 0)=true
  · rw [if_pos h0] at he
    have he:(aK l s most).2.e=0:=he
    simp [he] at h0
  · rw [if_neg h0] at he ⊢
    have hc:(aK l s most).2.e=0:=by simpa using h0
    obtain ⟨g1,g2,g3,g4⟩:=zH hc
    obtain ⟨a1,a2,a3,r,a4⟩:=(gQ l).bwd s h g2
    have hrk:=(gQ l).rok s h
    rw [g1]
    obtain ⟨w,s1,hw⟩:∃ w s1,aR l s=(w,s1):=⟨_,_,rfl⟩
    rw [hw] at a2 a3 a4 g2 g3 g4 hrk ⊢
    simp only at a2 a3 a4 g2 g3 g4 hrk ⊢
    obtain ⟨n,rfl⟩:=Int.eq_ofNat_of_zero_le a2.lo
    have hat:=hrk.at_
    have hr:l.drop s1.at_=r:=by rw [a3];exact iQ a4
    have hlen:n<=r.length:=by rw [<- hr,List.length_drop];omega
    have hhi:=a2.hi
    simp only [Int.toNat_natCast]
    have ht:(r.take n).length=n:=by rw [List.length_take];omega
    rw [hr]
    refine ⟨a1,⟨by rw [ht];omega,by rw [ht];omega,⟨fun x hx=>?_⟩⟩,?_,r.drop n,?_⟩
    · have hx:=List.mem_of_mem_take hx
      rw [<- hr] at hx
      exact h.b.b x (List.mem_of_mem_drop hx)
    · unfold aQ
      rw [ht,a3]
      simp only [List.length_append,ht]
      rw [Nat.add_assoc]
    · unfold aQ
      rw [ht,a4,List.append_assoc,List.take_append_drop]
 rok:=fun s h=>lZ h
theorem zZ (t:List Int):(strOf t).data.toList=t.map fun x=>UInt8.ofNat x.toNat:=by
 unfold strOf GI Cv EO
 simp only [List.map_map]
 refine List.ext_getElem (by simp) fun i h1 h2=>?_
 simp at h1
 simp [ah,h1,byteOf,aJ,Go.Ax.get]
 rfl
theorem zO {t:List Int} (h:Bytes t):bD (strOf t)=t:=by
 unfold bD
 rw [zZ,List.map_map]
 refine (List.map_congr_left fun x hx=>?_).trans (List.map_id t)
 obtain ⟨h0,h1⟩:=h.b x hx
 simp [UInt8.toNat_ofNat]
 omega
theorem KM (s:ByteArray):strOf (bD s)=s:=by
 have:(strOf (bD s)).data=s.data:=by
  apply Array.ext'
  rw [zZ]
  unfold bD
  rw [List.map_map]
  refine (List.map_congr_left fun x hx=>?_).trans (List.map_id _)
  simp
 cases s
 simpa [ByteArray.ext_iff] using this
theorem zU (s:ByteArray):Bytes (bD s):=⟨fun x hx=>by
 unfold bD at hx
 obtain ⟨y,_,rfl⟩:=List.mem_map.1 hx
 have:=y.toNat_lt
 omega⟩
theorem yX (l:List Int) (most:Int):wO l (fun s=>xI l s most) (fun s=>aQ (bD s)) (fun s=>(s.size:Int)<=most/\(s.size:Int)<18446744073709551616) :=
 (Dp l most).map strOf bD KM (fun t ht=>⟨by rw [zO ht.b],by rw [<- gV,zO ht.b];exact ⟨ht.n,ht.n2⟩⟩) (fun s hs=>⟨by rw [gV];exact hs.1,by rw [gV];exact hs.2,zU s⟩)
theorem JA {α:Type} {l:List Int} {f:RS->α×RS} {enc:α->List Int} {ok:α->Prop} (hf:wO l f enc ok):∀ (xs:List α) (s:RS) (a:List α) (r:List Int),fq l s->s.e=0->(∀ x∈xs,ok x)->l.drop s.at_=xs.flatMap enc++r->eU f xs.length s a=(a++xs,⟨s.at_+(xs.flatMap enc).length,0,s.bad⟩)
 | [],s,a,r,h,he,ho,hd=>by
   simp [eU]
   exact aa7 rfl he rfl
 | x::xs,s,a,r,h,he,ho,hd=>by
   rw [List.flatMap_cons,List.append_assoc] at hd
   have h1:=hf.fwd s x _ h he (ho x (by simp)) hd
   have h2:=hf.rok s h
   simp only [List.length_cons]
   unfold eU
   rw [h1] at h2 ⊢
   have:=JA hf xs _ (a++[x]) r h2 rfl (fun y hy=>ho y (by simp [hy])) (iQ hd)
   simp only
   rw [this]
   simp [Nat.add_assoc]
theorem Af {α:Type} {l:List Int} {f:RS->α×RS} {enc:α->List Int} {ok:α->Prop} (hf:wO l f enc ok):∀ (n:Nat) (s:RS) (a:List α),fq l s->(eU f n s a).2.e=0->s.e=0/\∃ xs r,xs.length=n/\(∀ x∈xs,ok x)/\(eU f n s a).1=a++xs/\l.drop s.at_=xs.flatMap enc++r/\(eU f n s a).2=⟨s.at_+(xs.flatMap enc).length,0,s.bad⟩
 | 0,s,a,h,he=>by
   have he:s.e=0:=he
   exact ⟨he,[],l.drop s.at_,rfl,fun x hx=>absurd hx (by simp),by simp [eU],by simp,by simp [eU];exact aa7 rfl he rfl⟩
 | n+1,s,a,h,he=>by
   unfold eU at he ⊢
   obtain ⟨b1,xs,r,b2,b3,b4,b5,b6⟩:=Af hf n _ _ (hf.rok s h) he
   obtain ⟨a1,a2,a3,r1,a4⟩:=hf.bwd s h b1
   refine ⟨a1,(f s).1::xs,r,by simp [b2],fun x hx=>?_,?_,?_,?_⟩
   · rcases List.mem_cons.1 hx with rfl | hx
     · exact a2
     · exact b3 x hx
   · rw [b4];simp
   · have h5:=iQ a4
     have h6:(f s).2.at_=s.at_+(enc (f s).1).length:=by rw [a3]
     rw [h6,h5] at b5
     rw [a4,b5]
     simp
   · rw [b6,a3]
     simp [Nat.add_assoc]
theorem IL {α:Type} {enc:α->List Int} {ok:α->Prop} (hp:∀ x,ok x->1<=(enc x).length):∀ xs:List α,(∀ x∈xs,ok x)->xs.length<=(xs.flatMap enc).length
 | [],_=>by simp
 | a::xs,h=>by
   have h1:=hp a (h a (by simp))
   have h2:=IL hp xs fun x hx=>h x (by simp [hx])
   simp only [List.flatMap_cons,List.length_append,List.length_cons]
   omega
structure vK {α:Type} (most:Int) (ok:α->Prop) (xs:List α):Prop where
 n:(xs.length:Int)<=most
 n2:(xs.length:Int)<18446744073709551616
 ok:∀ x∈xs,ok x
theorem BX {α:Type} {l:List Int} {f:RS->α×RS} {enc:α->List Int} {ok:α->Prop} (hf:wO l f enc ok) (hp:∀ x,ok x->1<=(enc x).length) (most:Int) :
 wO l (fun s=>eU f (aK l s most).1.toNat (aK l s most).2 []) (fun xs=>au (xs.length:Int)++xs.flatMap enc) (vK most ok) where
 fwd:=fun s xs r h he ho hd=>by
  rw [List.append_assoc] at hd
  have hc:=Dq (most:=most) (n:=xs.length) h he ho.n ho.n2 (by have:=IL hp xs ho.ok;rw [List.length_append];omega) hd
  have hrk:=(fK (most:=most) h).1
  show eU f (aK l s most).1.toNat (aK l s most).2 []=_
  rw [hc] at hrk ⊢
  simp only [Int.toNat_natCast]
  have:=JA hf xs _ [] r hrk rfl ho.ok (iQ hd)
  rw [this]
  simp [Nat.add_assoc]
 bwd:=fun s h he=>by
  have he:(eU f (aK l s most).1.toNat (aK l s most).2 []).2.e=0:=he
  obtain ⟨b1,xs,r,b2,b3,b4,b5,b6⟩:=Af hf _ _ _ (fK (most:=most) h).1 he
  obtain ⟨g1,g2,g3,g4⟩:=zH b1
  obtain ⟨a1,a2,a3,r1,a4⟩:=(gQ l).bwd s h g2
  show s.e=0/\vK most ok (eU f (aK l s most).1.toNat (aK l s most).2 []).1/\(eU f (aK l s most).1.toNat (aK l s most).2 []).2=⟨s.at_+(au ((eU f (aK l s most).1.toNat (aK l s most).2 []).1.length:Int)++(eU f (aK l s most).1.toNat (aK l s most).2 []).1.flatMap enc).length,0,s.bad⟩/\∃ r,l.drop s.at_=(au ((eU f (aK l s most).1.toNat (aK l s most).2 []).1.length:Int)++(eU f (aK l s most).1.toNat (aK l s most).2 []).1.flatMap enc)++r
  rw [b4,b6]
  rw [g1] at b2 b5 ⊢
  have e:(xs.length:Int)=(aR l s).1:=by have:=a2.lo;omega
  simp only [List.nil_append]
  rw [e]
  refine ⟨a1,⟨by omega,by have:=a2.hi;omega,b3⟩,?_,r,?_⟩
  · rw [a3];simp [Nat.add_assoc]
  · have h5:=iQ a4
    have h6:(aR l s).2.at_=s.at_+(au (aR l s).1).length:=by rw [a3]
    rw [h6,h5] at b5
    rw [a4,b5]
    simp
 rok:=fun s h=>MZ (fun s h=>hf.rok s h) _ _ _ (fK h).1
structure xS (x:Rec):Prop where
 u:Ux x
 k:x.key.size<=32
 v:x.val.length<=256
 b:Bytes x.val
theorem Fg (l:List Int):wO l (fF l) jk xS:=by
 have h:=((gQ l).pair ((yX l 32).pair ((Dp l 256).pair ((gQ l).pair (gQ l))))).map (β:=Rec) (fun a=>⟨a.1,a.2.1,a.2.2.1,a.2.2.2.1,a.2.2.2.2⟩) (fun x=>(x.off,x.key,x.val,x.prod,x.seq)) (eb:=jk) (ob:=xS) (fun x=>rfl)
  (fun a ha=>by
    obtain ⟨h1,h2,h3,h4,h5⟩:=ha
    refine ⟨by simp [jk],⟨h1,h4,h5⟩,?_,?_,h3.b⟩
    · have:=h2.1;show a.2.1.size<=32;omega
    · have:=h3.n;show a.2.2.1.length<=256;omega)
  (fun x hx=>⟨hx.u.off,⟨by have:=hx.k;show (x.key.size:Int)<=32;omega,by have:=hx.k;show (x.key.size:Int)<_;omega⟩,⟨by have:=hx.v;show (x.val.length:Int)<=256;omega,by have:=hx.v;show (x.val.length:Int)<_;omega,hx.b⟩,hx.u.prod,hx.u.seq⟩)
 exact (h.whole default).of fun s=>rfl
structure Vn (r:kF):Prop where
 lo:r.lo.size<=32
 hi:r.hi.size<=32
theorem Xh (l:List Int):wO l (pQ l) fU Vn:=by
 have h:=((yX l 32).pair (yX l 32)).map (β:=kF) (fun a=>⟨a.1,a.2⟩) (fun x=>(x.lo,x.hi)) (eb:=fU) (ob:=Vn) (fun x=>rfl)
  (fun a ha=>⟨rfl,by have:=ha.1.1;show a.1.size<=32;omega,by have:=ha.2.1;show a.2.size<=32;omega⟩)
  (fun x hx=>⟨⟨by have:=hx.lo;show (x.lo.size:Int)<=32;omega,by have:=hx.lo;show (x.lo.size:Int)<_;omega⟩,⟨by have:=hx.hi;show (x.hi.size:Int)<=32;omega,by have:=hx.hi;show (x.hi.size:Int)<_;omega⟩⟩)
 exact (h.whole default).of fun s=>rfl
theorem U8 (l:List Int):wO l (gF l) jG sW:=by
 have h:=((gQ l).pair ((gQ l).pair ((TF l).pair (gQ l)))).map (β:=P.Producer) (fun a=>⟨a.1,a.2.1,a.2.2.1,a.2.2.2⟩) (fun x=>(x.id,x.seq,x.here,x.offset)) (eb:=jG) (ob:=sW) (fun x=>rfl)
  (fun a ha=>⟨by simp [jG],ha.1,ha.2.1,ha.2.2.2⟩) (fun x hx=>⟨hx.id,hx.seq,trivial,hx.offset⟩)
 exact h.of fun s=>rfl
structure M7 (x:Con):Prop where
 n:x.name.size<=32
 o:mW x.off
theorem Yb (l:List Int):wO l (jE l) pU M7:=by
 have h:=((yX l 32).pair (gQ l)).map (β:=Con) (fun a=>⟨a.1,a.2⟩) (fun x=>(x.name,x.off)) (eb:=pU) (ob:=M7) (fun x=>rfl)
  (fun a ha=>⟨rfl,by have:=ha.1.1;show a.1.size<=32;omega,ha.2⟩)
  (fun x hx=>⟨⟨by have:=hx.n;show (x.name.size:Int)<=32;omega,by have:=hx.n;show (x.name.size:Int)<_;omega⟩,hx.o⟩)
 exact h.of fun s=>rfl
theorem uo (l:List Int):∀ n s a,(qm l n s a).2.e=0∨(eU (fF l) n s a).2.e=0->fq l s->qm l n s a=eU (fF l) n s a
 | 0,s,a,_,_=>rfl
 | n+1,s,a,h,hs=>by
   unfold qm eU at *
   by_cases h0:(s.e != 0)=true
   · exfalso
     have hne:s.e≠0:=by simpa using h0
     rw [if_pos h0] at h
     rcases h with h | h
     · exact hne h
     · obtain ⟨b1,_⟩:=Af (Fg l) n _ _ (t_ hs) h
       exact hne ((Fg l).bwd s hs b1).1
   · rw [if_neg h0] at h ⊢
     exact uo l n _ _ h (t_ hs)
theorem VJ (l:List Int) (most:Int):wO l (fun s=>yD l s most) Ie (vK most xS):=by
 have h:=BX (Fg l) (fun x _=>Uf x) most
 refine ⟨fun s x r hs he ho hd=>?_,fun s hs he=>?_,fun s hs=>I6 hs⟩
 · have h1:=h.fwd s x r hs he ho hd
   have h2:=uo l _ _ [] (.inr (by rw [h1])) (fK (most:=most) hs).1
   exact h2.trans h1
 · have h2:yD l s most=_:=uo l _ _ [] (.inl he) (fK (most:=most) hs).1
   have h3:=h.bwd s hs (by have:=he;rw [h2] at this;exact this)
   rw [h2]
   exact h3
end J
namespace R
def byL (l:List Int):List UInt8:=(List.range l.length).map fun k=>UInt8.ofNat (l.getD k 0).toNat
def ZL (x y:Rec):Bool:=x.off==y.off&&(x.key.data.toList==y.key.data.toList&&(byL x.val==byL y.val&&(x.prod==y.prod&&x.seq==y.seq)))
def gI (a b:List Rec) (k:Nat):Bool:=(List.range' k (a.length - k)).all fun j=>ZL (a.getD j default) (b.getD j default)
def YM (b1 b2:Bool) (a b:List Rec) (k:Nat):List AV:=mkT 82 [(0,dK b1 a),(1,dK b2 b),(4,.s (.bool false)),(5,.y (.int .i64 k))]
def XW (r:Bool):Exit×List AV×List ay:=match r with
 | true=>(.exit 0,mkT 82 [],[])
 | false=>(.ret,mkT 82 [(4,.s (.bool false))],[])
def WA (a b:List Rec) (k:Nat):T Bool:=.ite (gI a b k) (.ret true) (.ret false)
def abT (b1:Bool) (b2:Bool) (a:List Rec) (b:List Rec) (k:Nat):Prop :=
 (decide ((↑k:Int)<(↑(List.length a):Int))=true->(true&&decide ((↑k:Int)<(↑(List.length a):Int)))=true/\(true&&decide ((↑k:Int)<(↑(List.length b):Int)))=true/\(((List.getD a (Int.toNat (↑k:Int)) (@default Rec instInhabitedRec)).off != (List.getD b (Int.toNat (↑k:Int)) (@default Rec instInhabitedRec)).off)=true->(gI a b k=true->False)/\(gI a b k=false->(false=false/\True)/\True/\true=true))/\(((List.getD a (Int.toNat (↑k:Int)) (@default Rec instInhabitedRec)).off != (List.getD b (Int.toNat (↑k:Int)) (@default Rec instInhabitedRec)).off)=false->(true&&decide ((↑k:Int)<(↑(List.length a):Int)))=true/\(true&&decide ((↑k:Int)<(↑(List.length b):Int)))=true/\((!(List.getD a (Int.toNat (↑k:Int)) (@default Rec instInhabitedRec)).key.data.toList==(List.getD b (Int.toNat (↑k:Int)) (@default Rec instInhabitedRec)).key.data.toList)=true->(gI a b k=true->False)/\(gI a b k=false->(false=false/\True)/\True/\true=true))/\((!(List.getD a (Int.toNat (↑k:Int)) (@default Rec instInhabitedRec)).key.data.toList==(List.getD b (Int.toNat (↑k:Int)) (@default Rec instInhabitedRec)).key.data.toList)=false->(true&&decide ((↑k:Int)<(↑(List.length a):Int)))=true/\(∀ (k_1:Nat),k_1<List.length (List.getD a (Int.toNat (↑k:Int)) (@default Rec instInhabitedRec)).val->true=true)/\(true&&decide ((↑k:Int)<(↑(List.length b):Int)))=true/\(∀ (k_1:Nat),k_1<List.length (List.getD b (Int.toNat (↑k:Int)) (@default Rec instInhabitedRec)).val->true=true)/\((!List.map (fun (a:AV)=>match match a with | AV.s (Value.int IntKind.u8 n)=>some n | AV.y (Value.int IntKind.u8 n)=>some n | x=>none with | some n=>UInt8.ofNat (Int.toNat n) | none=>(0:UInt8)) (List.map (fun (k_1:Nat)=>AV.y (Value.int IntKind.u8 (List.getD (List.getD a (Int.toNat (↑k:Int)) (@default Rec instInhabitedRec)).val k_1 (0:Int)))) (List.range (List.length (List.getD a (Int.toNat (↑k:Int)) (@default Rec instInhabitedRec)).val)))==List.map (fun (a:AV)=>match match a with | AV.s (Value.int IntKind.u8 n)=>some n | AV.y (Value.int IntKind.u8 n)=>some n | x=>none with | some n=>UInt8.ofNat (Int.toNat n) | none=>(0:UInt8)) (List.map (fun (k_1:Nat)=>AV.y (Value.int IntKind.u8 (List.getD (List.getD b (Int.toNat (↑k:Int)) (@default Rec instInhabitedRec)).val k_1 (0:Int)))) (List.range (List.length (List.getD b (Int.toNat (↑k:Int)) (@default Rec instInhabitedRec)).val))))=true->(gI a b k=true->False)/\(gI a b k=false->(false=false/\True)/\True/\true=true))/\((!List.map (fun (a:AV)=>match match a with | AV.s (Value.int IntKind.u8 n)=>some n | AV.y (Value.int IntKind.u8 n)=>some n | x=>none with | some n=>UInt8.ofNat (Int.toNat n) | none=>(0:UInt8)) (List.map (fun (k_1:Nat)=>AV.y (Value.int IntKind.u8 (List.getD (List.getD a (Int.toNat (↑k:Int)) (@default Rec instInhabitedRec)).val k_1 (0:Int)))) (List.range (List.length (List.getD a (Int.toNat (↑k:Int)) (@default Rec instInhabitedRec)).val)))==List.map (fun (a:AV)=>match match a with | AV.s (Value.int IntKind.u8 n)=>some n | AV.y (Value.int IntKind.u8 n)=>some n | x=>none with | some n=>UInt8.ofNat (Int.toNat n) | none=>(0:UInt8)) (List.map (fun (k_1:Nat)=>AV.y (Value.int IntKind.u8 (List.getD (List.getD b (Int.toNat (↑k:Int)) (@default Rec instInhabitedRec)).val k_1 (0:Int)))) (List.range (List.length (List.getD b (Int.toNat (↑k:Int)) (@default Rec instInhabitedRec)).val))))=false->(true&&decide ((↑k:Int)<(↑(List.length a):Int)))=true/\(true&&decide ((↑k:Int)<(↑(List.length b):Int)))=true/\(((List.getD a (Int.toNat (↑k:Int)) (@default Rec instInhabitedRec)).prod != (List.getD b (Int.toNat (↑k:Int)) (@default Rec instInhabitedRec)).prod)=true->(gI a b k=true->False)/\(gI a b k=false->(false=false/\True)/\True/\true=true))/\(((List.getD a (Int.toNat (↑k:Int)) (@default Rec instInhabitedRec)).prod != (List.getD b (Int.toNat (↑k:Int)) (@default Rec instInhabitedRec)).prod)=false->(true&&decide ((↑k:Int)<(↑(List.length a):Int)))=true/\(true&&decide ((↑k:Int)<(↑(List.length b):Int)))=true/\(((List.getD a (Int.toNat (↑k:Int)) (@default Rec instInhabitedRec)).seq != (List.getD b (Int.toNat (↑k:Int)) (@default Rec instInhabitedRec)).seq)=true->(gI a b k=true->False)/\(gI a b k=false->(false=false/\True)/\True/\true=true))/\(((List.getD a (Int.toNat (↑k:Int)) (@default Rec instInhabitedRec)).seq != (List.getD b (Int.toNat (↑k:Int)) (@default Rec instInhabitedRec)).seq)=false->∃ (j:Nat),List.length a - j<List.length a - k/\(((b1=b1/\List.length a=List.length a/\aj (List.length a) (5:Nat) (ah encR a) (ah encR a))/\(b2=b2/\List.length b=List.length b/\aj (List.length b) (5:Nat) (ah encR b) (ah encR b))/\false=false/\IntKind.wrap IntKind.i64 ((↑k:Int)+(1:Int))=(↑j:Int)/\True)/\True/\true=true)/\true=true/\(gI a b j=true->(gI a b k=true->true=true)/\(gI a b k=false->true=false))/\(gI a b j=false->(gI a b k=true->false=true)/\(gI a b k=false->false=false))))))))/\(decide ((↑k:Int)<(↑(List.length a):Int))=false->(gI a b k=true->True/\True/\true=true)/\(gI a b k=false->False))
theorem Un (b1:Bool) (b2:Bool) (a:List Rec) (b:List Rec) (k:Nat):(bR Tryz.prog (hT _) 73 4 (fun k=>a.length - k) (YM b1 b2 a b) (fun _=>[]) [0,1] (WA a b) XW k)=abT b1 b2 a b k:=by kernel_rfl
def TK (x y:Con):Bool:=x.name.data.toList==y.name.data.toList&&x.off==y.off
def jh (a b:List Con) (k:Nat):Bool:=(List.range' k (a.length - k)).all fun j=>TK (a.getD j default) (b.getD j default)
def scT (b1 b2:Bool) (a b:List Con) (k:Nat):List AV:=mkT 26 [(0,dD b1 a),(1,dD b2 b),(4,.s (.bool false)),(5,.y (.int .i64 k))]
def scS (r:Bool):Exit×List AV×List ay:=match r with
 | true=>(.exit 0,mkT 26 [],[])
 | false=>(.ret,mkT 26 [(4,.s (.bool false))],[])
def scO (a b:List Con) (k:Nat):T Bool:=.ite (jh a b k) (.ret true) (.ret false)
def abe (b1:Bool) (b2:Bool) (a:List Con) (b:List Con) (k:Nat):Prop :=
 (decide ((k:Int)<(a.length:Int))=true->(true&&decide ((k:Int)<(a.length:Int)))=true/\(true&&decide ((k:Int)<(b.length:Int)))=true/\((!((a.getD (Int.toNat (k:Int)) default).name.data.toList==(b.getD (Int.toNat (k:Int)) default).name.data.toList&&((a.getD (Int.toNat (k:Int)) default).off==(b.getD (Int.toNat (k:Int)) default).off&&true)))=true->(jh a b k=true->False)/\(jh a b k=false->(false=false/\True)/\True/\true=true))/\((!((a.getD (Int.toNat (k:Int)) default).name.data.toList==(b.getD (Int.toNat (k:Int)) default).name.data.toList&&((a.getD (Int.toNat (k:Int)) default).off==(b.getD (Int.toNat (k:Int)) default).off&&true)))=false->∃ j:Nat,a.length - j<a.length - k/\(((b1=b1/\a.length=a.length/\aj a.length 2 (ah aD a) (ah aD a))/\(b2=b2/\b.length=b.length/\aj b.length 2 (ah aD b) (ah aD b))/\false=false/\IntKind.i64.wrap ((k:Int)+1)=(j:Int)/\True)/\True/\true=true)/\true=true/\(jh a b j=true->(jh a b k=true->true=true)/\(jh a b k=false->true=false))/\(jh a b j=false->(jh a b k=true->false=true)/\(jh a b k=false->false=false))))/\(decide ((k:Int)<(a.length:Int))=false->(jh a b k=true->True/\True/\true=true)/\(jh a b k=false->False))
theorem TY (b1:Bool) (b2:Bool) (a:List Con) (b:List Con) (k:Nat):(bR Tryz.prog (hT _) 75 4 (fun k=>a.length - k) (scT b1 b2 a b) (fun _=>[]) [0,1] (scO a b) scS k)=abe b1 b2 a b k:=by kernel_rfl
theorem NT {a b:List Con} {k:Nat} (h:a.length<=k):jh a b k=true:=by
 unfold jh
 rw [show a.length - k=0 by omega];rfl
theorem KD {a b:List Con} {k:Nat} (h:k<a.length):jh a b k=(TK (a.getD k default) (b.getD k default)&&jh a b (k+1)):=by
 unfold jh
 rw [show a.length - k=(a.length - (k+1))+1 by omega,List.range'_succ];rfl
theorem OT {a b:List Rec} {k:Nat} (h:a.length<=k):gI a b k=true:=by
 unfold gI
 rw [show a.length - k=0 by omega];rfl
theorem Ki {a b:List Rec} {k:Nat} (h:k<a.length):gI a b k=(ZL (a.getD k default) (b.getD k default)&&gI a b (k+1)):=by
 unfold gI
 rw [show a.length - k=(a.length - (k+1))+1 by omega,List.range'_succ];rfl
theorem ZX (b1 b2:Bool) (a b:List Con) (hl:a.length<=9223372036854775806) (he:a.length=b.length) (k:Nat):aM Tryz.prog 75 4 (aN Tryz.prog 75 4) ⟨scT b1 b2 a b k,[],[]⟩ ((scO a b k).map (bJ [0,1] scS)):=by
 refine eB Tryz.mixed (fun _=>rfl) (fun k=>(TY b1 b2 a b k).mpr ?_) k
 unfold abe
 by_cases h:k<a.length
 · have hz:decide ((k:Int)<a.length)=true:=by simp;omega
   have hz2:decide ((k:Int)<b.length)=true:=by simp;omega
   have hw:IntKind.i64.wrap ((k:Int)+1)=((k+1:Nat):Int):=by rw [wrap_i64 (by omega) (by omega)];omega
   rw [KD h,Int.toNat_natCast]
   simp only [hz,hz2,hw]
   unfold TK
   generalize ((a.getD k default).name.data.toList==(b.getD k default).name.data.toList)=q1
   generalize ((a.getD k default).off==(b.getD k default).off)=q2
   cases q1<;>cases q2<;>simp
   exact ⟨k+1,by omega,by omega,by simp⟩
 · have hz:decide ((k:Int)<a.length)=false:=by simp;omega
   simp only [hz,NT (b:=b) (Nat.le_of_not_lt h)]
   simp
theorem aah (b1 b2:Bool) (a b:List Rec) (hl:a.length<=9223372036854775806) (he:a.length=b.length) (k:Nat):aM Tryz.prog 73 4 (aN Tryz.prog 73 4) ⟨YM b1 b2 a b k,[],[]⟩ ((WA a b k).map (bJ [0,1] XW)):=by
 refine eB Tryz.mixed (fun _=>rfl) (fun k=>(Un b1 b2 a b k).mpr ?_) k
 unfold abT
 by_cases h:k<a.length
 · have hz:decide ((k:Int)<a.length)=true:=by simp;omega
   have hz2:decide ((k:Int)<b.length)=true:=by simp;omega
   have hw:IntKind.i64.wrap ((k:Int)+1)=((k+1:Nat):Int):=by rw [wrap_i64 (by omega) (by omega)];omega
   rw [Ki h,Int.toNat_natCast]
   simp only [hz,hz2,hw,List.map_map,Function.comp_def]
   unfold ZL byL
   generalize ((a.getD k default).key.data.toList==(b.getD k default).key.data.toList)=q1
   generalize (List.map (fun (i:Nat)=>UInt8.ofNat (Int.toNat (List.getD (a.getD k default).val i 0))) (List.range (a.getD k default).val.length)==List.map (fun (i:Nat)=>UInt8.ofNat (Int.toNat (List.getD (b.getD k default).val i 0))) (List.range (b.getD k default).val.length))=q2
   have n1:((a.getD k default).off != (b.getD k default).off)=!((a.getD k default).off==(b.getD k default).off):=rfl
   have n2:((a.getD k default).prod != (b.getD k default).prod)=!((a.getD k default).prod==(b.getD k default).prod):=rfl
   have n3:((a.getD k default).seq != (b.getD k default).seq)=!((a.getD k default).seq==(b.getD k default).seq):=rfl
   rw [n1,n2,n3]
   generalize ((a.getD k default).off==(b.getD k default).off)=q3
   generalize ((a.getD k default).prod==(b.getD k default).prod)=q4
   generalize ((a.getD k default).seq==(b.getD k default).seq)=q5
   cases q1<;>cases q2<;>cases q3<;>cases q4<;>cases q5<;>simp
   exact ⟨k+1,by omega,by omega,by simp⟩
 · have hz:decide ((k:Int)<a.length)=false:=by simp;omega
   simp only [hz,OT (b:=b) (Nat.le_of_not_lt h)]
   simp
def iF (a b:List Rec):Bool:=(a.length==b.length)&&gI a b 0
def iy (a b:List Con):Bool:=(a.length==b.length)&&jh a b 0
noncomputable def smH (b1 b2:Bool) (a b:List Rec):aC Tryz.prog:=hh _ (mU 73 4 (dM (YM b1 b2 a b) (fun _=>[]) [0,1] (WA a b) XW 0) bO) bM bL
def ag' (b1:Bool) (b2:Bool) (a:List Rec) (b:List Rec):Prop :=
 (((a.length:Int) != (b.length:Int))=true->false=iF a b/\True)/\(((a.length:Int) != (b.length:Int))=false->(((b1=b1/\a.length=a.length/\aj a.length 5 (ah encR a) (ah encR a))/\(b2=b2/\b.length=b.length/\aj b.length 5 (ah encR b) (ah encR b))/\false=false/\(0:Int)=0/\True)/\True/\true=true)/\aM Tryz.prog 73 4 (aN Tryz.prog 73 4) { t:=YM b1 b2 a b 0,m:=[],mv:=[]:St } (T.map (bJ [0,1] XW) (WA a b 0))/\(gI a b 0=true->true=iF a b/\True)/\(gI a b 0=false->false=iF a b/\True))
theorem Z8 (b1:Bool) (b2:Bool) (a:List Rec) (b:List Rec):(bf Tryz.prog (smH b1 b2 a b) 73 [dK b1 a,dK b2 b] [] (aZ (iF a b)))=ag' b1 b2 a b:=by kernel_rfl
noncomputable def scH (b1 b2:Bool) (a b:List Con):aC Tryz.prog:=hh _ (mU 75 4 (dM (scT b1 b2 a b) (fun _=>[]) [0,1] (scO a b) scS 0) bO) bM bL
def agm (b1:Bool) (b2:Bool) (a:List Con) (b:List Con):Prop :=
 (((a.length:Int) != (b.length:Int))=true->false=iy a b/\True)/\(((a.length:Int) != (b.length:Int))=false->(((b1=b1/\a.length=a.length/\aj a.length 2 (ah aD a) (ah aD a))/\(b2=b2/\b.length=b.length/\aj b.length 2 (ah aD b) (ah aD b))/\false=false/\(0:Int)=0/\True)/\True/\true=true)/\aM Tryz.prog 75 4 (aN Tryz.prog 75 4) { t:=scT b1 b2 a b 0,m:=[],mv:=[]:St } (T.map (bJ [0,1] scS) (scO a b 0))/\(jh a b 0=true->true=iy a b/\True)/\(jh a b 0=false->false=iy a b/\True))
theorem Y_ (b1:Bool) (b2:Bool) (a:List Con) (b:List Con):(bf Tryz.prog (scH b1 b2 a b) 75 [dD b1 a,dD b2 b] [] (aZ (iy a b)))=agm b1 b2 a b:=by kernel_rfl
theorem ai_ (b1 b2:Bool) (a b:List Rec) (hl:a.length<=9223372036854775806):(aZ (iF a b)).Sat (aB Tryz.prog 73 [dK b1 a,dK b2 b] []):=by
 refine aP (ht:=smH b1 b2 a b) Tryz.mixed rfl ?_
 rw [Z8 b1 b2 a b]
 unfold ag'
 by_cases he:a.length=b.length
 · have:=aah b1 b2 a b hl he 0
   simp [iF,he,this]
 · have he':¬ ((a.length:Int)=b.length):=by omega
   simp [iF,he,he']
theorem aja (b1 b2:Bool) (a b:List Con) (hl:a.length<=9223372036854775806):(aZ (iy a b)).Sat (aB Tryz.prog 75 [dD b1 a,dD b2 b] []):=by
 refine aP (ht:=scH b1 b2 a b) Tryz.mixed rfl ?_
 rw [Y_ b1 b2 a b]
 unfold agm
 by_cases he:a.length=b.length
 · have:=ZX b1 b2 a b hl he 0
   simp [iy,he,this]
 · have he':¬ ((a.length:Int)=b.length):=by omega
   simp [iy,he,he']
noncomputable def smC (b1 b2:Bool) (a b:List Rec):eu Tryz.prog:=⟨73,[dK b1 a,dK b2 b],[],.need (a.length<=9223372036854775806) (aZ (iF a b)),T.Sat.need fun h=>ai_ b1 b2 a b h⟩
noncomputable def agx (b1 b2:Bool) (a b:List Con):eu Tryz.prog:=⟨75,[dD b1 a,dD b2 b],[],.need (a.length<=9223372036854775806) (aZ (iy a b)),T.Sat.need fun h=>aja b1 b2 a b h⟩
def eG (p q:Part):Bool:=iF p.recs q.recs&&(P.kR p.prods q.prods&&(iy p.cons q.cons&&((p.rng.lo.data.toList==q.rng.lo.data.toList&&p.rng.hi.data.toList==q.rng.hi.data.toList)&&(p.epoch==q.epoch&&p.frozen==q.frozen))))
noncomputable def agn (b1 b2:Bool) (p q:Part):aC Tryz.prog:=hh _ bO (cs1 19 1 4 (smC b1 b2 p.recs q.recs) (cs1 19 2 4 (P.abW b1 b2 p.prods q.prods) (cs1 19 3 4 (agx b1 b2 p.cons q.cons) bM))) bL
def abR (b1:Bool) (b2:Bool) (p:Part) (q:Part):Prop :=
 ((b1=b1/\p.recs.length=p.recs.length/\aj p.recs.length 5 (ah encR p.recs) (ah encR p.recs))/\(b2=b2/\q.recs.length=q.recs.length/\aj q.recs.length 5 (ah encR q.recs) (ah encR q.recs))/\True)/\True/\p.recs.length<=9223372036854775806/\((b1=b1/\p.prods.length=p.prods.length/\aj p.prods.length 4 (ah P.ak p.prods) (ah P.ak p.prods))/\(b2=b2/\q.prods.length=q.prods.length/\aj q.prods.length 4 (ah P.ak q.prods) (ah P.ak q.prods))/\True)/\True/\p.prods.length<=9223372036854775806/\((b1=b1/\p.cons.length=p.cons.length/\aj p.cons.length 2 (ah aD p.cons) (ah aD p.cons))/\(b2=b2/\q.cons.length=q.cons.length/\aj q.cons.length 2 (ah aD q.cons) (ah aD q.cons))/\True)/\True/\p.cons.length<=9223372036854775806/\(iF p.recs q.recs=true->(P.kR p.prods q.prods=true->(iy p.cons q.cons=true->((p.rng.lo.data.toList==q.rng.lo.data.toList&&(p.rng.hi.data.toList==q.rng.hi.data.toList&&true))=true->((p.epoch==q.epoch)=true->(p.frozen==q.frozen)=eG p q/\True)/\((p.epoch==q.epoch)=false->false=eG p q/\True))/\((p.rng.lo.data.toList==q.rng.lo.data.toList&&(p.rng.hi.data.toList==q.rng.hi.data.toList&&true))=false->false=eG p q/\True))/\(iy p.cons q.cons=false->false=eG p q/\True))/\(P.kR p.prods q.prods=false->false=eG p q/\True))/\(iF p.recs q.recs=false->false=eG p q/\True)
theorem TJ (b1:Bool) (b2:Bool) (p:Part) (q:Part):(bf Tryz.prog (agn b1 b2 p q) 19 [.agg (aX b1 p),.agg (aX b2 q)] [] (aZ (eG p q)))=abR b1 b2 p q:=by kernel_rfl
theorem abn (b1 b2:Bool) (p q:Part) (h:eH p):(aZ (eG p q)).Sat (aB Tryz.prog 19 [.agg (aX b1 p),.agg (aX b2 q)] []):=by
 refine aP (ht:=agn b1 b2 p q) Tryz.mixed rfl ?_
 rw [TJ b1 b2 p q]
 unfold abR eG
 have h1:=h.rl
 have h2:=h.pl
 have h3:=h.cl
 have g1:p.recs.length<=9223372036854775806:=by omega
 have g2:p.prods.length<=9223372036854775806:=by omega
 have g3:p.cons.length<=9223372036854775806:=by omega
 generalize iF p.recs q.recs=q1
 generalize P.kR p.prods q.prods=q2
 generalize iy p.cons q.cons=q3
 generalize (p.rng.lo.data.toList==q.rng.lo.data.toList)=q4
 generalize (p.rng.hi.data.toList==q.rng.hi.data.toList)=q5
 generalize (p.epoch==q.epoch)=q6
 generalize (p.frozen==q.frozen)=q7
 cases q1<;>cases q2<;>cases q3<;>cases q4<;>cases q5<;>cases q6<;>simp [g1,g2,g3]
def p0:Part:=⟨⟨ByteArray.empty,ByteArray.empty⟩,1,0,[],[],[]⟩
theorem take_zero {l:List P.Producer} {x:P.Producer}:P.aI l x=0↔P.bF l=true/\P.aS l x.id x.seq=1/\(P.bA l x.id=true∨¬ l.length=256):=by
 unfold P.aI
 by_cases ht:P.bF l=true
 · by_cases h4:P.aS l x.id x.seq=4
   · simp [ht,h4]
   · by_cases h5:P.aS l x.id x.seq=1
     · cases hf:P.bA l x.id
       · by_cases hn:l.length=256
         · simp [ht,h5,hn]
         · simp [ht,h5,hn]
       · simp [ht,h5]
     · simp [ht,h4,h5]
 · simp [ht]
theorem acV {l:List P.Producer} {x:P.Producer} (h:P.bA l x.id=true):(P.gD l x).length<l.length:=by
 have ⟨h1,h2⟩:=P.jo h
 unfold P.gD
 rw [List.length_filter_lt_length_iff_exists]
 exact ⟨_,h1,by simp [P.keep,h2]⟩
theorem adH (l:List P.Producer) (x:P.Producer):(P.gD l x).length<=l.length:=List.length_filter_le _ _
theorem MH {l:List P.Producer} {x:P.Producer} (h:P.aI l x=0) (g:x.here=true∨x.offset=0):P.bF (P.aF l x)=true:=by
 have ⟨h1,h2,h3⟩:=take_zero.1 h
 have ⟨h4,r,n⟩:=(P.DW l).1 h1
 rw [P.DW]
 refine ⟨fun z hz=>?_,P.yc r,?_⟩
 · rcases P.jv.1 hz with rfl | ⟨hz,_⟩
   · have hb:=((P.D8 l z.id z.seq).1 h2).1
     simp [P.Cr] at hb
     exact ⟨hb.1,hb.2.1,hb.2.2,g⟩
   · exact h4 z hz
 · rw [P.JE]
   rcases h3 with h3 | h3
   · have:=acV h3;omega
   · have:=adH l x;omega
theorem YE (l:List P.Producer) (x:P.Producer):ji (l++[x])=(ji l).put x.id x.seq:=by simp [ji]
theorem zu (l:List P.Producer) (a:Int):(Kn.sel (ji l) a=0/\∀ x∈l,x.id≠a)∨∃ x∈l,x.id=a/\Kn.sel (ji l) a=x.seq:=by
 refine D.zQ (P:=fun l=>(Kn.sel (ji l) a=0/\∀ x∈l,x.id≠a)∨∃ x∈l,x.id=a/\Kn.sel (ji l) a=x.seq) ?_ ?_ l
 · exact .inl ⟨rfl,fun x hx=>by cases hx⟩
 · intro l x ih
   rw [YE,D.kW]
   by_cases h:x.id=a
   · rw [if_pos h];exact .inr ⟨x,by simp,h,rfl⟩
   · rw [if_neg h]
     rcases ih with ⟨h1,h2⟩ | ⟨y,h1,h2,h3⟩
     · refine .inl ⟨h1,fun y hy=>?_⟩
       rcases List.mem_append.1 hy with hy | hy
       · exact h2 y hy
       · simp at hy;subst hy;exact h
     · exact .inr ⟨y,by simp [h1],h2,h3⟩
theorem LU {l:List P.Producer} (h:P.rising l) {x:P.Producer} (hx:x∈l):Kn.sel (ji l) x.id=x.seq:=by
 rcases zu l x.id with ⟨_,h2⟩ | ⟨y,h1,h2,h3⟩
 · exact absurd rfl (h2 x hx)
 · rw [h3,P.D_ ((P.ou l).1 h) h1 hx h2]
theorem LZ {l:List P.Producer} (h:P.rising l) (x:P.Producer) (a:Int):Kn.sel (ji (P.aF l x)) a=if a=x.id then x.seq else Kn.sel (ji l) a:=by
 have hr:P.rising (P.aF l x):=P.yc h
 by_cases e:a=x.id
 · subst e
   rw [if_pos rfl]
   exact LU hr (P.jv.2 (.inl rfl))
 · rw [if_neg e]
   rcases zu (P.aF l x) a with ⟨h1,h2⟩ | ⟨y,h1,h2,h3⟩
   · rw [h1]
     rcases zu l a with ⟨h4,_⟩ | ⟨z,h4,h5,_⟩
     · exact h4.symm
     · exact absurd h5 (h2 z (P.jv.2 (.inr ⟨h4,by omega⟩)))
   · rw [h3]
     rcases P.jv.1 h1 with rfl | ⟨h4,_⟩
     · exact absurd h2.symm e
     · rw [<- h2];exact (LU h h4).symm
theorem Mx {l:List P.Producer} (h:P.rising l) {id seq:Int} (hj:P.aS l id seq=1):Kn.sel (ji l) id<seq/\1<=seq:=by
 have ⟨h1,h2⟩:=(P.Ic h id seq).1 hj
 simp [P.Cr] at h1
 refine ⟨?_,h1.2.1⟩
 rcases zu l id with ⟨h3,_⟩ | ⟨y,h3,h4,h5⟩
 · omega
 · have:=h2 y h3 h4;omega
theorem acD {l:List P.Producer} {x:P.Producer} (h:P.aI l x=0) (a:Int):Kn.sel (ji l) a<=Kn.sel (ji (P.aF l x)) a:=by
 have ⟨h1,h2,_⟩:=take_zero.1 h
 have r:=P.gH h1
 rw [LZ r]
 by_cases e:a=x.id
 · rw [if_pos e,e]
   have:=Mx r h2
   omega
 · rw [if_neg e];exact Int.le_refl _
theorem Lv {g:kF} {l:List P.Producer} {x:P.Producer} {r:List Rec} (h:P.aI l x=0) (ho:D.AO g (ji l) r):D.AO g (ji (P.aF l x)) r :=
 ⟨fun y hy=>⟨(ho.1 y hy).1,(ho.1 y hy).2.1,Int.le_trans (ho.1 y hy).2.2 (acD h y.prod)⟩,ho.2⟩
theorem aam {g:kF} {l:List P.Producer} {x:P.Producer} {r:List Rec} {y:Rec} (h:P.aI l x=0) (hi:y.prod=x.id) (hs:y.seq=x.seq) (hk:fZ g y.key=true) (ho:D.AO g (ji l) r):D.AO g (ji (P.aF l x)) (r++[y]):=by
 have ⟨h1,h2,_⟩:=take_zero.1 h
 have hr:=P.gH h1
 have hn:=Mx hr h2
 have h3:=Lv h ho
 constructor
 · intro z hz
   rcases List.mem_append.1 hz with hz | hz
   · exact h3.1 z hz
   · simp at hz
     subst hz
     refine ⟨hk,by omega,?_⟩
     rw [LZ hr,if_pos hi];omega
 · rw [List.pairwise_append]
   refine ⟨ho.2,by simp,fun a ha b hb=>?_⟩
   simp at hb
   subst hb
   intro e
   have:=(ho.1 a ha).2.2
   rw [e,hi] at this
   omega
theorem CV:∀ {l:List Con} {x:Con},l.Pairwise (fun a b=>lt a.name b.name=true)->jL l x.name=true->(aF l x).length=l.length
 | [],x,_,h=>by simp [jL] at h
 | y::t,x,hp,h=>by
   rw [sG]
   rw [List.pairwise_cons] at hp
   cases h1:lt y.name x.name
   · by_cases h2:y.name.data=x.name.data
     · simp [h2]
     · exfalso
       simp only [jL,List.any_cons,Bool.or_eq_true] at h
       rcases h with h | h
       · simp [BA] at h
         exact h2 h
       · rw [List.any_eq_true] at h
         obtain ⟨z,hz,e⟩:=h
         have h3:=hp.1 z hz
         simp [BA] at e
         have e2:z.name=x.name:=ByteArray.ext e
         rw [e2,h1] at h3;cases h3
   · simp only [if_true,List.length_cons]
     have h2:jL t x.name=true:=by
      simp only [jL,List.any_cons,Bool.or_eq_true] at h
      rcases h with h | h
      · simp [BA] at h
        have e2:y.name=x.name:=ByteArray.ext h
        rw [e2,D.ab5] at h1;cases h1
      · exact h
     rw [CV hp.2 h2]
theorem D6 {l:List Con} (h:bY l=true):∀ z∈l,b_ z.name=true:=by
 intro z hz
 obtain ⟨k,hk,rfl⟩:=List.mem_iff_getElem.1 hz
 simp only [bY,Bool.and_eq_true] at h
 have:=(D.uR l).1 h.1 k hk
 simp [yP,hk] at this
 exact this.1
theorem Zf {l:List Con} (h1:∀ z∈l,b_ z.name=true) (h2:nD l) (h3:l.length<=64):bY l=true:=by
 simp only [bY,Bool.and_eq_true,decide_eq_true_eq,h3,and_true]
 rw [D.uR]
 intro k hk
 have a:=h1 l[k] (List.getElem_mem hk)
 simp only [yP,Bool.and_eq_true]
 refine ⟨by simpa [hk] using a,?_⟩
 by_cases h0:0<k
 · have:=h2 (k - 1) k (by omega) hk
   rw [this];simp
 · simp [h0]
theorem Je {l:List Con} {x:Con} {e:Int} (h:dH l x e=0):bY l=true/\b_ x.name=true/\x.off<=e/\(jL l x.name=true∨l.length≠64):=by
 unfold dH at h
 cases h1:bY l
 · simp [h1] at h
 · cases h2:b_ x.name
   · simp [h1,h2] at h
   · by_cases h3:e<x.off
     · simp [h1,h2,h3] at h
     · cases h4:jL l x.name
       · by_cases h5:l.length=64
         · simp [h1,h2,h3,h4,h5] at h
         · exact ⟨rfl,rfl,by omega,.inr h5⟩
       · exact ⟨rfl,rfl,by omega,.inl rfl⟩
theorem TT {l:List Con} {x:Con} {e:Int} (h:dH l x e=0):bY (aF l x)=true:=by
 obtain ⟨h1,h2,_,h4⟩:=Je h
 refine Zf (put_mem h2 l (D6 h1)) (aag (uO h1)) ?_
 have h5:=vW h1
 rcases h4 with h4 | h4
 · rw [CV ((yV l).1 (uO h1)) h4];exact h5
 · have:=WW l x;omega
theorem abJ {p:Part} (a:fJ p.rng=0) (b:p.epoch≠0) (c:bG p.recs=true) (d:P.bF p.prods=true) (e:bY p.cons=true) (f:D.AO p.rng (ji p.prods) p.recs) (g:∀ x∈p.prods,cu p x=false) (i:∀ x∈p.cons,x.off<=(p.recs.length:Nat)):aH p=true:=by
 have f':=(D.Uk p).2 f
 have g':=D.GU.2 g
 have i':p.cons.any (bW p.recs.length)=false:=by
  rw [List.any_eq_false]
  intro x hx
  have:=i x hx
  simp [bW];exact this
 simp [aH,a,b,c,d,e,f',g',i']
theorem SG {p:Part} (h:aH p=true):fJ p.rng=0/\p.epoch≠0/\bG p.recs=true/\P.bF p.prods=true/\bY p.cons=true/\D.AO p.rng (ji p.prods) p.recs/\(∀ x∈p.prods,cu p x=false)/\∀ x∈p.cons,x.off<=(p.recs.length:Nat):=by
 obtain ⟨a,b,c,d,e,f,g,i⟩:=D.AB h
 refine ⟨a,b,c,d,e,(D.Uk p).1 f,D.GU.1 g,fun x hx=>?_⟩
 rw [List.any_eq_false] at i
 have:=i x hx
 simp [bW] at this;exact this
theorem Vv {l:List Rec} {x:Rec} (h:kJ l x=0):bG l=true/\x.key.size<=32/\x.val.length<=256/\l.length≠4096:=by
 unfold kJ at h
 cases h1:bG l
 · simp [h1] at h
 · by_cases h2:32<x.key.size
   · simp [h1,h2] at h
   · by_cases h3:256<x.val.length
     · simp [h1,h2,h3] at h
     · by_cases h4:l.length=4096
       · simp [h1,h2,h3,h4] at h
       · exact ⟨rfl,by omega,by omega,h4⟩
theorem Zg {l:List Rec} {x:Rec} (h:kJ l x=0):bG (ig l x)=true:=by
 obtain ⟨h1,h2,h3,h4⟩:=Vv h
 have hl:=ko h1
 simp only [bG,Bool.and_eq_true,decide_eq_true_eq] at h1 ⊢
 have hL:(ig l x).length=l.length+1:=by simp [ig]
 refine ⟨(D.ql _).2 fun k hk=>?_,by omega⟩
 by_cases e:k<l.length
 · have:=(D.ql _).1 h1.1 k e
   simpa [ig,List.getElem?_append_left e] using this
 · obtain rfl:k=l.length:=by omega
   have:(ig l x).getD l.length default=x.to (IntKind.u64.wrap (l.length:Nat)):=by simp [ig]
   rw [this]
   simp [QT,Rec.to,h2,h3]
theorem X3 {p:Part} {c:cB} (h:tq p c=0):fZ p.rng c.key=true/\p.frozen=0/\kJ p.recs (newR c)=0/\P.aI p.prods (nN p c)=0:=by
 unfold tq at h
 cases h1:fZ p.rng c.key
 · simp [h1] at h
 · by_cases h2:P.aS p.prods c.prod c.seq=2
   · simp [h1,h2] at h
   · by_cases h3:P.aS p.prods c.prod c.seq=3
     · simp [h1,h3] at h
     · by_cases h4:p.frozen=0
       · by_cases h5:kJ p.recs (newR c)=0
         · simp [h1,h2,h3,h4,h5] at h
           exact ⟨rfl,h4,h5,h⟩
         · simp [h1,h2,h3,h4,h5] at h
       · simp [h1,h2,h3,h4] at h
theorem Y9 {p:Part} {c:cB} (h:vP p c=0):p.frozen=0/\rP p c=0/\P.aI p.prods (nH c)=0:=by
 unfold vP at h
 by_cases h2:P.aS p.prods c.prod c.seq=1
 · by_cases h4:p.frozen=0
   · by_cases h5:rP p c=0
     · simp [h2,h4,h5] at h
       exact ⟨h4,h5,h⟩
     · simp [h2,h4,h5] at h
   · simp [h2,h4] at h
 · simp [h2] at h
theorem Ma {l:List P.Producer} (h:P.bF l=true):l.length<=256:=by
 simp [P.bF] at h
 exact h.2
theorem aek {p:Part} {c:cB} (hp:D.jH p) (h:aH p=true) (h0:tq p c=0):aH (Rk p c)=true/\D.jH (Rk p c):=by
 obtain ⟨a,b,hl,ht,hc,ho,hlo,ha⟩:=SG h
 obtain ⟨k1,_,k2,k3⟩:=X3 h0
 have q1:=Zg k2
 have q2:=MH k3 (.inl rfl)
 have n1:=ko hl
 have hL:(ig p.recs (newR c)).length=p.recs.length+1:=by simp [ig]
 have hlast:(ig p.recs (newR c)).getD p.recs.length default=(newR c).to (IntKind.u64.wrap (p.recs.length:Nat)):=by simp [ig]
 have hold:∀ k,k<p.recs.length->(ig p.recs (newR c)).getD k default=p.recs.getD k default:=fun k hk=>by simp [ig,List.getElem?_append_left hk]
 refine ⟨abJ a b q1 q2 hc (aam k3 rfl rfl k1 ho) (fun x hx=>?_) (fun x hx=>?_),⟨?_,?_,hp.cl,fun x hx=>?_,hp.co⟩⟩
 · rw [D.wB]
   intro hh
   show x.offset<(ig p.recs (newR c)).length/\((ig p.recs (newR c)).getD x.offset.toNat default).prod=x.id/\((ig p.recs (newR c)).getD x.offset.toNat default).seq=x.seq
   rcases P.jv.1 hx with rfl | ⟨hx,_⟩
   · have e:(nN p c).offset=(p.recs.length:Nat):=rfl
     rw [e,Int.toNat_natCast,hlast,hL]
     exact ⟨by omega,rfl,rfl⟩
   · have h1:=D.wB.1 (hlo x hx) hh
     have h2:=(hp.po x hx).1
     rw [hold x.offset.toNat (by omega),hL]
     exact ⟨by omega,h1.2⟩
 · have h1:=ha x hx
   show x.off<=((ig p.recs (newR c)).length:Nat)
   omega
 · show (ig p.recs (newR c)).length<=_
   omega
 · have:=Ma q2
   show (P.aF p.prods (nN p c)).length<=_
   omega
 · rcases P.jv.1 hx with rfl | ⟨hx,_⟩
   · show 0<=(p.recs.length:Int)/\(p.recs.length:Int)<18446744073709551616
     omega
   · exact hp.po x hx
theorem acF {p:Part} {c:cB} (hp:D.jH p) (h:aH p=true) (h0:vP p c=0) (hc0:0<=c.off/\c.off<18446744073709551616):aH (Vq p c)=true/\D.jH (Vq p c):=by
 obtain ⟨a,b,hl,ht,hc,ho,hlo,ha⟩:=SG h
 obtain ⟨_,k2,k3⟩:=Y9 h0
 have q2:=MH k3 (.inr rfl)
 have n1:=ko hl
 have q3:bY (aF p.cons ⟨c.name,c.off⟩)=true:=TT k2
 have q4:c.off<=(p.recs.length:Nat):=by
  have:=(Je k2).2.2.1
  rw [wrap_u64 (by omega) (by omega)] at this
  exact this
 refine ⟨abJ a b hl q2 q3 (Lv k3 ho) (fun x hx=>?_) (put_mem (x:=⟨c.name,c.off⟩) (P:=fun x=>x.off<=(p.recs.length:Nat)) q4 _ ha),⟨hp.rl,?_,?_,fun x hx=>?_,put_mem (x:=⟨c.name,c.off⟩) (P:=fun x=>G5 x.off) hc0 _ hp.co⟩⟩
 · rw [D.wB]
   intro hh
   rcases P.jv.1 hx with rfl | ⟨hx,_⟩
   · exact absurd hh (by simp [nH,P.bK])
   · exact D.wB.1 (hlo x hx) hh
 · have:=Ma q2
   show (P.aF p.prods (nH c)).length<=_
   omega
 · have:=vW q3
   show (aF p.cons ⟨c.name,c.off⟩).length<=_
   omega
 · rcases P.jv.1 hx with rfl | ⟨hx,_⟩
   · show 0<=(0:Int)/\(0:Int)<18446744073709551616
     omega
   · exact hp.po x hx
theorem acs {p:Part} {b:Int} (hp:D.jH p) (h:aH p=true):aH (Ho p b)=true/\D.jH (Ho p b):=⟨h,⟨hp.rl,hp.pl,hp.cl,hp.po,hp.co⟩⟩
theorem IB {p:Part} {c:cB} (h:aH p=true):dQ p c=p∨((dX p c).err=0/\c.kind≠2/\c.kind≠4/\((c.kind=1/\tq p c=0/\dQ p c=Rk p c)∨(c.kind=3/\vP p c=0/\dQ p c=Vq p c)∨((c.kind=5∨c.kind=6)/\yF p c=false/\dQ p c=Ho p (Lb c)))):=by
 unfold dQ dX Wm PX
 simp only [h]
 by_cases h1:dU c=false
 · simp [h1]
 · by_cases h2:c.epoch=p.epoch
   · by_cases h3:kT p c=0
     · simp only [h1,h2,h3]
       simp
       unfold JC qp
       unfold kT un9 at h3
       by_cases k1:c.kind=1
       · by_cases e0:tq p c=0
         · simp [k1,e0]
         · simp [k1,e0]
       · by_cases k3:c.kind=3
         · by_cases e0:vP p c=0
           · simp [k3,e0]
           · simp [k3,e0]
         · by_cases k5:c.kind=5
           · cases f:yF p c<;>simp [k5,f]
           · by_cases k6:c.kind=6
             · cases f:yF p c<;>simp [k6,f]
             · simp [k1,k3,k5,k6]
     · simp [h3]
   · simp [h2]
theorem Tp {p:Part} {c:cB} (hp:D.jH p) (h:aH p=true) (hc:0<=c.off/\c.off<18446744073709551616):aH (dQ p c)=true/\D.jH (dQ p c):=by
 rcases IB (c:=c) h with e | ⟨_,_,_,⟨_,h1,e⟩ | ⟨_,h1,e⟩ | ⟨_,h1,e⟩⟩
 · rw [e];exact ⟨h,hp⟩
 · rw [e];exact aek hp h h1
 · rw [e];exact acF hp h h1 hc
 · rw [e];exact acs hp h
theorem Dk (p:Part):eG p p=true:=by
 have h1:iF p.recs p.recs=true:=by
  simp [iF,gI,ZL]
 have h2:P.kR p.prods p.prods=true:=by
  unfold P.kR P.dR;simp [P.eqP]
 have h3:iy p.cons p.cons=true:=by
  simp [iy,jh,TK]
 simp [eG,h1,h2,h3]
end R
namespace J
theorem Zu {l:List Int} (h:yN l):fq l default:=aeW h.n h.b
theorem Oj {l:List Int} {s:RS} (h:kS l s=0):s.e=0/\l.length<=s.at_:=by
 unfold kS at h
 by_cases h0:s.e=0/\s.at_<l.length
 · rw [if_pos h0] at h;exact absurd h (by decide)
 · rw [if_neg h0] at h
   refine ⟨h,?_⟩
   by_cases h1:s.at_<l.length
   · exact absurd ⟨h,h1⟩ h0
   · omega
theorem WR {α:Type} {l:List Int} {f:RS->α×RS} {enc:α->List Int} {ok:α->Prop} (hf:wO l f enc ok) (h:yN l) (hd:kS l (f default).2=0):ok (f default).1/\l=enc (f default).1:=by
 obtain ⟨h0,h1⟩:=Oj hd
 obtain ⟨a1,a2,a3,r,a4⟩:=hf.bwd default (Zu h) h0
 have a4:l=enc (f default).1++r:=a4
 rw [a3] at h1
 have h2:=congrArg List.length a4
 rw [List.length_append] at h2
 have h3:r=[]:=List.eq_nil_of_length_eq_zero (by
  have:(default:RS).at_=0:=rfl
  rw [this] at h1
  simp only at h1
  omega)
 refine ⟨a2,?_⟩
 rw [h3,List.append_nil] at a4
 exact a4
theorem Bytes.app {a b:List Int} (ha:Bytes a) (hb:Bytes b):Bytes (a++b):=⟨fun x hx=>by
 rcases List.mem_append.1 hx with hx | hx
 · exact ha.b x hx
 · exact hb.b x hx⟩
theorem Bytes.nil:Bytes []:=⟨fun x hx=>absurd hx (by simp)⟩
theorem Bytes.flat {α:Type} {f:α->List Int}:∀ {l:List α},(∀ x∈l,Bytes (f x))->Bytes (l.flatMap f)
 | [],_=>Bytes.nil
 | a::l,h=>by
   rw [List.flatMap_cons]
   exact (h a (by simp)).app (Bytes.flat fun x hx=>h x (by simp [hx]))
theorem Bu:∀ (f:Nat) (v:Int),0<=v->v<128 ^ (f+1)->Bytes (nL f v)
 | 0,v,h0,h1=>⟨fun x hx=>by
   obtain rfl:=List.mem_singleton.1 hx
   simp at h1
   omega⟩
 | f+1,v,h0,h1=>by
   by_cases h:v<128
   · rw [oJ h]
     exact ⟨fun x hx=>by
      obtain rfl:=List.mem_singleton.1 hx
      omega⟩
   · rw [lI (by omega)]
     have:(128:Int) ^ (f+1+1)=128 ^ (f+1)*128:=Int.pow_succ 128 (f+1)
     rw [this] at h1
     have:=Bu f (v / 128) (by omega) (by omega)
     exact ⟨fun x hx=>by
      rcases List.mem_cons.1 hx with rfl | hx
      · omega
      · exact this.b x hx⟩
theorem iV {v:Int} (h:mW v):Bytes (au v):=Bu 10 v h.lo (by
 have e:(128:Int) ^ (10+1)=151115727451828646838272:=by decide
 have:=h.hi
 omega)
theorem LH {t:List Int} (h:Bytes t) (hl:t.length<=140737488355327):Bytes (aQ t):=(iV ⟨by omega,by omega⟩).app h
theorem y9 {s:ByteArray} (hl:s.size<=140737488355327):Bytes (aQ (bD s)):=LH (zU s) (by rw [gV];exact hl)
theorem WB (b:Bool):Bytes (jg b):=⟨fun x hx=>by
 obtain rfl:=List.mem_singleton.1 hx
 split<;>omega⟩
structure F4 (p:Part):Prop where
 rng:Vn p.rng
 epoch:mW p.epoch
 frozen:mW p.frozen
 recs:vK 4096 xS p.recs
 prods:vK 256 sW p.prods
 cons:vK 64 M7 p.cons
def stS (l:List Int) (s:RS):Part×RS :=
 let g:=pQ l s;let e:=aR l g.2;let f:=aR l e.2;let r:=yD l f.2 4096;let p:=nO l r.2;let c:=GH l p.2
 (⟨g.1,e.1,f.1,r.1,p.1,c.1⟩,c.2)
theorem adz (l:List Int):wO l (stS l) iA F4:=by
 have h:=((Xh l).pair ((gQ l).pair ((gQ l).pair ((VJ l 4096).pair ((BX (U8 l) (fun x _=>OL x) 256).pair (BX (Yb l) (fun x _=>V_ x) 64)))))).map (β:=Part) (fun a=>⟨a.1,a.2.1,a.2.2.1,a.2.2.2.1,a.2.2.2.2.1,a.2.2.2.2.2⟩) (fun x=>(x.rng,x.epoch,x.frozen,x.recs,x.prods,x.cons)) (eb:=iA) (ob:=F4) (fun x=>rfl)
  (fun a ha=>⟨by simp [iA,PO,Br,Ik],ha.1,ha.2.1,ha.2.2.1,ha.2.2.2.1,ha.2.2.2.2.1,ha.2.2.2.2.2⟩) (fun x hx=>⟨hx.rng,hx.epoch,hx.frozen,hx.recs,hx.prods,hx.cons⟩)
 exact h.of fun s=>rfl
theorem acv {b:List Int} (h:yN b) (h0:(nE b).2=0):iA (nE b).1=b/\aH (nE b).1=true/\F4 (nE b).1:=by
 unfold nE at h0 ⊢
 by_cases hc:kS b (wG b).2=0/\aH (wG b).1=true
 · rw [if_pos hc] at h0 ⊢
   obtain ⟨q1,q2⟩:=WR (adz b) h hc.1
   exact ⟨q2.symm,hc.2,q1⟩
 · rw [if_neg hc] at h0
   exact absurd h0 (by decide)
structure agL (x:R.mV):Prop where
 err:yI x.err
 off:mW x.off
 recs:vK 64 xS x.recs
structure CmT (c:R.cB):Prop where
 u:aic c
 b:Bytes c.val
end J
namespace R
def uj (b:Bool) (l:List cB):AV:=.ys b 10 l.length (ah bS l)
def mq (p:Part) (l:List cB) (i:Nat):Part:=(l.take i).foldl dQ p
noncomputable def Wu (b1 b2:Bool) (p q:Part):eu Tryz.prog:=⟨19,[.agg (aX b1 p),.agg (aX b2 q)],[],.need (eH p) (aZ (eG p q)),T.Sat.need fun h=>abn b1 b2 p q h⟩
def sS (l:List cB) (i:Nat):List AV:=mkT 63 [(1,uj true l),(2,.ptr 0 0 0 0),(5,.y (.bool true)),(6,.y (.int .i64 i))]
def stM (f:Nat->Part) (i:Nat):List ay:=[.box 30 (aX true (f i))]
end R
namespace J
noncomputable def afr:aC Tryz.prog:=V3 (Ye Tryz.prog noSh) P.lay
def aaS (u:Unit):Prop :=
 (false=true->(false=true->false=true/\True)/\(false=false->(false=true->false=true/\True)/\(false=false->(false=true->false=true/\True)/\(false=false->true=true/\false=true/\True))))/\(false=false->(false=true->(false=true->false=true/\True)/\(false=false->(false=true->false=true/\True)/\(false=false->(false=true->false=true/\True)/\(false=false->true=true/\false=true/\True))))/\(false=false->(false=true->(false=true->false=true/\True)/\(false=false->true=true/\True))/\(false=false->true=true/\(false=true->false=true/\True)/\(false=false->(false=true->true=true/\false=true/\True)/\(false=false->true=true/\true=true/\True)))))
theorem Uq (u:Unit):(bf Tryz.prog afr 10 [] [] (aZ true))=aaS u:=by kernel_rfl
theorem ahv:(aZ true).Sat (aB Tryz.prog 10 [] []):=by
 refine aP (ht:=afr) Tryz.mixed rfl ?_
 rw [Uq ()]
 unfold aaS
 simp
noncomputable def aiJ:eu Tryz.prog:=⟨10,[],[],aZ true,ahv⟩
end J
end Go.Proofs.YtnbhdjadlbhknaaGreatDoor
