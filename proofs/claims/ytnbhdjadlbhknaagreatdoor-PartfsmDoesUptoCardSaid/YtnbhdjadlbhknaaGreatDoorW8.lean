import Derived.Test.YtnbhdjadlbhknaaGreatDoorE12
import Derived.Test.YtnbhdjadlbhknaaGreatDoorW1
import Derived.Test.YtnbhdjadlbhknaaGreatDoorW3
import Derived.Test.YtnbhdjadlbhknaaGreatDoorW4
import Derived.Test.YtnbhdjadlbhknaaGreatDoorW5
import Derived.Test.YtnbhdjadlbhknaaGreatDoorW7
set_option linter.unusedVariables false
set_option linter.unusedSimpArgs false
set_option maxRecDepth 1000000
namespace Go.Proofs.YtnbhdjadlbhknaaGreatDoor
open Go.Ax
namespace J
theorem LV:∀ (bs:List Int) (i:Nat) (v:Int),(∀ x∈bs,0<=x/\x<256)->i<=9->0<=v->v<2 ^ (7*i)->0<=(Cm bs i v).2.1/\(Cm bs i v).2.1<18446744073709551616/\(Cm bs i v).2.2<=i+bs.length
 | [],i,v,_,_,_,_=>by simp [Cm]
 | c::r,i,v,hb,hi,h0,h1=>by
   obtain ⟨c0,c1⟩:=hb c (by simp)
   unfold Cm
   by_cases hA:i=9/\c≠1
   · rw [if_pos hA];simp
   · rw [if_neg hA]
     obtain ⟨n0,n1⟩:=UW (c:=c) h0 h1
     have h9:i=9->c=1:=fun h=>by
      by_cases hc:c=1
      · exact hc
      · exact absurd ⟨h,hc⟩ hA
     by_cases h2:128<=c
     · rw [if_pos h2]
       have hi8:i+1<=9:=by
        by_cases h:i=9
        · have:=h9 h;omega
        · omega
       have:=LV r (i+1) (v+(c % 128)*2 ^ (7*i)) (fun x hx=>hb x (by simp [hx])) hi8 n0 n1
       refine ⟨this.1,this.2.1,?_⟩
       simp only [List.length_cons]
       omega
     · rw [if_neg h2]
       by_cases h3:c=0/\0<i
       · rw [if_pos h3];simp
       · rw [if_neg h3]
         obtain ⟨m0,m1⟩:=agL (d:=c % 128) hi (by omega) (by omega) (fun h=>by have:=h9 h;omega)
         have hp:=(Zj hi).1
         refine ⟨n0,?_,by simp only [List.length_cons];omega⟩
         by_cases hi9:i=9
         · have:=h9 hi9
           subst this
           subst hi9
           have e:((1:Int) % 128)*2 ^ (7*9)=9223372036854775808:=by decide
           have e2:(2:Int) ^ (7*9)=9223372036854775808:=by decide
           rw [e2] at h1
           show v+1 % 128*2 ^ (7*9)<_
           rw [e]
           omega
         · have hp9:(2:Int) ^ (7*(i+1))<=9223372036854775808:=(Zj (by omega)).1
           show v+c % 128*2 ^ (7*i)<_
           omega
theorem RF {l:List Int} {s:RS} (h:fq l s):0<=(qQ l s).2.1/\(qQ l s).2.1<18446744073709551616/\s.at_+(qQ l s).2.2<=l.length:=by
 have:=LV (l.drop s.at_) 0 0 (fun x hx=>h.b.b x (List.mem_of_mem_drop hx)) (by decide) (by decide) (by decide)
 have hat:=h.at_
 rw [List.length_drop] at this
 refine ⟨this.1,this.2.1,?_⟩
 unfold qQ
 omega
theorem qh {l:List Int} {s:RS} (h:fq l s) {e:Int} (he:e≠0) {p:Nat} (hp:p<=l.length):fq l (kN s e p):=by
 unfold kN
 split
 · exact h
 · exact ⟨h.n,hp,h.b,fun h=>absurd h he⟩
theorem l7:mY 0:=⟨by decide,by decide⟩
theorem dG {l:List Int} {s:RS} (h:fq l s):fq l (aR l s).2/\mY (aR l s).1:=by
 obtain ⟨b0,b1,b2⟩:=RF h
 unfold aR
 split
 · exact ⟨h,l7⟩
 · split
   · exact ⟨⟨h.n,b2,h.b,h.bad⟩,b0,b1⟩
   · rename_i hz
     exact ⟨qh h hz h.at_,l7⟩
theorem Dx {l:List Int} {s:RS} (h:fq l s) {v:Int} {s':RS} (e:(v,s')=aR l s):fq l s'/\mY v:=by
 have:=dG h
 rw [<- e] at this
 exact this
def dh (l:List Int) (s:RS) (most:Int):List Int×RS:=if (aK l s most).2.e != 0 then ([],(aK l s most).2) else ((l.drop (aK l s most).2.at_).take (aK l s most).1.toNat,⟨(aK l s most).2.at_+(aK l s most).1.toNat,(aK l s most).2.e,(aK l s most).2.bad⟩)
def kS (l:List Int) (s:RS):Int:=if s.e=0/\s.at_<l.length then 15 else s.e
theorem mP {s:RS} {e:Int} {p:Nat} (he:e≠0):(kN s e p).e≠0:=by
 unfold kN
 split
 · rename_i h;simpa using h
 · exact he
theorem fJ {l:List Int} {s:RS} {most:Int} (h:fq l s):fq l (aK l s most).2/\mY (aK l s most).1/\((aK l s most).2.e=0->((aK l s most).2.at_:Int)+(aK l s most).1<=l.length):=by
 obtain ⟨h1,h2⟩:=dG h
 have hat:=h.at_
 unfold aK
 split
 · rename_i he
   refine ⟨h1,l7,fun hz=>?_⟩
   have hz:(aR l s).2.e=0:=hz
   simp [hz] at he
 · split
   · refine ⟨qh h1 (by decide) hat,l7,fun hz=>?_⟩
     exfalso
     exact absurd hz (mP (by decide))
   · split
     · refine ⟨qh h1 (by decide) hat,l7,fun hz=>?_⟩
       exfalso
       exact absurd hz (mP (by decide))
     · exact ⟨h1,h2,fun _=>by omega⟩
theorem lV {l:List Int} {s:RS} {most:Int} (h:fq l s):fq l (dh l s most).2:=by
 obtain ⟨h1,h2,h3⟩:=fJ (most:=most) h
 unfold dh
 split
 · exact h1
 · rename_i he
   have he:(aK l s most).2.e=0:=by simpa using he
   have:=h3 he
   have:=h2.lo
   exact ⟨h1.n,by show (aK l s most).2.at_+(aK l s most).1.toNat<=l.length;omega,h1.b,h1.bad⟩
def strOf (t:List Int):ByteArray:=Ig t.length (ah aJ t)
def xK (l:List Int) (s:RS) (most:Int):ByteArray×RS:=(strOf (dh l s most).1,(dh l s most).2)
def pR (l:List Int) (s:RS):kJ×RS :=
 let a:=xK l s 32;let b:=xK l a.2 32
 if b.2.e != 0 then (default,b.2) else (⟨a.1,b.1⟩,b.2)
def fF (l:List Int) (s:RS):Rec×RS :=
 let a:=aR l s;let b:=xK l a.2 32;let c:=dh l b.2 256;let d:=aR l c.2;let e:=aR l d.2
 if e.2.e != 0 then (default,e.2) else (⟨a.1,b.1,c.1,d.1,e.1⟩,e.2)
theorem Kk:yI 32:=⟨by decide,by decide⟩
theorem Nk:yI 256:=⟨by decide,by decide⟩
theorem Bb {l:List Int} {s:RS} {most:Int} (h:fq l s) {v:ByteArray} {s':RS} (e:(v,s')=xK l s most):fq l s':=by
 rw [show s'=(dh l s most).2 from congrArg Prod.snd e]
 exact lV h
theorem Ku {l:List Int} {s:RS} {most:Int} (h:fq l s) {v:List Int} {s':RS} (e:(v,s')=dh l s most):fq l s':=by
 rw [show s'=(dh l s most).2 from congrArg Prod.snd e]
 exact lV h
theorem acT {l:List Int} {s:RS} (h:fq l s):fq l (pR l s).2:=by
 have h1:fq l (xK l (xK l s 32).2 32).2:=Bb (Bb h rfl) rfl
 unfold pR
 simp only
 split<;>exact h1
theorem t_ {l:List Int} {s:RS} (h:fq l s):fq l (fF l s).2:=by
 have h1:fq l (aR l (aR l (dh l (xK l (aR l s).2 32).2 256).2).2).2:=(dG (dG (lV (Bb (dG h).1 rfl))).1).1
 unfold fF
 simp only
 split<;>exact h1
def qL (l:List Int):Nat->RS->List Rec->List Rec×RS
 | 0,s,a=>(a,s)
 | n+1,s,a=>if s.e != 0 then ([],s) else qL l n (fF l s).2 (a++[(fF l s).1])
def yx (l:List Int) (s:RS) (most:Int):List Rec×RS:=qL l (aK l s most).1.toNat (aK l s most).2 []
theorem ab1 {s t:RS} (h1:s.at_=t.at_) (h2:s.e=t.e) (h3:s.bad=t.bad):s=t:=by
 cases s;cases t;simp_all
theorem agw (l:List Rec):∀ k,k<l.length->∀ j,j<5->fC (ah encR l k j)=true:=by
 intro k hk j hj
 have:j=0∨j=1∨j=2∨j=3∨j=4:=by omega
 rcases this with rfl | rfl | rfl | rfl | rfl<;>rfl
theorem afH {l:List Int} (hl:LOk l) (hb:Bytes l):fq l default:=⟨hl.n,Nat.zero_le _,hb,fun _=>rfl⟩
structure yO (l:List Int):Prop where
 n:LOk l
 b:Bytes l
def dem:AV->AV
 | .ys _ sz n c=>.ys false sz n c
 | a=>a
theorem Mt {H:HH} (hH:(H true).le (H false)) {a:AV} {E:Env} {v:Value} (h:Rel a H E v):Rel (dem a) H E v:=by
 cases a with
 | ys b sz n c =>
   cases b with
   | false=>exact h
   | true =>
     obtain ⟨ad,cap,hu,hn,hk⟩:=h
     refine ⟨ad,cap,hu,hn,fun h0=>?_⟩
     obtain ⟨a',ha,hk⟩:=hk h0
     refine ⟨a',ha,fun k hkn j hj=>?_⟩
     obtain ⟨x,hx,h1,h2⟩:=hk k hkn j hj
     refine ⟨x,IH.oM hH hx,h1,Rel.mono (c k j) (fun b=>?_) h2⟩
     cases b with
     | false=>exact hH
     | true=>exact IH.le_refl _
 | _=>exact h
theorem IB {H:HH} (hH:(H true).le (H false)) {E:Env}:∀ {l:List AV} {vs:List Value},aA l H E vs->aA (l.map dem) H E vs
 | [],_,h=>h
 | _::_,_,h=>by
   obtain ⟨v,r,hv,h1,h2⟩:=h
   exact ⟨v,r,hv,Mt hH h1,IB hH h2⟩
theorem D6 {P:Program} {f:FuncId} {args:List AV} {M M':List ay} {r r':AV} {mv:List Nat} (hr:∀ (H:HH) (E:Env) (v:Value),(H true).le (H false)->Rel r H E v->Rel r' H E v) (h:dD P f args M r M' mv):dD P f args M r' M' mv:=by
 intro H E w vals hC hargs
 refine (h H E w vals hC hargs).mono ?_
 rintro e w' ⟨v,H',E',he,hv,hc,hev⟩
 exact ⟨v,H',E',he,hr _ _ _ hc.tf.1 hv,hc,hev⟩
def gH (l:List Int) (s:RS):P.Producer×RS :=
 let a:=aR l s;let b:=aR l a.2;let c:=gZ l b.2;let d:=aR l c.2
 (⟨a.1,b.1,c.1,d.1⟩,d.2)
def jN (l:List Int) (s:RS):Con×RS :=
 let a:=xK l s 32;let b:=aR l a.2
 (⟨a.1,b.1⟩,b.2)
def eT {α:Type} (f:RS->α×RS):Nat->RS->List α->List α×RS
 | 0,s,a=>(a,s)
 | n+1,s,a=>eT f n (f s).2 (a++[(f s).1])
def nJ (l:List Int) (s:RS):List P.Producer×RS:=eT (gH l) (aK l s 256).1.toNat (aK l s 256).2 []
def IZ (l:List Int) (s:RS):List Con×RS:=eT (jN l) (aK l s 64).1.toNat (aK l s 64).2 []
structure Pm where
 rng:kJ
 epoch:Int
 frozen:Int
 recs:List Rec
structure PQ (l:List Int) (t:List P.Producer) (s':RS) where
 n:Nat
 s:RS
 a:List P.Producer
 e:eT (gH l) n s a=(t,s')
 h:fq l s
 m:a.length+n<=100000
structure CQ (l:List Int) (t:List Con) (s':RS) where
 n:Nat
 s:RS
 a:List Con
 e:eT (jN l) n s a=(t,s')
 h:fq l s
 m:a.length+n<=100000
def Lf (l:List Int):Pm×RS :=
 let g:=pR l default;let e:=aR l g.2;let f:=aR l e.2;let r:=yx l f.2 4096
 (⟨g.1,e.1,f.1,r.1⟩,r.2)
def wH (l:List Int):Part×RS :=
 let h:=Lf l;let p:=nJ l h.2;let c:=IZ l p.2
 (⟨h.1.rng,h.1.epoch,h.1.frozen,h.1.recs,p.1,c.1⟩,c.2)
def nH (l:List Int):Part×Int:=if kS l (wH l).2=0/\aH (wH l).1=true then ((wH l).1,0) else (default,165)
def Ld (p:Part):List AV:=[.y (.string p.rng.lo),.y (.string p.rng.hi),.y (.int .u64 p.epoch),.y (.int .u64 p.frozen),dL false p.recs,P.bg true p.prods,dB true p.cons]
def rpR (p:Part) (e:Int):T An:=.ret (.tup [.agg (Ld p),.y (.int .i64 e)],[],[])
structure RpP (l:List Int) where
 g:kJ
 s1:RS
 ep:Int
 s2:RS
 fr:Int
 s3:RS
 rc:List Rec
 s4:RS
 n1:Int
 s5:RS
 t6:List P.Producer
 s6:RS
 n2:Int
 s7:RS
 t8:List Con
 s8:RS
 q:PQ l t6 s6
 r:CQ l t8 s8
abbrev RpP.hd {l:List Int} (x:RpP l):Pm:=⟨x.g,x.ep,x.fr,x.rc⟩
abbrev RpP.p {l:List Int} (x:RpP l):Part:=⟨x.g,x.ep,x.fr,x.rc,x.t6,x.t8⟩
theorem qj {l:List Int} {s:RS} (h:fq l s):fq l (gZ l s).2:=by
 unfold gZ
 split
 · exact h
 · split
   · exact qh h (by decide) h.at_
   · split
     · exact qh h (by decide) h.at_
     · have:=h.at_
       exact ⟨h.n,by show s.at_+1<=l.length;omega,h.b,h.bad⟩
theorem Jp (l:List Int):∀ n s a,fq l s->fq l (qL l n s a).2
 | 0,s,a,h=>h
 | n+1,s,a,h=>by
   unfold qL
   split
   · exact h
   · exact Jp l n _ _ (t_ h)
theorem Jg {l:List Int} {s:RS} {most:Int} (h:fq l s):fq l (yx l s most).2:=Jp l _ _ _ (fJ h).1
theorem aes:yI 64:=⟨by decide,by decide⟩
theorem Ui:yI 4096:=⟨by decide,by decide⟩
theorem Rc {l:List Int} {s:RS} (h:fq l s):fq l (gH l s).2:=(dG (qj (dG (dG h).1).1)).1
theorem ZP {l:List Int} {s:RS} (h:fq l s):fq l (jN l s).2:=(dG (Bb h rfl)).1
theorem Nn {α:Type} {l:List Int} {f:RS->α×RS} (hf:∀ s,fq l s->fq l (f s).2):∀ n s a,fq l s->fq l (eT f n s a).2
 | 0,s,a,h=>h
 | n+1,s,a,h=>by
   unfold eT
   exact Nn hf n _ _ (hf s h)
theorem count_le {l:List Int} {s:RS} {most:Int} (h:fq l s):(aK l s most).1<=max most 0/\0<=(aK l s most).1:=by
 have h2:=(fJ (most:=most) h).2.1.lo
 refine ⟨?_,h2⟩
 unfold aK
 split
 · simp;omega
 · split
   · simp;omega
   · split
     · simp;omega
     · rename_i a b c
       have:¬ (most<0∨most<(aR l s).1):=b
       omega
theorem aeX (l:List P.Producer):∀ k,k<l.length->∀ j,j<4->fC (ah P.ak l k j)=true:=by
 intro k hk j hj
 have:j=0∨j=1∨j=2∨j=3:=by omega
 rcases this with rfl | rfl | rfl | rfl<;>rfl
theorem afx (l:List Con):∀ k,k<l.length->∀ j,j<2->fC (ah aD l k j)=true:=by
 intro k hk j hj
 have:j=0∨j=1:=by omega
 rcases this with rfl | rfl<;>rfl
def agu (p:Part) (e:Int):T An:=.ret (.tup [.agg (aX false p),.y (.int .i64 e)],[],[])
theorem Xu {H:HH} (hH:(H true).le (H false)) {p:Part} {e:Int} {E:Env} {v:Value} (h:Rel (.tup [.agg (Ld p),.y (.int .i64 e)]) H E v):Rel (.tup [.agg (aX false p),.y (.int .i64 e)]) H E v:=by
 obtain ⟨vs,hu,a,r,hr,h1,h2⟩:=h
 obtain ⟨us,hu2,h3⟩:=h1
 exact ⟨vs,hu,a,r,hr,⟨us,hu2,IB hH h3⟩,h2⟩
theorem adu {i:Nat} (h:i<=8):(2:Int) ^ (64 - 7*i)=128*2 ^ (64 - 7*(i+1)):=by
 rw [show 64 - 7*i=7+(64 - 7*(i+1)) by omega,Int.pow_add]
 rfl
theorem agx (i:Nat):(2:Int) ^ (7*(i+1))=128*2 ^ (7*i):=by
 rw [show 7*(i+1)=7+7*i by omega,Int.pow_add]
 rfl
theorem aiJ (n:Nat):(0:Int)<2 ^ n:=Int.pow_pos (by decide)
theorem WA (a v p:Int):a+v % 128*p+v / 128*(128*p)=a+v*p:=by
 have h:v=v % 128+128*(v / 128):=by omega
 have e1:v / 128*(128*p)=(128*(v / 128))*p:=by rw [<- Int.mul_assoc,Int.mul_comm (v / 128) 128]
 rw [e1,Int.add_assoc,<- Int.add_mul]
 congr 2
 omega
theorem acZ:∀ (f i:Nat) (v acc:Int) (r:List Int),i<=9->0<=v->(0<i->0<v)->v<2 ^ (64 - 7*i)->v<128 ^ (f+1)->Cm (nP f v++r) i acc=(0,acc+v*2 ^ (7*i),i+(nP f v).length):=by
 have last:∀ (f i:Nat) (v acc:Int) (r:List Int),i<=9->0<=v->(0<i->0<v)->v<2 ^ (64 - 7*i)->v<128->Cm (nP f v++r) i acc=(0,acc+v*2 ^ (7*i),i+(nP f v).length):=by
  intro f i v acc r hi h0 hp hb hv
  rw [nW hv]
  show Cm (v::r) i acc=_
  unfold Cm
  have h9:¬ (i=9/\v≠1):=by
   rintro ⟨rfl,h⟩
   have e:(2:Int) ^ (64 - 7*9)=2:=by decide
   rw [e] at hb
   have:=hp (by decide)
   omega
  have hz:¬ (v=0/\0<i):=by
   rintro ⟨rfl,h⟩
   have:=hp h
   omega
  rw [if_neg h9,if_neg (by omega),if_neg hz]
  have e:v % 128=v:=by omega
  rw [e]
  rfl
 intro f
 induction f with
 | zero=>intro i v acc r hi h0 hp hb hv;exact last 0 i v acc r hi h0 hp hb (by simpa using hv)
 | succ f ih =>
   intro i v acc r hi h0 hp hb hv
   by_cases h:v<128
   · exact last (f+1) i v acc r hi h0 hp hb h
   · have hi8:i<=8:=by
      by_cases h9:i=9
      · subst h9
        have e:(2:Int) ^ (64 - 7*9)=2:=by decide
        rw [e] at hb
        omega
      · omega
     rw [lG (by omega)]
     show Cm ((v % 128+128)::(nP f (v / 128)++r)) i acc=_
     rw [Cm]
     rw [if_neg (by rintro ⟨h9,_⟩;omega),if_pos (by omega)]
     have e:(v % 128+128) % 128=v % 128:=by omega
     rw [e]
     have hb2:v / 128<2 ^ (64 - 7*(i+1)):=by
      rw [adu hi8] at hb
      omega
     have hv2:v / 128<128 ^ (f+1):=by
      have:(128:Int) ^ (f+1+1)=128 ^ (f+1)*128:=Int.pow_succ 128 (f+1)
      rw [this] at hv
      omega
     rw [ih (i+1) (v / 128) (acc+v % 128*2 ^ (7*i)) r (by omega) (by omega) (fun _=>by omega) hb2 hv2]
     rw [agx,WA]
     simp
     omega
theorem Vi {v:Int} (h:mY v) (r:List Int):Cm (au v++r) 0 0=(0,v,(au v).length):=by
 have:=acZ 10 0 v 0 r (by decide) h.lo (fun h=>absurd h (by decide)) (by have:=h.hi;exact this) (by
  have e:(128:Int) ^ (10+1)=151115727451828646838272:=by decide
  have:=h.hi
  omega)
 unfold au
 simpa using this
theorem Rl:∀ (bs:List Int) (i:Nat) (acc w:Int) (n:Nat),(∀ x∈bs,0<=x/\x<256)->i<=9->Cm bs i acc=(0,w,n) ->
 ∃ v r,bs=nP (10 - i) v++r/\0<=v/\(0<i->0<v)/\v<2 ^ (64 - 7*i)/\w=acc+v*2 ^ (7*i)/\n=i+(nP (10 - i) v).length
 | [],i,acc,w,n,_,_,h=>by simp [Cm] at h
 | c::bs,i,acc,w,n,hb,hi,h=>by
   obtain ⟨c0,c1⟩:=hb c (by simp)
   rw [Cm] at h
   by_cases hA:i=9/\c≠1
   · rw [if_pos hA] at h
     simp at h
   · rw [if_neg hA] at h
     have h9:i=9->c=1:=fun h=>by
      by_cases hc:c=1
      · exact hc
      · exact absurd ⟨h,hc⟩ hA
     by_cases h2:128<=c
     · rw [if_pos h2] at h
       have hi8:i<=8:=by
        by_cases h:i=9
        · have:=h9 h;omega
        · omega
       obtain ⟨v,r,q1,q2,q3,q4,q5,q6⟩:=Rl bs (i+1) _ w n (fun x hx=>hb x (by simp [hx])) (by omega) h
       have hv:=q3 (by omega)
       have e1:(c % 128+128*v) % 128+128=c:=by omega
       have e2:(c % 128+128*v) / 128=v:=by omega
       have e3:10 - i=(10 - (i+1))+1:=by omega
       refine ⟨c % 128+128*v,r,?_,by omega,fun _=>by omega,?_,?_,?_⟩
       · rw [e3,lG (by omega),e1,e2,List.cons_append,<- q1]
       · rw [adu hi8]
         omega
       · rw [q5,agx]
         have e4:v*(128*2 ^ (7*i))=(128*v)*2 ^ (7*i):=by rw [<- Int.mul_assoc,Int.mul_comm v 128]
         rw [e4,Int.add_assoc,<- Int.add_mul]
       · rw [q6,e3,lG (by omega),e2]
         simp
         omega
     · rw [if_neg h2] at h
       by_cases h3:c=0/\0<i
       · rw [if_pos h3] at h
         simp at h
       · rw [if_neg h3] at h
         simp at h
         obtain ⟨q1,q2⟩:=h
         refine ⟨c,bs,?_,c0,fun hh=>?_,?_,?_,?_⟩
         · rw [nW (by omega)]
           rfl
         · by_cases hc:c=0
           · exact absurd ⟨hc,hh⟩ h3
           · omega
         · by_cases h:i=9
           · have:=h9 h
             subst this
             subst h
             decide
           · rw [adu (by omega)]
             have:=aiJ (64 - 7*(i+1))
             omega
         · have e:c % 128=c:=by omega
           rw [e] at q1
           exact q1.symm
         · rw [nW (by omega),<- q2]
           rfl
theorem afD {bs:List Int} {w:Int} {n:Nat} (hb:∀ x∈bs,0<=x/\x<256) (h:Cm bs 0 0=(0,w,n)):mY w/\n=(au w).length/\∃ r,bs=au w++r:=by
 obtain ⟨v,r,q1,q2,_,q4,q5,q6⟩:=Rl bs 0 0 w n hb (by decide) h
 have e:w=v:=by rw [q5];simp
 subst e
 exact ⟨⟨q2,by simpa using q4⟩,by rw [q6];simp [au],r,q1⟩
structure wN {α:Type} (l:List Int) (f:RS->α×RS) (enc:α->List Int) (ok:α->Prop):Prop where
 fwd:∀ s x r,fq l s->s.e=0->ok x->l.drop s.at_=enc x++r->f s=(x,⟨s.at_+(enc x).length,0,s.bad⟩)
 bwd:∀ s,fq l s->(f s).2.e=0->s.e=0/\ok (f s).1/\(f s).2=⟨s.at_+(enc (f s).1).length,0,s.bad⟩/\∃ r,l.drop s.at_=enc (f s).1++r
 rok:∀ s,fq l s->fq l (f s).2
theorem iU {l a r:List Int} {n:Nat} (h:l.drop n=a++r):l.drop (n+a.length)=r:=by
 rw [<- List.drop_drop,h]
 simp
theorem Ma {l a r:List Int} {n:Nat} (h:l.drop n=a++r) (hn:n<=l.length):n+a.length<=l.length:=by
 have:=congrArg List.length h
 rw [List.length_drop,List.length_append] at this
 omega
theorem wN.pair {α β:Type} {l:List Int} {f:RS->α×RS} {g:RS->β×RS} {ea:α->List Int} {eb:β->List Int} {oa:α->Prop} {ob:β->Prop} (hf:wN l f ea oa) (hg:wN l g eb ob) :
 wN l (fun s=>(((f s).1,(g (f s).2).1),(g (f s).2).2)) (fun x=>ea x.1++eb x.2) (fun x=>oa x.1/\ob x.2) where
 fwd:=fun s x r h he ho hd=>by
  obtain ⟨a,b⟩:=x
  simp only [List.append_assoc] at hd
  have h1:=hf.fwd s a _ h he ho.1 hd
  have h2:=hf.rok s h
  rw [h1] at h2
  have h3:=hg.fwd _ b r h2 rfl ho.2 (iU hd)
  rw [h1]
  simp only
  rw [h3]
  simp [Nat.add_assoc]
 bwd:=fun s h he=>by
  obtain ⟨b1,b2,b3,r,b4⟩:=hg.bwd _ (hf.rok s h) he
  obtain ⟨a1,a2,a3,r1,a4⟩:=hf.bwd s h b1
  refine ⟨a1,⟨a2,b2⟩,?_,r,?_⟩
  · simp only
    rw [b3,a3]
    simp [Nat.add_assoc]
  · simp only
    have h5:=iU a4
    have h6:(f s).2.at_=s.at_+(ea (f s).1).length:=by rw [a3]
    rw [h6,h5] at b4
    rw [a4,b4]
    simp
 rok:=fun s h=>hg.rok _ (hf.rok s h)
theorem wN.map {α β:Type} {l:List Int} {f:RS->α×RS} {ea:α->List Int} {oa:α->Prop} (hf:wN l f ea oa) (φ:α->β) (ψ:β->α) {eb:β->List Int} {ob:β->Prop} (h1:∀ x,φ (ψ x)=x) (h2:∀ a,oa a->eb (φ a)=ea a/\ob (φ a)) (h3:∀ x,ob x->oa (ψ x)) :
 wN l (fun s=>(φ (f s).1,(f s).2)) eb ob where
 fwd:=fun s x r h he ho hd=>by
  have e:=(h2 _ (h3 x ho)).1
  rw [h1] at e
  rw [e] at hd
  have:=hf.fwd s (ψ x) r h he (h3 x ho) hd
  simp only [this,h1,e]
 bwd:=fun s h he=>by
  obtain ⟨a1,a2,a3,r,a4⟩:=hf.bwd s h he
  obtain ⟨e1,e2⟩:=h2 _ a2
  refine ⟨a1,e2,?_,r,?_⟩
  · simp only [e1];exact a3
  · simp only [e1];exact a4
 rok:=fun s h=>hf.rok s h
theorem wN.whole {α:Type} {l:List Int} {f:RS->α×RS} {enc:α->List Int} {ok:α->Prop} (hf:wN l f enc ok) (d:α):wN l (fun s=>if (f s).2.e != 0 then (d,(f s).2) else f s) enc ok where
 fwd:=fun s x r h he ho hd=>by
  have:=hf.fwd s x r h he ho hd
  simp only [this]
  rfl
 bwd:=fun s h he=>by
  by_cases h0:((f s).2.e != 0)=true
  · rw [if_pos h0] at he
    have he:(f s).2.e=0:=he
    simp [he] at h0
  · rw [if_neg h0] at he ⊢
    exact hf.bwd s h he
 rok:=fun s h=>by
  split
  · exact hf.rok s h
  · exact hf.rok s h
theorem wN.of {α:Type} {l:List Int} {f g:RS->α×RS} {enc:α->List Int} {ok:α->Prop} (hf:wN l f enc ok) (h:∀ s,g s=f s):wN l g enc ok:=by
 rw [show g=f from funext h]
 exact hf
theorem gU (l:List Int):wN l (aR l) au mY where
 fwd:=fun s x r h he ho hd=>by
  have hu:qQ l s=(0,x,(au x).length):=by unfold qQ;rw [hd];exact Vi ho r
  have h0:(s.e != 0)=false:=by simp [he]
  unfold aR
  simp [h0,hu,he]
 bwd:=fun s h he=>by
  unfold aR at he ⊢
  by_cases h0:(s.e != 0)=true
  · rw [if_pos h0] at he
    have he:s.e=0:=he
    simp [he] at h0
  · rw [if_neg h0] at he ⊢
    have hs:s.e=0:=by simpa using h0
    by_cases h1:(qQ l s).1=0
    · rw [if_pos h1] at he ⊢
      obtain ⟨w,n,e⟩:∃ w n,qQ l s=(0,w,n):=⟨(qQ l s).2.1,(qQ l s).2.2,by rw [<- h1]⟩
      obtain ⟨q1,q2,r,q3⟩:=afD (fun x hx=>h.b.b x (List.mem_of_mem_drop hx)) e
      rw [e]
      exact ⟨hs,q1,by simp [q2,hs],r,q3⟩
    · rw [if_neg h1] at he
      exact absurd he (mP h1)
 rok:=fun s h=>(dG h).1
theorem Tw (l:List Int):wN l (gZ l) je (fun _=>True) where
 fwd:=fun s x r h he ho hd=>by
  have h0:(s.e != 0)=false:=by simp [he]
  have hlt:=Ma hd h.at_
  have hl1:(je x).length=1:=rfl
  have hg:l.getD s.at_ 0=if x then 1 else 0:=by
   have:=congrArg (fun z:List Int=>z.getD 0 0) hd
   simp [je] at this
   simpa using this
  unfold gZ
  rw [h0]
  simp only [hg]
  rw [if_neg (by decide),if_neg (by omega)]
  cases x<;>simp [je,he]
 bwd:=fun s h he=>by
  unfold gZ at he ⊢
  by_cases h0:(s.e != 0)=true
  · rw [if_pos h0] at he
    have he:s.e=0:=he
    simp [he] at h0
  · rw [if_neg h0] at he ⊢
    have hs:s.e=0:=by simpa using h0
    by_cases h1:s.at_=l.length
    · rw [if_pos h1] at he
      exact absurd he (mP (by decide))
    · rw [if_neg h1] at he ⊢
      by_cases h2:1<l.getD s.at_ 0
      · rw [if_pos h2] at he
        exact absurd he (mP (by decide))
      · rw [if_neg h2] at he ⊢
        have hat:=h.at_
        have hlt:s.at_<l.length:=by omega
        have hm:l.getD s.at_ 0∈l:=by
         simp only [List.getD,List.getElem?_eq_getElem hlt,Option.getD_some]
         exact List.getElem_mem hlt
        have hb:=h.b.b _ hm
        have hc:l.getD s.at_ 0=0∨l.getD s.at_ 0=1:=by omega
        refine ⟨hs,trivial,?_,l.drop (s.at_+1),?_⟩
        · simp [je,hs]
        · rw [Ih l s.at_ hlt]
          rcases hc with hc | hc<;>rw [hc]<;>rfl
 rok:=fun s h=>qj h
theorem Bt {l:List Int} {s:RS} {most:Int} (he:(aK l s most).2.e=0):aK l s most=aR l s/\(aR l s).2.e=0/\¬ (most<0∨most<(aR l s).1)/\¬ ((l.length:Int) - (aR l s).2.at_<(aR l s).1):=by
 unfold aK at he ⊢
 by_cases h0:((aR l s).2.e != 0)=true
 · rw [if_pos h0] at he
   have he:(aR l s).2.e=0:=he
   simp [he] at h0
 · rw [if_neg h0] at he ⊢
   have hs:(aR l s).2.e=0:=by simpa using h0
   by_cases h1:most<0∨most<(aR l s).1
   · rw [if_pos h1] at he
     exact absurd he (mP (by decide))
   · rw [if_neg h1] at he ⊢
     by_cases h2:(l.length:Int) - (aR l s).2.at_<(aR l s).1
     · rw [if_pos h2] at he
       exact absurd he (mP (by decide))
     · rw [if_neg h2]
       exact ⟨rfl,hs,h1,h2⟩
theorem CJ {l:List Int} {s:RS} {most:Int} {n:Nat} {r:List Int} (h:fq l s) (he:s.e=0) (hn:(n:Int)<=most) (hl:(n:Int)<18446744073709551616) (hr:n<=r.length) (hd:l.drop s.at_=au (n:Int)++r):aK l s most=((n:Int),⟨s.at_+(au (n:Int)).length,0,s.bad⟩):=by
 have hu:=(gU l).fwd s (n:Int) r h he ⟨by omega,hl⟩ hd
 have hle:=Ma hd h.at_
 have hlen:=congrArg List.length (iU hd)
 rw [List.length_drop] at hlen
 unfold aK
 rw [hu]
 simp only
 rw [if_neg (by decide),if_neg (by omega),if_neg (by omega)]
structure abq (most:Int) (t:List Int):Prop where
 n:(t.length:Int)<=most
 n2:(t.length:Int)<18446744073709551616
 b:Bytes t
theorem D7 (l:List Int) (most:Int):wN l (fun s=>dh l s most) aQ (abq most) where
 fwd:=fun s t r h he ho hd=>by
  unfold aQ at hd
  rw [List.append_assoc] at hd
  have hc:=CJ (most:=most) (n:=t.length) h he ho.n ho.n2 (by simp) hd
  have hn:=iU hd
  show dh l s most=_
  unfold dh
  rw [hc]
  simp only [Int.toNat_natCast]
  rw [if_neg (by decide),hn]
  simp [aQ,Nat.add_assoc]
 bwd:=fun s h he=>by
  have he:(dh l s most).2.e=0:=he
  show s.e=0/\abq most (dh l s most).1/\(dh l s most).2=⟨s.at_+(aQ (dh l s most).1).length,0,s.bad⟩/\∃ r,l.drop s.at_=aQ (dh l s most).1++r
  unfold dh at he ⊢
  by_cases h0:((aK l s most).2.e != 0)=true
  · rw [if_pos h0] at he
    have he:(aK l s most).2.e=0:=he
    simp [he] at h0
  · rw [if_neg h0] at he ⊢
    have hc:(aK l s most).2.e=0:=by simpa using h0
    obtain ⟨g1,g2,g3,g4⟩:=Bt hc
    obtain ⟨a1,a2,a3,r,a4⟩:=(gU l).bwd s h g2
    have hrk:=(gU l).rok s h
    rw [g1]
    obtain ⟨w,s1,hw⟩:∃ w s1,aR l s=(w,s1):=⟨_,_,rfl⟩
    rw [hw] at a2 a3 a4 g2 g3 g4 hrk ⊢
    simp only at a2 a3 a4 g2 g3 g4 hrk ⊢
    obtain ⟨n,rfl⟩:=Int.eq_ofNat_of_zero_le a2.lo
    have hat:=hrk.at_
    have hr:l.drop s1.at_=r:=by rw [a3];exact iU a4
    have hlen:n<=r.length:=by rw [<- hr,List.length_drop];omega
    have hhi:=a2.hi
    simp only [Int.toNat_natCast]
    have ht:(r.take n).length=n:=by rw [List.length_take];omega
    rw [hr]
    refine ⟨a1,⟨by rw [ht];omega,by rw [ht];omega,⟨fun x hx=>?_⟩⟩,?_,r.drop n,?_⟩
    · have hx:=List.mem_of_mem_take hx
      rw [<- hr] at hx
      exact h.b.b x (List.mem_of_mem_drop hx)
    · unfold aQ
      rw [ht,a3]
      simp only [List.length_append,ht]
      rw [Nat.add_assoc]
    · unfold aQ
      rw [ht,a4,List.append_assoc,List.take_append_drop]
 rok:=fun s h=>lV h
theorem Al (t:List Int):(strOf t).data.toList=t.map fun x=>UInt8.ofNat x.toNat:=by
 unfold strOf Ig Cx Fp
 simp only [List.map_map]
 refine List.ext_getElem (by simp) fun i h1 h2=>?_
 simp at h1
 simp [ah,h1,byteOf,aJ,Go.Ax.get]
 rfl
theorem z8 {t:List Int} (h:Bytes t):bD (strOf t)=t:=by
 unfold bD
 rw [Al,List.map_map]
 refine (List.map_congr_left fun x hx=>?_).trans (List.map_id t)
 obtain ⟨h0,h1⟩:=h.b x hx
 simp [UInt8.toNat_ofNat]
 omega
theorem KR (s:ByteArray):strOf (bD s)=s:=by
 have:(strOf (bD s)).data=s.data:=by
  apply Array.ext'
  rw [Al]
  unfold bD
  rw [List.map_map]
  refine (List.map_congr_left fun x hx=>?_).trans (List.map_id _)
  simp
 cases s
 simpa [ByteArray.ext_iff] using this
theorem Bv (s:ByteArray):Bytes (bD s):=⟨fun x hx=>by
 unfold bD at hx
 obtain ⟨y,_,rfl⟩:=List.mem_map.1 hx
 have:=y.toNat_lt
 omega⟩
theorem zm (l:List Int) (most:Int):wN l (fun s=>xK l s most) (fun s=>aQ (bD s)) (fun s=>(s.size:Int)<=most/\(s.size:Int)<18446744073709551616) :=
 (D7 l most).map strOf bD KR (fun t ht=>⟨by rw [z8 ht.b],by rw [<- gX,z8 ht.b];exact ⟨ht.n,ht.n2⟩⟩) (fun s hs=>⟨by rw [gX];exact hs.1,by rw [gX];exact hs.2,Bv s⟩)
theorem JG {α:Type} {l:List Int} {f:RS->α×RS} {enc:α->List Int} {ok:α->Prop} (hf:wN l f enc ok):∀ (xs:List α) (s:RS) (a:List α) (r:List Int),fq l s->s.e=0->(∀ x∈xs,ok x)->l.drop s.at_=xs.flatMap enc++r->eT f xs.length s a=(a++xs,⟨s.at_+(xs.flatMap enc).length,0,s.bad⟩)
 | [],s,a,r,h,he,ho,hd=>by
   simp [eT]
   exact ab1 rfl he rfl
 | x::xs,s,a,r,h,he,ho,hd=>by
   rw [List.flatMap_cons,List.append_assoc] at hd
   have h1:=hf.fwd s x _ h he (ho x (by simp)) hd
   have h2:=hf.rok s h
   simp only [List.length_cons]
   unfold eT
   rw [h1] at h2 ⊢
   have:=JG hf xs _ (a++[x]) r h2 rfl (fun y hy=>ho y (by simp [hy])) (iU hd)
   simp only
   rw [this]
   simp [Nat.add_assoc]
theorem Bf {α:Type} {l:List Int} {f:RS->α×RS} {enc:α->List Int} {ok:α->Prop} (hf:wN l f enc ok):∀ (n:Nat) (s:RS) (a:List α),fq l s->(eT f n s a).2.e=0->s.e=0/\∃ xs r,xs.length=n/\(∀ x∈xs,ok x)/\(eT f n s a).1=a++xs/\l.drop s.at_=xs.flatMap enc++r/\(eT f n s a).2=⟨s.at_+(xs.flatMap enc).length,0,s.bad⟩
 | 0,s,a,h,he=>by
   have he:s.e=0:=he
   exact ⟨he,[],l.drop s.at_,rfl,fun x hx=>absurd hx (by simp),by simp [eT],by simp,by simp [eT];exact ab1 rfl he rfl⟩
 | n+1,s,a,h,he=>by
   unfold eT at he ⊢
   obtain ⟨b1,xs,r,b2,b3,b4,b5,b6⟩:=Bf hf n _ _ (hf.rok s h) he
   obtain ⟨a1,a2,a3,r1,a4⟩:=hf.bwd s h b1
   refine ⟨a1,(f s).1::xs,r,by simp [b2],fun x hx=>?_,?_,?_,?_⟩
   · rcases List.mem_cons.1 hx with rfl | hx
     · exact a2
     · exact b3 x hx
   · rw [b4];simp
   · have h5:=iU a4
     have h6:(f s).2.at_=s.at_+(enc (f s).1).length:=by rw [a3]
     rw [h6,h5] at b5
     rw [a4,b5]
     simp
   · rw [b6,a3]
     simp [Nat.add_assoc]
theorem Ho {α:Type} {enc:α->List Int} {ok:α->Prop} (hp:∀ x,ok x->1<=(enc x).length):∀ xs:List α,(∀ x∈xs,ok x)->xs.length<=(xs.flatMap enc).length
 | [],_=>by simp
 | a::xs,h=>by
   have h1:=hp a (h a (by simp))
   have h2:=Ho hp xs fun x hx=>h x (by simp [hx])
   simp only [List.flatMap_cons,List.length_append,List.length_cons]
   omega
structure vN {α:Type} (most:Int) (ok:α->Prop) (xs:List α):Prop where
 n:(xs.length:Int)<=most
 n2:(xs.length:Int)<18446744073709551616
 ok:∀ x∈xs,ok x
theorem zK {α:Type} {l:List Int} {f:RS->α×RS} {enc:α->List Int} {ok:α->Prop} (hf:wN l f enc ok) (hp:∀ x,ok x->1<=(enc x).length) (most:Int) :
 wN l (fun s=>eT f (aK l s most).1.toNat (aK l s most).2 []) (fun xs=>au (xs.length:Int)++xs.flatMap enc) (vN most ok) where
 fwd:=fun s xs r h he ho hd=>by
  rw [List.append_assoc] at hd
  have hc:=CJ (most:=most) (n:=xs.length) h he ho.n ho.n2 (by have:=Ho hp xs ho.ok;rw [List.length_append];omega) hd
  have hrk:=(fJ (most:=most) h).1
  show eT f (aK l s most).1.toNat (aK l s most).2 []=_
  rw [hc] at hrk ⊢
  simp only [Int.toNat_natCast]
  have:=JG hf xs _ [] r hrk rfl ho.ok (iU hd)
  rw [this]
  simp [Nat.add_assoc]
 bwd:=fun s h he=>by
  have he:(eT f (aK l s most).1.toNat (aK l s most).2 []).2.e=0:=he
  obtain ⟨b1,xs,r,b2,b3,b4,b5,b6⟩:=Bf hf _ _ _ (fJ (most:=most) h).1 he
  obtain ⟨g1,g2,g3,g4⟩:=Bt b1
  obtain ⟨a1,a2,a3,r1,a4⟩:=(gU l).bwd s h g2
  show s.e=0/\vN most ok (eT f (aK l s most).1.toNat (aK l s most).2 []).1/\(eT f (aK l s most).1.toNat (aK l s most).2 []).2=⟨s.at_+(au ((eT f (aK l s most).1.toNat (aK l s most).2 []).1.length:Int)++(eT f (aK l s most).1.toNat (aK l s most).2 []).1.flatMap enc).length,0,s.bad⟩/\∃ r,l.drop s.at_=(au ((eT f (aK l s most).1.toNat (aK l s most).2 []).1.length:Int)++(eT f (aK l s most).1.toNat (aK l s most).2 []).1.flatMap enc)++r
  rw [b4,b6]
  rw [g1] at b2 b5 ⊢
  have e:(xs.length:Int)=(aR l s).1:=by have:=a2.lo;omega
  simp only [List.nil_append]
  rw [e]
  refine ⟨a1,⟨by omega,by have:=a2.hi;omega,b3⟩,?_,r,?_⟩
  · rw [a3];simp [Nat.add_assoc]
  · have h5:=iU a4
    have h6:(aR l s).2.at_=s.at_+(au (aR l s).1).length:=by rw [a3]
    rw [h6,h5] at b5
    rw [a4,b5]
    simp
 rok:=fun s h=>Nn (fun s h=>hf.rok s h) _ _ _ (fJ h).1
structure yh (x:Rec):Prop where
 u:Ru x
 k:x.key.size<=32
 v:x.val.length<=256
 b:Bytes x.val
theorem FK (l:List Int):wN l (fF l) iZ yh:=by
 have h:=((gU l).pair ((zm l 32).pair ((D7 l 256).pair ((gU l).pair (gU l))))).map (β:=Rec) (fun a=>⟨a.1,a.2.1,a.2.2.1,a.2.2.2.1,a.2.2.2.2⟩) (fun x=>(x.off,x.key,x.val,x.prod,x.seq)) (eb:=iZ) (ob:=yh) (fun x=>rfl)
  (fun a ha=>by
    obtain ⟨h1,h2,h3,h4,h5⟩:=ha
    refine ⟨by simp [iZ],⟨h1,h4,h5⟩,?_,?_,h3.b⟩
    · have:=h2.1;show a.2.1.size<=32;omega
    · have:=h3.n;show a.2.2.1.length<=256;omega)
  (fun x hx=>⟨hx.u.off,⟨by have:=hx.k;show (x.key.size:Int)<=32;omega,by have:=hx.k;show (x.key.size:Int)<_;omega⟩,⟨by have:=hx.v;show (x.val.length:Int)<=256;omega,by have:=hx.v;show (x.val.length:Int)<_;omega,hx.b⟩,hx.u.prod,hx.u.seq⟩)
 exact (h.whole default).of fun s=>rfl
structure QC (r:kJ):Prop where
 lo:r.lo.size<=32
 hi:r.hi.size<=32
theorem Yi (l:List Int):wN l (pR l) fU QC:=by
 have h:=((zm l 32).pair (zm l 32)).map (β:=kJ) (fun a=>⟨a.1,a.2⟩) (fun x=>(x.lo,x.hi)) (eb:=fU) (ob:=QC) (fun x=>rfl)
  (fun a ha=>⟨rfl,by have:=ha.1.1;show a.1.size<=32;omega,by have:=ha.2.1;show a.2.size<=32;omega⟩)
  (fun x hx=>⟨⟨by have:=hx.lo;show (x.lo.size:Int)<=32;omega,by have:=hx.lo;show (x.lo.size:Int)<_;omega⟩,⟨by have:=hx.hi;show (x.hi.size:Int)<=32;omega,by have:=hx.hi;show (x.hi.size:Int)<_;omega⟩⟩)
 exact (h.whole default).of fun s=>rfl
theorem Qu (l:List Int):wN l (gH l) jL tT:=by
 have h:=((gU l).pair ((gU l).pair ((Tw l).pair (gU l)))).map (β:=P.Producer) (fun a=>⟨a.1,a.2.1,a.2.2.1,a.2.2.2⟩) (fun x=>(x.id,x.seq,x.here,x.offset)) (eb:=jL) (ob:=tT) (fun x=>rfl)
  (fun a ha=>⟨by simp [jL],ha.1,ha.2.1,ha.2.2.2⟩) (fun x hx=>⟨hx.id,hx.seq,trivial,hx.offset⟩)
 exact h.of fun s=>rfl
structure MI (x:Con):Prop where
 n:x.name.size<=32
 o:mY x.off
theorem Wz (l:List Int):wN l (jN l) pU MI:=by
 have h:=((zm l 32).pair (gU l)).map (β:=Con) (fun a=>⟨a.1,a.2⟩) (fun x=>(x.name,x.off)) (eb:=pU) (ob:=MI) (fun x=>rfl)
  (fun a ha=>⟨rfl,by have:=ha.1.1;show a.1.size<=32;omega,ha.2⟩)
  (fun x hx=>⟨⟨by have:=hx.n;show (x.name.size:Int)<=32;omega,by have:=hx.n;show (x.name.size:Int)<_;omega⟩,hx.o⟩)
 exact h.of fun s=>rfl
theorem uD (l:List Int):∀ n s a,(qL l n s a).2.e=0∨(eT (fF l) n s a).2.e=0->fq l s->qL l n s a=eT (fF l) n s a
 | 0,s,a,_,_=>rfl
 | n+1,s,a,h,hs=>by
   unfold qL eT at *
   by_cases h0:(s.e != 0)=true
   · exfalso
     have hne:s.e≠0:=by simpa using h0
     rw [if_pos h0] at h
     rcases h with h | h
     · exact hne h
     · obtain ⟨b1,_⟩:=Bf (FK l) n _ _ (t_ hs) h
       exact hne ((FK l).bwd s hs b1).1
   · rw [if_neg h0] at h ⊢
     exact uD l n _ _ h (t_ hs)
theorem U9 (l:List Int) (most:Int):wN l (fun s=>yx l s most) IY (vN most yh):=by
 have h:=zK (FK l) (fun x _=>RH x) most
 refine ⟨fun s x r hs he ho hd=>?_,fun s hs he=>?_,fun s hs=>Jg hs⟩
 · have h1:=h.fwd s x r hs he ho hd
   have h2:=uD l _ _ [] (.inr (by rw [h1])) (fJ (most:=most) hs).1
   exact h2.trans h1
 · have h2:yx l s most=_:=uD l _ _ [] (.inl he) (fJ (most:=most) hs).1
   have h3:=h.bwd s hs (by have:=he;rw [h2] at this;exact this)
   rw [h2]
   exact h3
end J
namespace R
def byL (l:List Int):List UInt8:=(List.range l.length).map fun k=>UInt8.ofNat (l.getD k 0).toNat
def Ws (x y:Rec):Bool:=x.off==y.off&&(x.key.data.toList==y.key.data.toList&&(byL x.val==byL y.val&&(x.prod==y.prod&&x.seq==y.seq)))
def gJ (a b:List Rec) (k:Nat):Bool:=(List.range' k (a.length - k)).all fun j=>Ws (a.getD j default) (b.getD j default)
def YC (b1 b2:Bool) (a b:List Rec) (k:Nat):List AV:=mkT 82 [(0,dL b1 a),(1,dL b2 b),(4,.s (.bool false)),(5,.y (.int .i64 k))]
def smS (r:Bool):Exit×List AV×List ay:=match r with
 | true=>(.exit 0,mkT 82 [],[])
 | false=>(.ret,mkT 82 [(4,.s (.bool false))],[])
def YB (a b:List Rec) (k:Nat):T Bool:=.ite (gJ a b k) (.ret true) (.ret false)
def abb (b1:Bool) (b2:Bool) (a:List Rec) (b:List Rec) (k:Nat):Prop :=
 (decide ((↑k:Int)<(↑(List.length a):Int))=true->(true&&decide ((↑k:Int)<(↑(List.length a):Int)))=true/\(true&&decide ((↑k:Int)<(↑(List.length b):Int)))=true/\(((List.getD a (Int.toNat (↑k:Int)) (@default Rec instInhabitedRec)).off != (List.getD b (Int.toNat (↑k:Int)) (@default Rec instInhabitedRec)).off)=true->(gJ a b k=true->False)/\(gJ a b k=false->(false=false/\True)/\True/\true=true))/\(((List.getD a (Int.toNat (↑k:Int)) (@default Rec instInhabitedRec)).off != (List.getD b (Int.toNat (↑k:Int)) (@default Rec instInhabitedRec)).off)=false->(true&&decide ((↑k:Int)<(↑(List.length a):Int)))=true/\(true&&decide ((↑k:Int)<(↑(List.length b):Int)))=true/\((!(List.getD a (Int.toNat (↑k:Int)) (@default Rec instInhabitedRec)).key.data.toList==(List.getD b (Int.toNat (↑k:Int)) (@default Rec instInhabitedRec)).key.data.toList)=true->(gJ a b k=true->False)/\(gJ a b k=false->(false=false/\True)/\True/\true=true))/\((!(List.getD a (Int.toNat (↑k:Int)) (@default Rec instInhabitedRec)).key.data.toList==(List.getD b (Int.toNat (↑k:Int)) (@default Rec instInhabitedRec)).key.data.toList)=false->(true&&decide ((↑k:Int)<(↑(List.length a):Int)))=true/\(∀ (k_1:Nat),k_1<List.length (List.getD a (Int.toNat (↑k:Int)) (@default Rec instInhabitedRec)).val->true=true)/\(true&&decide ((↑k:Int)<(↑(List.length b):Int)))=true/\(∀ (k_1:Nat),k_1<List.length (List.getD b (Int.toNat (↑k:Int)) (@default Rec instInhabitedRec)).val->true=true)/\((!List.map (fun (a:AV)=>match match a with | AV.s (Value.int IntKind.u8 n)=>some n | AV.y (Value.int IntKind.u8 n)=>some n | x=>none with | some n=>UInt8.ofNat (Int.toNat n) | none=>(0:UInt8)) (List.map (fun (k_1:Nat)=>AV.y (Value.int IntKind.u8 (List.getD (List.getD a (Int.toNat (↑k:Int)) (@default Rec instInhabitedRec)).val k_1 (0:Int)))) (List.range (List.length (List.getD a (Int.toNat (↑k:Int)) (@default Rec instInhabitedRec)).val)))==List.map (fun (a:AV)=>match match a with | AV.s (Value.int IntKind.u8 n)=>some n | AV.y (Value.int IntKind.u8 n)=>some n | x=>none with | some n=>UInt8.ofNat (Int.toNat n) | none=>(0:UInt8)) (List.map (fun (k_1:Nat)=>AV.y (Value.int IntKind.u8 (List.getD (List.getD b (Int.toNat (↑k:Int)) (@default Rec instInhabitedRec)).val k_1 (0:Int)))) (List.range (List.length (List.getD b (Int.toNat (↑k:Int)) (@default Rec instInhabitedRec)).val))))=true->(gJ a b k=true->False)/\(gJ a b k=false->(false=false/\True)/\True/\true=true))/\((!List.map (fun (a:AV)=>match match a with | AV.s (Value.int IntKind.u8 n)=>some n | AV.y (Value.int IntKind.u8 n)=>some n | x=>none with | some n=>UInt8.ofNat (Int.toNat n) | none=>(0:UInt8)) (List.map (fun (k_1:Nat)=>AV.y (Value.int IntKind.u8 (List.getD (List.getD a (Int.toNat (↑k:Int)) (@default Rec instInhabitedRec)).val k_1 (0:Int)))) (List.range (List.length (List.getD a (Int.toNat (↑k:Int)) (@default Rec instInhabitedRec)).val)))==List.map (fun (a:AV)=>match match a with | AV.s (Value.int IntKind.u8 n)=>some n | AV.y (Value.int IntKind.u8 n)=>some n | x=>none with | some n=>UInt8.ofNat (Int.toNat n) | none=>(0:UInt8)) (List.map (fun (k_1:Nat)=>AV.y (Value.int IntKind.u8 (List.getD (List.getD b (Int.toNat (↑k:Int)) (@default Rec instInhabitedRec)).val k_1 (0:Int)))) (List.range (List.length (List.getD b (Int.toNat (↑k:Int)) (@default Rec instInhabitedRec)).val))))=false->(true&&decide ((↑k:Int)<(↑(List.length a):Int)))=true/\(true&&decide ((↑k:Int)<(↑(List.length b):Int)))=true/\(((List.getD a (Int.toNat (↑k:Int)) (@default Rec instInhabitedRec)).prod != (List.getD b (Int.toNat (↑k:Int)) (@default Rec instInhabitedRec)).prod)=true->(gJ a b k=true->False)/\(gJ a b k=false->(false=false/\True)/\True/\true=true))/\(((List.getD a (Int.toNat (↑k:Int)) (@default Rec instInhabitedRec)).prod != (List.getD b (Int.toNat (↑k:Int)) (@default Rec instInhabitedRec)).prod)=false->(true&&decide ((↑k:Int)<(↑(List.length a):Int)))=true/\(true&&decide ((↑k:Int)<(↑(List.length b):Int)))=true/\(((List.getD a (Int.toNat (↑k:Int)) (@default Rec instInhabitedRec)).seq != (List.getD b (Int.toNat (↑k:Int)) (@default Rec instInhabitedRec)).seq)=true->(gJ a b k=true->False)/\(gJ a b k=false->(false=false/\True)/\True/\true=true))/\(((List.getD a (Int.toNat (↑k:Int)) (@default Rec instInhabitedRec)).seq != (List.getD b (Int.toNat (↑k:Int)) (@default Rec instInhabitedRec)).seq)=false->∃ (j:Nat),List.length a - j<List.length a - k/\(((b1=b1/\List.length a=List.length a/\aj (List.length a) (5:Nat) (ah encR a) (ah encR a))/\(b2=b2/\List.length b=List.length b/\aj (List.length b) (5:Nat) (ah encR b) (ah encR b))/\false=false/\IntKind.wrap IntKind.i64 ((↑k:Int)+(1:Int))=(↑j:Int)/\True)/\True/\true=true)/\true=true/\(gJ a b j=true->(gJ a b k=true->true=true)/\(gJ a b k=false->true=false))/\(gJ a b j=false->(gJ a b k=true->false=true)/\(gJ a b k=false->false=false))))))))/\(decide ((↑k:Int)<(↑(List.length a):Int))=false->(gJ a b k=true->True/\True/\true=true)/\(gJ a b k=false->False))
theorem Qb (b1:Bool) (b2:Bool) (a:List Rec) (b:List Rec) (k:Nat):(bP Tryz.prog (hT _) 73 4 (fun k=>a.length - k) (YC b1 b2 a b) (fun _=>[]) [0,1] (YB a b) smS k)=abb b1 b2 a b k:=by kernel_rfl
def SQ (x y:Con):Bool:=x.name.data.toList==y.name.data.toList&&x.off==y.off
def jd (a b:List Con) (k:Nat):Bool:=(List.range' k (a.length - k)).all fun j=>SQ (a.getD j default) (b.getD j default)
def scT (b1 b2:Bool) (a b:List Con) (k:Nat):List AV:=mkT 26 [(0,dB b1 a),(1,dB b2 b),(4,.s (.bool false)),(5,.y (.int .i64 k))]
def scS (r:Bool):Exit×List AV×List ay:=match r with
 | true=>(.exit 0,mkT 26 [],[])
 | false=>(.ret,mkT 26 [(4,.s (.bool false))],[])
def scO (a b:List Con) (k:Nat):T Bool:=.ite (jd a b k) (.ret true) (.ret false)
def aby (b1:Bool) (b2:Bool) (a:List Con) (b:List Con) (k:Nat):Prop :=
 (decide ((k:Int)<(a.length:Int))=true->(true&&decide ((k:Int)<(a.length:Int)))=true/\(true&&decide ((k:Int)<(b.length:Int)))=true/\((!((a.getD (Int.toNat (k:Int)) default).name.data.toList==(b.getD (Int.toNat (k:Int)) default).name.data.toList&&((a.getD (Int.toNat (k:Int)) default).off==(b.getD (Int.toNat (k:Int)) default).off&&true)))=true->(jd a b k=true->False)/\(jd a b k=false->(false=false/\True)/\True/\true=true))/\((!((a.getD (Int.toNat (k:Int)) default).name.data.toList==(b.getD (Int.toNat (k:Int)) default).name.data.toList&&((a.getD (Int.toNat (k:Int)) default).off==(b.getD (Int.toNat (k:Int)) default).off&&true)))=false->∃ j:Nat,a.length - j<a.length - k/\(((b1=b1/\a.length=a.length/\aj a.length 2 (ah aD a) (ah aD a))/\(b2=b2/\b.length=b.length/\aj b.length 2 (ah aD b) (ah aD b))/\false=false/\IntKind.i64.wrap ((k:Int)+1)=(j:Int)/\True)/\True/\true=true)/\true=true/\(jd a b j=true->(jd a b k=true->true=true)/\(jd a b k=false->true=false))/\(jd a b j=false->(jd a b k=true->false=true)/\(jd a b k=false->false=false))))/\(decide ((k:Int)<(a.length:Int))=false->(jd a b k=true->True/\True/\true=true)/\(jd a b k=false->False))
theorem Sb (b1:Bool) (b2:Bool) (a:List Con) (b:List Con) (k:Nat):(bP Tryz.prog (hT _) 75 4 (fun k=>a.length - k) (scT b1 b2 a b) (fun _=>[]) [0,1] (scO a b) scS k)=aby b1 b2 a b k:=by kernel_rfl
theorem OB {a b:List Con} {k:Nat} (h:a.length<=k):jd a b k=true:=by
 unfold jd
 rw [show a.length - k=0 by omega];rfl
theorem KI {a b:List Con} {k:Nat} (h:k<a.length):jd a b k=(SQ (a.getD k default) (b.getD k default)&&jd a b (k+1)):=by
 unfold jd
 rw [show a.length - k=(a.length - (k+1))+1 by omega,List.range'_succ];rfl
theorem Pk {a b:List Rec} {k:Nat} (h:a.length<=k):gJ a b k=true:=by
 unfold gJ
 rw [show a.length - k=0 by omega];rfl
theorem KM {a b:List Rec} {k:Nat} (h:k<a.length):gJ a b k=(Ws (a.getD k default) (b.getD k default)&&gJ a b (k+1)):=by
 unfold gJ
 rw [show a.length - k=(a.length - (k+1))+1 by omega,List.range'_succ];rfl
theorem WZ (b1 b2:Bool) (a b:List Con) (hl:a.length<=9223372036854775806) (he:a.length=b.length) (k:Nat):aL Tryz.prog 75 4 (aN Tryz.prog 75 4) ⟨scT b1 b2 a b k,[],[]⟩ ((scO a b k).map (bJ [0,1] scS)):=by
 refine dY Tryz.mixed (fun _=>rfl) (fun k=>(Sb b1 b2 a b k).mpr ?_) k
 unfold aby
 by_cases h:k<a.length
 · have hz:decide ((k:Int)<a.length)=true:=by simp;omega
   have hz2:decide ((k:Int)<b.length)=true:=by simp;omega
   have hw:IntKind.i64.wrap ((k:Int)+1)=((k+1:Nat):Int):=by rw [wrap_i64 (by omega) (by omega)];omega
   rw [KI h,Int.toNat_natCast]
   simp only [hz,hz2,hw]
   unfold SQ
   generalize ((a.getD k default).name.data.toList==(b.getD k default).name.data.toList)=q1
   generalize ((a.getD k default).off==(b.getD k default).off)=q2
   cases q1<;>cases q2<;>simp
   exact ⟨k+1,by omega,by omega,by simp⟩
 · have hz:decide ((k:Int)<a.length)=false:=by simp;omega
   simp only [hz,OB (b:=b) (Nat.le_of_not_lt h)]
   simp
theorem YI (b1 b2:Bool) (a b:List Rec) (hl:a.length<=9223372036854775806) (he:a.length=b.length) (k:Nat):aL Tryz.prog 73 4 (aN Tryz.prog 73 4) ⟨YC b1 b2 a b k,[],[]⟩ ((YB a b k).map (bJ [0,1] smS)):=by
 refine dY Tryz.mixed (fun _=>rfl) (fun k=>(Qb b1 b2 a b k).mpr ?_) k
 unfold abb
 by_cases h:k<a.length
 · have hz:decide ((k:Int)<a.length)=true:=by simp;omega
   have hz2:decide ((k:Int)<b.length)=true:=by simp;omega
   have hw:IntKind.i64.wrap ((k:Int)+1)=((k+1:Nat):Int):=by rw [wrap_i64 (by omega) (by omega)];omega
   rw [KM h,Int.toNat_natCast]
   simp only [hz,hz2,hw,List.map_map,Function.comp_def]
   unfold Ws byL
   generalize ((a.getD k default).key.data.toList==(b.getD k default).key.data.toList)=q1
   generalize (List.map (fun (i:Nat)=>UInt8.ofNat (Int.toNat (List.getD (a.getD k default).val i 0))) (List.range (a.getD k default).val.length)==List.map (fun (i:Nat)=>UInt8.ofNat (Int.toNat (List.getD (b.getD k default).val i 0))) (List.range (b.getD k default).val.length))=q2
   have n1:((a.getD k default).off != (b.getD k default).off)=!((a.getD k default).off==(b.getD k default).off):=rfl
   have n2:((a.getD k default).prod != (b.getD k default).prod)=!((a.getD k default).prod==(b.getD k default).prod):=rfl
   have n3:((a.getD k default).seq != (b.getD k default).seq)=!((a.getD k default).seq==(b.getD k default).seq):=rfl
   rw [n1,n2,n3]
   generalize ((a.getD k default).off==(b.getD k default).off)=q3
   generalize ((a.getD k default).prod==(b.getD k default).prod)=q4
   generalize ((a.getD k default).seq==(b.getD k default).seq)=q5
   cases q1<;>cases q2<;>cases q3<;>cases q4<;>cases q5<;>simp
   exact ⟨k+1,by omega,by omega,by simp⟩
 · have hz:decide ((k:Int)<a.length)=false:=by simp;omega
   simp only [hz,Pk (b:=b) (Nat.le_of_not_lt h)]
   simp
def iL (a b:List Rec):Bool:=(a.length==b.length)&&gJ a b 0
def iA (a b:List Con):Bool:=(a.length==b.length)&&jd a b 0
noncomputable def smH (b1 b2:Bool) (a b:List Rec):aC Tryz.prog:=hh _ (mU 73 4 (dM (YC b1 b2 a b) (fun _=>[]) [0,1] (YB a b) smS 0) bO) bN bM
def agH (b1:Bool) (b2:Bool) (a:List Rec) (b:List Rec):Prop :=
 (((a.length:Int) != (b.length:Int))=true->false=iL a b/\True)/\(((a.length:Int) != (b.length:Int))=false->(((b1=b1/\a.length=a.length/\aj a.length 5 (ah encR a) (ah encR a))/\(b2=b2/\b.length=b.length/\aj b.length 5 (ah encR b) (ah encR b))/\false=false/\(0:Int)=0/\True)/\True/\true=true)/\aL Tryz.prog 73 4 (aN Tryz.prog 73 4) { t:=YC b1 b2 a b 0,m:=[],mv:=[]:St } (T.map (bJ [0,1] smS) (YB a b 0))/\(gJ a b 0=true->true=iL a b/\True)/\(gJ a b 0=false->false=iL a b/\True))
theorem aan (b1:Bool) (b2:Bool) (a:List Rec) (b:List Rec):(bf Tryz.prog (smH b1 b2 a b) 73 [dL b1 a,dL b2 b] [] (aZ (iL a b)))=agH b1 b2 a b:=by kernel_rfl
noncomputable def scH (b1 b2:Bool) (a b:List Con):aC Tryz.prog:=hh _ (mU 75 4 (dM (scT b1 b2 a b) (fun _=>[]) [0,1] (scO a b) scS 0) bO) bN bM
def aft (b1:Bool) (b2:Bool) (a:List Con) (b:List Con):Prop :=
 (((a.length:Int) != (b.length:Int))=true->false=iA a b/\True)/\(((a.length:Int) != (b.length:Int))=false->(((b1=b1/\a.length=a.length/\aj a.length 2 (ah aD a) (ah aD a))/\(b2=b2/\b.length=b.length/\aj b.length 2 (ah aD b) (ah aD b))/\false=false/\(0:Int)=0/\True)/\True/\true=true)/\aL Tryz.prog 75 4 (aN Tryz.prog 75 4) { t:=scT b1 b2 a b 0,m:=[],mv:=[]:St } (T.map (bJ [0,1] scS) (scO a b 0))/\(jd a b 0=true->true=iA a b/\True)/\(jd a b 0=false->false=iA a b/\True))
theorem WJ (b1:Bool) (b2:Bool) (a:List Con) (b:List Con):(bf Tryz.prog (scH b1 b2 a b) 75 [dB b1 a,dB b2 b] [] (aZ (iA a b)))=aft b1 b2 a b:=by kernel_rfl
theorem ahY (b1 b2:Bool) (a b:List Rec) (hl:a.length<=9223372036854775806):(aZ (iL a b)).Sat (aB Tryz.prog 73 [dL b1 a,dL b2 b] []):=by
 refine aP (ht:=smH b1 b2 a b) Tryz.mixed rfl ?_
 rw [aan b1 b2 a b]
 unfold agH
 by_cases he:a.length=b.length
 · have:=YI b1 b2 a b hl he 0
   simp [iL,he,this]
 · have he':¬ ((a.length:Int)=b.length):=by omega
   simp [iL,he,he']
theorem aip (b1 b2:Bool) (a b:List Con) (hl:a.length<=9223372036854775806):(aZ (iA a b)).Sat (aB Tryz.prog 75 [dB b1 a,dB b2 b] []):=by
 refine aP (ht:=scH b1 b2 a b) Tryz.mixed rfl ?_
 rw [WJ b1 b2 a b]
 unfold aft
 by_cases he:a.length=b.length
 · have:=WZ b1 b2 a b hl he 0
   simp [iA,he,this]
 · have he':¬ ((a.length:Int)=b.length):=by omega
   simp [iA,he,he']
noncomputable def smC (b1 b2:Bool) (a b:List Rec):dZ Tryz.prog:=⟨73,[dL b1 a,dL b2 b],[],.need (a.length<=9223372036854775806) (aZ (iL a b)),T.Sat.need fun h=>ahY b1 b2 a b h⟩
noncomputable def aeQ (b1 b2:Bool) (a b:List Con):dZ Tryz.prog:=⟨75,[dB b1 a,dB b2 b],[],.need (a.length<=9223372036854775806) (aZ (iA a b)),T.Sat.need fun h=>aip b1 b2 a b h⟩
def eH (p q:Part):Bool:=iL p.recs q.recs&&(P.kR p.prods q.prods&&(iA p.cons q.cons&&((p.rng.lo.data.toList==q.rng.lo.data.toList&&p.rng.hi.data.toList==q.rng.hi.data.toList)&&(p.epoch==q.epoch&&p.frozen==q.frozen))))
noncomputable def afM (b1 b2:Bool) (p q:Part):aC Tryz.prog:=hh _ bO (cs1 19 1 4 (smC b1 b2 p.recs q.recs) (cs1 19 2 4 (P.aa9 b1 b2 p.prods q.prods) (cs1 19 3 4 (aeQ b1 b2 p.cons q.cons) bN))) bM
def ab0 (b1:Bool) (b2:Bool) (p:Part) (q:Part):Prop :=
 ((b1=b1/\p.recs.length=p.recs.length/\aj p.recs.length 5 (ah encR p.recs) (ah encR p.recs))/\(b2=b2/\q.recs.length=q.recs.length/\aj q.recs.length 5 (ah encR q.recs) (ah encR q.recs))/\True)/\True/\p.recs.length<=9223372036854775806/\((b1=b1/\p.prods.length=p.prods.length/\aj p.prods.length 4 (ah P.ak p.prods) (ah P.ak p.prods))/\(b2=b2/\q.prods.length=q.prods.length/\aj q.prods.length 4 (ah P.ak q.prods) (ah P.ak q.prods))/\True)/\True/\p.prods.length<=9223372036854775806/\((b1=b1/\p.cons.length=p.cons.length/\aj p.cons.length 2 (ah aD p.cons) (ah aD p.cons))/\(b2=b2/\q.cons.length=q.cons.length/\aj q.cons.length 2 (ah aD q.cons) (ah aD q.cons))/\True)/\True/\p.cons.length<=9223372036854775806/\(iL p.recs q.recs=true->(P.kR p.prods q.prods=true->(iA p.cons q.cons=true->((p.rng.lo.data.toList==q.rng.lo.data.toList&&(p.rng.hi.data.toList==q.rng.hi.data.toList&&true))=true->((p.epoch==q.epoch)=true->(p.frozen==q.frozen)=eH p q/\True)/\((p.epoch==q.epoch)=false->false=eH p q/\True))/\((p.rng.lo.data.toList==q.rng.lo.data.toList&&(p.rng.hi.data.toList==q.rng.hi.data.toList&&true))=false->false=eH p q/\True))/\(iA p.cons q.cons=false->false=eH p q/\True))/\(P.kR p.prods q.prods=false->false=eH p q/\True))/\(iL p.recs q.recs=false->false=eH p q/\True)
theorem PZ (b1:Bool) (b2:Bool) (p:Part) (q:Part):(bf Tryz.prog (afM b1 b2 p q) 19 [.agg (aX b1 p),.agg (aX b2 q)] [] (aZ (eH p q)))=ab0 b1 b2 p q:=by kernel_rfl
theorem abQ (b1 b2:Bool) (p q:Part) (h:eG p):(aZ (eH p q)).Sat (aB Tryz.prog 19 [.agg (aX b1 p),.agg (aX b2 q)] []):=by
 refine aP (ht:=afM b1 b2 p q) Tryz.mixed rfl ?_
 rw [PZ b1 b2 p q]
 unfold ab0 eH
 have h1:=h.rl
 have h2:=h.pl
 have h3:=h.cl
 have g1:p.recs.length<=9223372036854775806:=by omega
 have g2:p.prods.length<=9223372036854775806:=by omega
 have g3:p.cons.length<=9223372036854775806:=by omega
 generalize iL p.recs q.recs=q1
 generalize P.kR p.prods q.prods=q2
 generalize iA p.cons q.cons=q3
 generalize (p.rng.lo.data.toList==q.rng.lo.data.toList)=q4
 generalize (p.rng.hi.data.toList==q.rng.hi.data.toList)=q5
 generalize (p.epoch==q.epoch)=q6
 generalize (p.frozen==q.frozen)=q7
 cases q1<;>cases q2<;>cases q3<;>cases q4<;>cases q5<;>cases q6<;>simp [g1,g2,g3]
def p0:Part:=⟨⟨ByteArray.empty,ByteArray.empty⟩,1,0,[],[],[]⟩
theorem take_zero {l:List P.Producer} {x:P.Producer}:P.aI l x=0↔P.bE l=true/\P.aS l x.id x.seq=1/\(P.bA l x.id=true∨¬ l.length=256):=by
 unfold P.aI
 by_cases ht:P.bE l=true
 · by_cases h4:P.aS l x.id x.seq=4
   · simp [ht,h4]
   · by_cases h5:P.aS l x.id x.seq=1
     · cases hf:P.bA l x.id
       · by_cases hn:l.length=256
         · simp [ht,h5,hn]
         · simp [ht,h5,hn]
       · simp [ht,h5]
     · simp [ht,h4,h5]
 · simp [ht]
theorem acR {l:List P.Producer} {x:P.Producer} (h:P.bA l x.id=true):(P.gy l x).length<l.length:=by
 have ⟨h1,h2⟩:=P.jm h
 unfold P.gy
 rw [List.length_filter_lt_length_iff_exists]
 exact ⟨_,h1,by simp [P.keep,h2]⟩
theorem adr (l:List P.Producer) (x:P.Producer):(P.gy l x).length<=l.length:=List.length_filter_le _ _
theorem Me {l:List P.Producer} {x:P.Producer} (h:P.aI l x=0) (g:x.here=true∨x.offset=0):P.bE (P.aF l x)=true:=by
 have ⟨h1,h2,h3⟩:=take_zero.1 h
 have ⟨h4,r,n⟩:=(P.Dp l).1 h1
 rw [P.Dp]
 refine ⟨fun z hz=>?_,P.yE r,?_⟩
 · rcases P.jw.1 hz with rfl | ⟨hz,_⟩
   · have hb:=((P.DR l z.id z.seq).1 h2).1
     simp [P.Ck] at hb
     exact ⟨hb.1,hb.2.1,hb.2.2,g⟩
   · exact h4 z hz
 · rw [P.IJ]
   rcases h3 with h3 | h3
   · have:=acR h3;omega
   · have:=adr l x;omega
theorem YZ (l:List P.Producer) (x:P.Producer):jf (l++[x])=(jf l).put x.id x.seq:=by simp [jf]
theorem ze (l:List P.Producer) (a:Int):(Kn.sel (jf l) a=0/\∀ x∈l,x.id≠a)∨∃ x∈l,x.id=a/\Kn.sel (jf l) a=x.seq:=by
 refine D.AA (P:=fun l=>(Kn.sel (jf l) a=0/\∀ x∈l,x.id≠a)∨∃ x∈l,x.id=a/\Kn.sel (jf l) a=x.seq) ?_ ?_ l
 · exact .inl ⟨rfl,fun x hx=>by cases hx⟩
 · intro l x ih
   rw [YZ,D.kX]
   by_cases h:x.id=a
   · rw [if_pos h];exact .inr ⟨x,by simp,h,rfl⟩
   · rw [if_neg h]
     rcases ih with ⟨h1,h2⟩ | ⟨y,h1,h2,h3⟩
     · refine .inl ⟨h1,fun y hy=>?_⟩
       rcases List.mem_append.1 hy with hy | hy
       · exact h2 y hy
       · simp at hy;subst hy;exact h
     · exact .inr ⟨y,by simp [h1],h2,h3⟩
theorem MG {l:List P.Producer} (h:P.rising l) {x:P.Producer} (hx:x∈l):Kn.sel (jf l) x.id=x.seq:=by
 rcases ze l x.id with ⟨_,h2⟩ | ⟨y,h1,h2,h3⟩
 · exact absurd rfl (h2 x hx)
 · rw [h3,P.D_ ((P.ou l).1 h) h1 hx h2]
theorem Nv {l:List P.Producer} (h:P.rising l) (x:P.Producer) (a:Int):Kn.sel (jf (P.aF l x)) a=if a=x.id then x.seq else Kn.sel (jf l) a:=by
 have hr:P.rising (P.aF l x):=P.yE h
 by_cases e:a=x.id
 · subst e
   rw [if_pos rfl]
   exact MG hr (P.jw.2 (.inl rfl))
 · rw [if_neg e]
   rcases ze (P.aF l x) a with ⟨h1,h2⟩ | ⟨y,h1,h2,h3⟩
   · rw [h1]
     rcases ze l a with ⟨h4,_⟩ | ⟨z,h4,h5,_⟩
     · exact h4.symm
     · exact absurd h5 (h2 z (P.jw.2 (.inr ⟨h4,by omega⟩)))
   · rw [h3]
     rcases P.jw.1 h1 with rfl | ⟨h4,_⟩
     · exact absurd h2.symm e
     · rw [<- h2];exact (MG h h4).symm
theorem MJ {l:List P.Producer} (h:P.rising l) {id seq:Int} (hj:P.aS l id seq=1):Kn.sel (jf l) id<seq/\1<=seq:=by
 have ⟨h1,h2⟩:=(P.Hu h id seq).1 hj
 simp [P.Ck] at h1
 refine ⟨?_,h1.2.1⟩
 rcases ze l id with ⟨h3,_⟩ | ⟨y,h3,h4,h5⟩
 · omega
 · have:=h2 y h3 h4;omega
theorem aeB {l:List P.Producer} {x:P.Producer} (h:P.aI l x=0) (a:Int):Kn.sel (jf l) a<=Kn.sel (jf (P.aF l x)) a:=by
 have ⟨h1,h2,_⟩:=take_zero.1 h
 have r:=P.gG h1
 rw [Nv r]
 by_cases e:a=x.id
 · rw [if_pos e,e]
   have:=MJ r h2
   omega
 · rw [if_neg e];exact Int.le_refl _
theorem L9 {g:kJ} {l:List P.Producer} {x:P.Producer} {r:List Rec} (h:P.aI l x=0) (ho:D.BM g (jf l) r):D.BM g (jf (P.aF l x)) r :=
 ⟨fun y hy=>⟨(ho.1 y hy).1,(ho.1 y hy).2.1,Int.le_trans (ho.1 y hy).2.2 (aeB h y.prod)⟩,ho.2⟩
theorem YW {g:kJ} {l:List P.Producer} {x:P.Producer} {r:List Rec} {y:Rec} (h:P.aI l x=0) (hi:y.prod=x.id) (hs:y.seq=x.seq) (hk:fZ g y.key=true) (ho:D.BM g (jf l) r):D.BM g (jf (P.aF l x)) (r++[y]):=by
 have ⟨h1,h2,_⟩:=take_zero.1 h
 have hr:=P.gG h1
 have hn:=MJ hr h2
 have h3:=L9 h ho
 constructor
 · intro z hz
   rcases List.mem_append.1 hz with hz | hz
   · exact h3.1 z hz
   · simp at hz
     subst hz
     refine ⟨hk,by omega,?_⟩
     rw [Nv hr,if_pos hi];omega
 · rw [List.pairwise_append]
   refine ⟨ho.2,by simp,fun a ha b hb=>?_⟩
   simp at hb
   subst hb
   intro e
   have:=(ho.1 a ha).2.2
   rw [e,hi] at this
   omega
theorem Dc:∀ {l:List Con} {x:Con},l.Pairwise (fun a b=>lt a.name b.name=true)->jG l x.name=true->(aF l x).length=l.length
 | [],x,_,h=>by simp [jG] at h
 | y::t,x,hp,h=>by
   rw [sM]
   rw [List.pairwise_cons] at hp
   cases h1:lt y.name x.name
   · by_cases h2:y.name.data=x.name.data
     · simp [h2]
     · exfalso
       simp only [jG,List.any_cons,Bool.or_eq_true] at h
       rcases h with h | h
       · simp [BK] at h
         exact h2 h
       · rw [List.any_eq_true] at h
         obtain ⟨z,hz,e⟩:=h
         have h3:=hp.1 z hz
         simp [BK] at e
         have e2:z.name=x.name:=ByteArray.ext e
         rw [e2,h1] at h3;cases h3
   · simp only [if_true,List.length_cons]
     have h2:jG t x.name=true:=by
      simp only [jG,List.any_cons,Bool.or_eq_true] at h
      rcases h with h | h
      · simp [BK] at h
        have e2:y.name=x.name:=ByteArray.ext h
        rw [e2,D.adP] at h1;cases h1
      · exact h
     rw [Dc hp.2 h2]
theorem CG {l:List Con} (h:bW l=true):∀ z∈l,b_ z.name=true:=by
 intro z hz
 obtain ⟨k,hk,rfl⟩:=List.mem_iff_getElem.1 hz
 simp only [bW,Bool.and_eq_true] at h
 have:=(D.uZ l).1 h.1 k hk
 simp [yM,hk] at this
 exact this.1
theorem Wv {l:List Con} (h1:∀ z∈l,b_ z.name=true) (h2:nQ l) (h3:l.length<=64):bW l=true:=by
 simp only [bW,Bool.and_eq_true,decide_eq_true_eq,h3,and_true]
 rw [D.uZ]
 intro k hk
 have a:=h1 l[k] (List.getElem_mem hk)
 simp only [yM,Bool.and_eq_true]
 refine ⟨by simpa [hk] using a,?_⟩
 by_cases h0:0<k
 · have:=h2 (k - 1) k (by omega) hk
   rw [this];simp
 · simp [h0]
theorem GK {l:List Con} {x:Con} {e:Int} (h:dH l x e=0):bW l=true/\b_ x.name=true/\x.off<=e/\(jG l x.name=true∨l.length≠64):=by
 unfold dH at h
 cases h1:bW l
 · simp [h1] at h
 · cases h2:b_ x.name
   · simp [h1,h2] at h
   · by_cases h3:e<x.off
     · simp [h1,h2,h3] at h
     · cases h4:jG l x.name
       · by_cases h5:l.length=64
         · simp [h1,h2,h3,h4,h5] at h
         · exact ⟨rfl,rfl,by omega,.inr h5⟩
       · exact ⟨rfl,rfl,by omega,.inl rfl⟩
theorem UF {l:List Con} {x:Con} {e:Int} (h:dH l x e=0):bW (aF l x)=true:=by
 obtain ⟨h1,h2,_,h4⟩:=GK h
 refine Wv (put_mem h2 l (CG h1)) (aat (vM h1)) ?_
 have h5:=vG h1
 rcases h4 with h4 | h4
 · rw [Dc ((za l).1 (vM h1)) h4];exact h5
 · have:=Z_ l x;omega
theorem aaD {p:Part} (a:fK p.rng=0) (b:p.epoch≠0) (c:bG p.recs=true) (d:P.bE p.prods=true) (e:bW p.cons=true) (f:D.BM p.rng (jf p.prods) p.recs) (g:∀ x∈p.prods,cB p x=false) (i:∀ x∈p.cons,x.off<=(p.recs.length:Nat)):aH p=true:=by
 have f':=(D.Qm p).2 f
 have g':=D.Gg.2 g
 have i':p.cons.any (bY p.recs.length)=false:=by
  rw [List.any_eq_false]
  intro x hx
  have:=i x hx
  simp [bY];exact this
 simp [aH,a,b,c,d,e,f',g',i']
theorem RX {p:Part} (h:aH p=true):fK p.rng=0/\p.epoch≠0/\bG p.recs=true/\P.bE p.prods=true/\bW p.cons=true/\D.BM p.rng (jf p.prods) p.recs/\(∀ x∈p.prods,cB p x=false)/\∀ x∈p.cons,x.off<=(p.recs.length:Nat):=by
 obtain ⟨a,b,c,d,e,f,g,i⟩:=D.AZ h
 refine ⟨a,b,c,d,e,(D.Qm p).1 f,D.Gg.1 g,fun x hx=>?_⟩
 rw [List.any_eq_false] at i
 have:=i x hx
 simp [bY] at this;exact this
theorem UK {l:List Rec} {x:Rec} (h:kG l x=0):bG l=true/\x.key.size<=32/\x.val.length<=256/\l.length≠4096:=by
 unfold kG at h
 cases h1:bG l
 · simp [h1] at h
 · by_cases h2:32<x.key.size
   · simp [h1,h2] at h
   · by_cases h3:256<x.val.length
     · simp [h1,h2,h3] at h
     · by_cases h4:l.length=4096
       · simp [h1,h2,h3,h4] at h
       · exact ⟨rfl,by omega,by omega,h4⟩
theorem Zv {l:List Rec} {x:Rec} (h:kG l x=0):bG (h_ l x)=true:=by
 obtain ⟨h1,h2,h3,h4⟩:=UK h
 have hl:=j_ h1
 simp only [bG,Bool.and_eq_true,decide_eq_true_eq] at h1 ⊢
 have hL:(h_ l x).length=l.length+1:=by simp [h_]
 refine ⟨(D.qW _).2 fun k hk=>?_,by omega⟩
 by_cases e:k<l.length
 · have:=(D.qW _).1 h1.1 k e
   simpa [h_,List.getElem?_append_left e] using this
 · obtain rfl:k=l.length:=by omega
   have:(h_ l x).getD l.length default=x.to (IntKind.u64.wrap (l.length:Nat)):=by simp [h_]
   rw [this]
   simp [VA,Rec.to,h2,h3]
theorem XY {p:Part} {c:cu} (h:tL p c=0):fZ p.rng c.key=true/\p.frozen=0/\kG p.recs (newR c)=0/\P.aI p.prods (nL p c)=0:=by
 unfold tL at h
 cases h1:fZ p.rng c.key
 · simp [h1] at h
 · by_cases h2:P.aS p.prods c.prod c.seq=2
   · simp [h1,h2] at h
   · by_cases h3:P.aS p.prods c.prod c.seq=3
     · simp [h1,h3] at h
     · by_cases h4:p.frozen=0
       · by_cases h5:kG p.recs (newR c)=0
         · simp [h1,h2,h3,h4,h5] at h
           exact ⟨rfl,h4,h5,h⟩
         · simp [h1,h2,h3,h4,h5] at h
       · simp [h1,h2,h3,h4] at h
theorem WE {p:Part} {c:cu} (h:vE p c=0):p.frozen=0/\qE p c=0/\P.aI p.prods (nM c)=0:=by
 unfold vE at h
 by_cases h2:P.aS p.prods c.prod c.seq=1
 · by_cases h4:p.frozen=0
   · by_cases h5:qE p c=0
     · simp [h2,h4,h5] at h
       exact ⟨h4,h5,h⟩
     · simp [h2,h4,h5] at h
   · simp [h2,h4] at h
 · simp [h2] at h
theorem NH {l:List P.Producer} (h:P.bE l=true):l.length<=256:=by
 simp [P.bE] at h
 exact h.2
theorem acI {p:Part} {c:cu} (hp:D.jH p) (h:aH p=true) (h0:tL p c=0):aH (Rv p c)=true/\D.jH (Rv p c):=by
 obtain ⟨a,b,hl,ht,hc,ho,hlo,ha⟩:=RX h
 obtain ⟨k1,_,k2,k3⟩:=XY h0
 have q1:=Zv k2
 have q2:=Me k3 (.inl rfl)
 have n1:=j_ hl
 have hL:(h_ p.recs (newR c)).length=p.recs.length+1:=by simp [h_]
 have hlast:(h_ p.recs (newR c)).getD p.recs.length default=(newR c).to (IntKind.u64.wrap (p.recs.length:Nat)):=by simp [h_]
 have hold:∀ k,k<p.recs.length->(h_ p.recs (newR c)).getD k default=p.recs.getD k default:=fun k hk=>by simp [h_,List.getElem?_append_left hk]
 refine ⟨aaD a b q1 q2 hc (YW k3 rfl rfl k1 ho) (fun x hx=>?_) (fun x hx=>?_),⟨?_,?_,hp.cl,fun x hx=>?_,hp.co⟩⟩
 · rw [D.uR]
   intro hh
   show x.offset<(h_ p.recs (newR c)).length/\((h_ p.recs (newR c)).getD x.offset.toNat default).prod=x.id/\((h_ p.recs (newR c)).getD x.offset.toNat default).seq=x.seq
   rcases P.jw.1 hx with rfl | ⟨hx,_⟩
   · have e:(nL p c).offset=(p.recs.length:Nat):=rfl
     rw [e,Int.toNat_natCast,hlast,hL]
     exact ⟨by omega,rfl,rfl⟩
   · have h1:=D.uR.1 (hlo x hx) hh
     have h2:=(hp.po x hx).1
     rw [hold x.offset.toNat (by omega),hL]
     exact ⟨by omega,h1.2⟩
 · have h1:=ha x hx
   show x.off<=((h_ p.recs (newR c)).length:Nat)
   omega
 · show (h_ p.recs (newR c)).length<=_
   omega
 · have:=NH q2
   show (P.aF p.prods (nL p c)).length<=_
   omega
 · rcases P.jw.1 hx with rfl | ⟨hx,_⟩
   · show 0<=(p.recs.length:Int)/\(p.recs.length:Int)<18446744073709551616
     omega
   · exact hp.po x hx
theorem aeD {p:Part} {c:cu} (hp:D.jH p) (h:aH p=true) (h0:vE p c=0) (hc0:0<=c.off/\c.off<18446744073709551616):aH (RY p c)=true/\D.jH (RY p c):=by
 obtain ⟨a,b,hl,ht,hc,ho,hlo,ha⟩:=RX h
 obtain ⟨_,k2,k3⟩:=WE h0
 have q2:=Me k3 (.inr rfl)
 have n1:=j_ hl
 have q3:bW (aF p.cons ⟨c.name,c.off⟩)=true:=UF k2
 have q4:c.off<=(p.recs.length:Nat):=by
  have:=(GK k2).2.2.1
  rw [wrap_u64 (by omega) (by omega)] at this
  exact this
 refine ⟨aaD a b hl q2 q3 (L9 k3 ho) (fun x hx=>?_) (put_mem (x:=⟨c.name,c.off⟩) (P:=fun x=>x.off<=(p.recs.length:Nat)) q4 _ ha),⟨hp.rl,?_,?_,fun x hx=>?_,put_mem (x:=⟨c.name,c.off⟩) (P:=fun x=>Ji x.off) hc0 _ hp.co⟩⟩
 · rw [D.uR]
   intro hh
   rcases P.jw.1 hx with rfl | ⟨hx,_⟩
   · exact absurd hh (by simp [nM,P.bK])
   · exact D.uR.1 (hlo x hx) hh
 · have:=NH q2
   show (P.aF p.prods (nM c)).length<=_
   omega
 · have:=vG q3
   show (aF p.cons ⟨c.name,c.off⟩).length<=_
   omega
 · rcases P.jw.1 hx with rfl | ⟨hx,_⟩
   · show 0<=(0:Int)/\(0:Int)<18446744073709551616
     omega
   · exact hp.po x hx
theorem acw {p:Part} {b:Int} (hp:D.jH p) (h:aH p=true):aH (Gc p b)=true/\D.jH (Gc p b):=⟨h,⟨hp.rl,hp.pl,hp.cl,hp.po,hp.co⟩⟩
theorem G_ {p:Part} {c:cu} (h:aH p=true):dQ p c=p∨((dX p c).err=0/\c.kind≠2/\c.kind≠4/\((c.kind=1/\tL p c=0/\dQ p c=Rv p c)∨(c.kind=3/\vE p c=0/\dQ p c=RY p c)∨((c.kind=5∨c.kind=6)/\yC p c=false/\dQ p c=Gc p (JU c)))):=by
 unfold dQ dX Wh PO
 simp only [h]
 by_cases h1:dU c=false
 · simp [h1]
 · by_cases h2:c.epoch=p.epoch
   · by_cases h3:lg p c=0
     · simp only [h1,h2,h3]
       simp
       unfold Iw qp
       unfold lg un9 at h3
       by_cases k1:c.kind=1
       · by_cases e0:tL p c=0
         · simp [k1,e0]
         · simp [k1,e0]
       · by_cases k3:c.kind=3
         · by_cases e0:vE p c=0
           · simp [k3,e0]
           · simp [k3,e0]
         · by_cases k5:c.kind=5
           · cases f:yC p c<;>simp [k5,f]
           · by_cases k6:c.kind=6
             · cases f:yC p c<;>simp [k6,f]
             · simp [k1,k3,k5,k6]
     · simp [h3]
   · simp [h2]
theorem Qt {p:Part} {c:cu} (hp:D.jH p) (h:aH p=true) (hc:0<=c.off/\c.off<18446744073709551616):aH (dQ p c)=true/\D.jH (dQ p c):=by
 rcases G_ (c:=c) h with e | ⟨_,_,_,⟨_,h1,e⟩ | ⟨_,h1,e⟩ | ⟨_,h1,e⟩⟩
 · rw [e];exact ⟨h,hp⟩
 · rw [e];exact acI hp h h1
 · rw [e];exact aeD hp h h1 hc
 · rw [e];exact acw hp h
theorem DY (p:Part):eH p p=true:=by
 have h1:iL p.recs p.recs=true:=by
  simp [iL,gJ,Ws]
 have h2:P.kR p.prods p.prods=true:=by
  unfold P.kR P.dP;simp [P.eqP]
 have h3:iA p.cons p.cons=true:=by
  simp [iA,jd,SQ]
 simp [eH,h1,h2,h3]
end R
namespace J
theorem Wu {l:List Int} (h:yO l):fq l default:=afH h.n h.b
theorem Pg {l:List Int} {s:RS} (h:kS l s=0):s.e=0/\l.length<=s.at_:=by
 unfold kS at h
 by_cases h0:s.e=0/\s.at_<l.length
 · rw [if_pos h0] at h;exact absurd h (by decide)
 · rw [if_neg h0] at h
   refine ⟨h,?_⟩
   by_cases h1:s.at_<l.length
   · exact absurd ⟨h,h1⟩ h0
   · omega
theorem XH {α:Type} {l:List Int} {f:RS->α×RS} {enc:α->List Int} {ok:α->Prop} (hf:wN l f enc ok) (h:yO l) (hd:kS l (f default).2=0):ok (f default).1/\l=enc (f default).1:=by
 obtain ⟨h0,h1⟩:=Pg hd
 obtain ⟨a1,a2,a3,r,a4⟩:=hf.bwd default (Wu h) h0
 have a4:l=enc (f default).1++r:=a4
 rw [a3] at h1
 have h2:=congrArg List.length a4
 rw [List.length_append] at h2
 have h3:r=[]:=List.eq_nil_of_length_eq_zero (by
  have:(default:RS).at_=0:=rfl
  rw [this] at h1
  simp only at h1
  omega)
 refine ⟨a2,?_⟩
 rw [h3,List.append_nil] at a4
 exact a4
theorem Bytes.app {a b:List Int} (ha:Bytes a) (hb:Bytes b):Bytes (a++b):=⟨fun x hx=>by
 rcases List.mem_append.1 hx with hx | hx
 · exact ha.b x hx
 · exact hb.b x hx⟩
theorem Bytes.nil:Bytes []:=⟨fun x hx=>absurd hx (by simp)⟩
theorem Bytes.flat {α:Type} {f:α->List Int}:∀ {l:List α},(∀ x∈l,Bytes (f x))->Bytes (l.flatMap f)
 | [],_=>Bytes.nil
 | a::l,h=>by
   rw [List.flatMap_cons]
   exact (h a (by simp)).app (Bytes.flat fun x hx=>h x (by simp [hx]))
theorem AQ:∀ (f:Nat) (v:Int),0<=v->v<128 ^ (f+1)->Bytes (nP f v)
 | 0,v,h0,h1=>⟨fun x hx=>by
   obtain rfl:=List.mem_singleton.1 hx
   simp at h1
   omega⟩
 | f+1,v,h0,h1=>by
   by_cases h:v<128
   · rw [nW h]
     exact ⟨fun x hx=>by
      obtain rfl:=List.mem_singleton.1 hx
      omega⟩
   · rw [lG (by omega)]
     have:(128:Int) ^ (f+1+1)=128 ^ (f+1)*128:=Int.pow_succ 128 (f+1)
     rw [this] at h1
     have:=AQ f (v / 128) (by omega) (by omega)
     exact ⟨fun x hx=>by
      rcases List.mem_cons.1 hx with rfl | hx
      · omega
      · exact this.b x hx⟩
theorem iV {v:Int} (h:mY v):Bytes (au v):=AQ 10 v h.lo (by
 have e:(128:Int) ^ (10+1)=151115727451828646838272:=by decide
 have:=h.hi
 omega)
theorem MH {t:List Int} (h:Bytes t) (hl:t.length<=140737488355327):Bytes (aQ t):=(iV ⟨by omega,by omega⟩).app h
theorem y7 {s:ByteArray} (hl:s.size<=140737488355327):Bytes (aQ (bD s)):=MH (Bv s) (by rw [gX];exact hl)
theorem XQ (b:Bool):Bytes (je b):=⟨fun x hx=>by
 obtain rfl:=List.mem_singleton.1 hx
 split<;>omega⟩
structure FZ (p:Part):Prop where
 rng:QC p.rng
 epoch:mY p.epoch
 frozen:mY p.frozen
 recs:vN 4096 yh p.recs
 prods:vN 256 tT p.prods
 cons:vN 64 MI p.cons
def stS (l:List Int) (s:RS):Part×RS :=
 let g:=pR l s;let e:=aR l g.2;let f:=aR l e.2;let r:=yx l f.2 4096;let p:=nJ l r.2;let c:=IZ l p.2
 (⟨g.1,e.1,f.1,r.1,p.1,c.1⟩,c.2)
theorem ac0 (l:List Int):wN l (stS l) iy FZ:=by
 have h:=((Yi l).pair ((gU l).pair ((gU l).pair ((U9 l 4096).pair ((zK (Qu l) (fun x _=>OL x) 256).pair (zK (Wz l) (fun x _=>Vd x) 64)))))).map (β:=Part) (fun a=>⟨a.1,a.2.1,a.2.2.1,a.2.2.2.1,a.2.2.2.2.1,a.2.2.2.2.2⟩) (fun x=>(x.rng,x.epoch,x.frozen,x.recs,x.prods,x.cons)) (eb:=iy) (ob:=FZ) (fun x=>rfl)
  (fun a ha=>⟨by simp [iy,PU,A9,Gi],ha.1,ha.2.1,ha.2.2.1,ha.2.2.2.1,ha.2.2.2.2.1,ha.2.2.2.2.2⟩) (fun x hx=>⟨hx.rng,hx.epoch,hx.frozen,hx.recs,hx.prods,hx.cons⟩)
 exact h.of fun s=>rfl
theorem adn {b:List Int} (h:yO b) (h0:(nH b).2=0):iy (nH b).1=b/\aH (nH b).1=true/\FZ (nH b).1:=by
 unfold nH at h0 ⊢
 by_cases hc:kS b (wH b).2=0/\aH (wH b).1=true
 · rw [if_pos hc] at h0 ⊢
   obtain ⟨q1,q2⟩:=XH (ac0 b) h hc.1
   exact ⟨q2.symm,hc.2,q1⟩
 · rw [if_neg hc] at h0
   exact absurd h0 (by decide)
structure afv (x:R.mX):Prop where
 err:yI x.err
 off:mY x.off
 recs:vN 64 yh x.recs
structure WM (c:R.cu):Prop where
 u:ahV c
 b:Bytes c.val
end J
namespace R
def uh (b:Bool) (l:List cu):AV:=.ys b 10 l.length (ah bT l)
def l9 (p:Part) (l:List cu) (i:Nat):Part:=(l.take i).foldl dQ p
noncomputable def Xy (b1 b2:Bool) (p q:Part):dZ Tryz.prog:=⟨19,[.agg (aX b1 p),.agg (aX b2 q)],[],.need (eG p) (aZ (eH p q)),T.Sat.need fun h=>abQ b1 b2 p q h⟩
def sV (l:List cu) (i:Nat):List AV:=mkT 63 [(1,uh true l),(2,.ptr 0 0 0 0),(5,.y (.bool true)),(6,.y (.int .i64 i))]
def stM (f:Nat->Part) (i:Nat):List ay:=[.box 30 (aX true (f i))]
end R
namespace J
noncomputable def ahr:aC Tryz.prog:=Ur (WK Tryz.prog noSh) P.lay
def aaN (u:Unit):Prop :=
 (false=true->(false=true->false=true/\True)/\(false=false->(false=true->false=true/\True)/\(false=false->(false=true->false=true/\True)/\(false=false->true=true/\false=true/\True))))/\(false=false->(false=true->(false=true->false=true/\True)/\(false=false->(false=true->false=true/\True)/\(false=false->(false=true->false=true/\True)/\(false=false->true=true/\false=true/\True))))/\(false=false->(false=true->(false=true->false=true/\True)/\(false=false->true=true/\True))/\(false=false->true=true/\(false=true->false=true/\True)/\(false=false->(false=true->true=true/\false=true/\True)/\(false=false->true=true/\true=true/\True)))))
theorem VO (u:Unit):(bf Tryz.prog ahr 10 [] [] (aZ true))=aaN u:=by kernel_rfl
theorem ag9:(aZ true).Sat (aB Tryz.prog 10 [] []):=by
 refine aP (ht:=ahr) Tryz.mixed rfl ?_
 rw [VO ()]
 unfold aaN
 simp
noncomputable def aiD:dZ Tryz.prog:=⟨10,[],[],aZ true,ag9⟩
end J
end Go.Proofs.YtnbhdjadlbhknaaGreatDoor
