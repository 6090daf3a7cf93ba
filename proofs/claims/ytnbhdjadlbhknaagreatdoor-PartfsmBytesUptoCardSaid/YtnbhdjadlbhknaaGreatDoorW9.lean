import Derived.Test.YtnbhdjadlbhknaaGreatDoorE11
import Derived.Test.YtnbhdjadlbhknaaGreatDoorW1
import Derived.Test.YtnbhdjadlbhknaaGreatDoorW3
import Derived.Test.YtnbhdjadlbhknaaGreatDoorW4
import Derived.Test.YtnbhdjadlbhknaaGreatDoorW6
import Derived.Test.YtnbhdjadlbhknaaGreatDoorW8
set_option linter.unusedVariables false
set_option linter.unusedSimpArgs false
set_option maxRecDepth 1000000
namespace Go.Proofs.YtnbhdjadlbhknaaGreatDoor
open Go.Ax
namespace D
theorem F9 {α:Type} {P:List α->Prop} (h0:P []) (h1:∀ l x,P l->P (l++[x])) (l:List α):P l:=by
 rw [<- List.reverse_reverse l]
 induction l.reverse with
 | nil=>exact h0
 | cons x r ih=>rw [List.reverse_cons];exact h1 _ _ ih
theorem nK (s:Kn) (a b x:Int):Kn.sel (Kn.put s a b) x=if a=x then b else Kn.sel s x:=by
 unfold Kn.sel Kn.put ko yT Al
 by_cases h:a=x
 · simp [h]
 · simp [h]
theorem Mg (l:List Rec) (x:Rec):lN (l++[x])=(lN l).put x.prod x.seq:=by simp [lN]
theorem L8 (l:List Rec) (a:Int):(Kn.sel (lN l) a=0/\∀ x∈l,x.prod≠a)∨∃ x∈l,x.prod=a/\Kn.sel (lN l) a=x.seq:=by
 refine F9 (P:=fun l=>(Kn.sel (lN l) a=0/\∀ x∈l,x.prod≠a)∨∃ x∈l,x.prod=a/\Kn.sel (lN l) a=x.seq) ?_ ?_ l
 · exact .inl ⟨rfl,fun x hx=>by cases hx⟩
 · intro l x ih
   rw [Mg,nK]
   by_cases h:x.prod=a
   · rw [if_pos h];exact .inr ⟨x,by simp,h,rfl⟩
   · rw [if_neg h]
     rcases ih with ⟨h1,h2⟩ | ⟨y,h1,h2,h3⟩
     · refine .inl ⟨h1,fun y hy=>?_⟩
       rcases List.mem_append.1 hy with hy | hy
       · exact h2 y hy
       · simp at hy;subst hy;exact h
     · exact .inr ⟨y,by simp [h1],h2,h3⟩
def up1 (x y:Rec):Prop:=x.prod=y.prod->x.seq<y.seq
def adW (g:kW) (K:Kn) (x:Rec):Prop:=h_ g x.key=true/\0<x.seq/\x.seq<=Kn.sel K x.prod
def NS (g:kW) (K:Kn) (l:List Rec):Prop:=(∀ x∈l,adW g K x)/\l.Pairwise up1
theorem JI (p:Part):∀ n k,p.recs.length - k=n->(bO p k=true↔∀ j,k<=j->j<p.recs.length->okO p j=true):=by
 intro n
 induction n with
 | zero =>
   intro k hk
   rw [tX (by omega)]
   exact ⟨fun _ j h1 h2=>by omega,fun _=>rfl⟩
 | succ n ih =>
   intro k hk
   rw [ql (by omega),Bool.and_eq_true,ih (k+1) (by omega)]
   constructor
   · rintro ⟨h1,h2⟩ j h3 h4
     rcases Nat.eq_or_lt_of_le h3 with rfl | h5
     · exact h1
     · exact h2 j h5 h4
   · intro h
     exact ⟨h k (Nat.le_refl _) (by omega),fun j h1 h2=>h j (by omega) h2⟩
theorem LD {p:Part} {k:Nat} (h:k<p.recs.length):okO p k=true↔h_ p.rng p.recs[k].key=true/\Kn.sel (lN (p.recs.take k)) p.recs[k].prod<p.recs[k].seq/\p.recs[k].seq<=Kn.sel (mU p.prods) p.recs[k].prod:=by
 unfold okO
 simp [List.getElem?_eq_getElem h]
theorem abN {g:kW} {K:Kn}:∀ {l:List Rec},NS g K l->∀ x∈l,x.seq<=Kn.sel (lN l) x.prod:=by
 intro l
 refine F9 (P:=fun l=>NS g K l->∀ x∈l,x.seq<=Kn.sel (lN l) x.prod) ?_ ?_ l
 · intro _ x hx;cases hx
 · intro l y ih h x hx
   rw [Mg,nK]
   have h2:NS g K l:=⟨fun z hz=>h.1 z (by simp [hz]),(List.pairwise_append.1 h.2).1⟩
   have h3:=(List.pairwise_append.1 h.2).2.2
   rcases List.mem_append.1 hx with hx | hx
   · by_cases e:y.prod=x.prod
     · rw [if_pos e]
       have:=h3 x hx y (by simp) e.symm
       omega
     · rw [if_neg e];exact ih h2 x hx
   · simp at hx;subst hx;rw [if_pos rfl];exact Int.le_refl _
theorem SN {p:Part} (h:∀ j,j<p.recs.length->okO p j=true):∀ k,k<=p.recs.length->NS p.rng (mU p.prods) (p.recs.take k):=by
 intro k
 induction k with
 | zero=>intro _;exact ⟨fun x hx=>by simp at hx,by simp⟩
 | succ k ih =>
   intro hk
   have ih:=ih (by omega)
   obtain ⟨o1,o2,o3⟩:=(LD (by omega)).1 (h k (by omega))
   rw [List.take_add_one,List.getElem?_eq_getElem (by omega)]
   have hs:∀ x∈p.recs.take k,x.prod=p.recs[k].prod->x.seq<p.recs[k].seq:=fun x hx e=>by
    have:=abN ih x hx
    rw [e] at this
    omega
   have h0:0<p.recs[k].seq:=by
    rcases L8 (p.recs.take k) p.recs[k].prod with ⟨q,_⟩ | ⟨x,hx,hx2,q⟩
    · omega
    · have:=(ih.1 x hx).2.1
      omega
   refine ⟨fun x hx=>?_,?_⟩
   · rcases List.mem_append.1 hx with hx | hx
     · exact ih.1 x hx
     · simp at hx;subst hx;exact ⟨o1,h0,o3⟩
   · refine List.pairwise_append.2 ⟨ih.2,by simp,fun x hx y hy=>?_⟩
     simp at hy;subst hy
     exact hs x hx
theorem abY (p:Part):bO p 0=true↔NS p.rng (mU p.prods) p.recs:=by
 rw [JI p _ 0 rfl]
 constructor
 · intro h
   have:=SN (fun j hj=>h j (Nat.zero_le _) hj) p.recs.length (Nat.le_refl _)
   rwa [List.take_length] at this
 · intro h j _ hj
   have hx:=h.1 p.recs[j] (List.getElem_mem hj)
   refine (LD hj).2 ⟨hx.1,?_,hx.2.2⟩
   rcases L8 (p.recs.take j) p.recs[j].prod with ⟨q,_⟩ | ⟨x,h1,h2,q⟩
   · have:=hx.2.1;omega
   · rw [q]
     have hp:=h.2
     rw [<- List.take_append_drop j p.recs] at hp
     refine (List.pairwise_append.1 hp).2.2 x h1 _ ?_ h2
     rw [List.mem_iff_getElem]
     exact ⟨0,by simp;omega,by simp⟩
theorem Gt (l:List Rec):bP l 0=true↔∀ k,k<l.length->YL (l.getD k default) k=true:=by
 unfold bP
 rw [List.all_eq_true]
 constructor
 · intro h k hk;exact h k (by simp;omega)
 · intro h k hk
   simp at hk
   exact h k (by omega)
theorem VR {l:List Rec} (h:dN l=true):∀ x∈l,x.key.size<=32/\x.val.length<=256:=by
 intro x hx
 obtain ⟨k,hk,rfl⟩:=List.mem_iff_getElem.1 hx
 simp only [dN,Bool.and_eq_true] at h
 have:=(Gt l).1 h.1 k hk
 simp [YL,hk] at this
 exact ⟨by omega,by omega⟩
theorem KZ (l:List Con) (to:List Int) (h:to.length≠0):(Rx l to l.length).length=l.length:=by
 simp [Rx,h]
theorem Rc {l:List Con} {to:List Int} (h:to.length≠0) {k:Nat} (hk:k<l.length):(Rx l to l.length).getD k default=aeF to (l.getD k default):=by
 simp [Rx,h,hk]
theorem Av (l:List Con):bW l 0=true↔∀ k,k<l.length->Bb l k=true:=by
 unfold bW
 rw [List.all_eq_true]
 constructor
 · intro h k hk;exact h k (by simp;omega)
 · intro h k hk
   simp at hk
   exact h k (by omega)
theorem map_cons {l:List Con} {to:List Int} (ht:to.length≠0) (h:dJ l=true):dJ (Rx l to l.length)=true:=by
 simp only [dJ,Bool.and_eq_true,decide_eq_true_eq] at h ⊢
 rw [KZ l to ht]
 refine ⟨(Av _).2 fun k hk=>?_,h.2⟩
 rw [KZ l to ht] at hk
 have h1:=(Av _).1 h.1 k hk
 unfold Bb at *
 rw [Rc ht hk]
 by_cases h0:0<k
 · rw [Rc ht (show k - 1<l.length by omega)]
   exact h1
 · simp only [h0,decide_false,Bool.false_and] at h1 ⊢
   exact h1
theorem Rn {p:Part}:p.prods.any (dB p)=false↔∀ x∈p.prods,dB p x=false:=by
 rw [List.any_eq_false]
 constructor
 · intro h x hx;simpa using h x hx
 · intro h x hx;simp [h x hx]
end D
namespace R
theorem take_zero {l:List P.Producer} {x:P.Producer}:P.aP l x=0↔P.cK l=true/\P.bg l x.id x.seq=1/\(P.bT l x.id=true∨¬ l.length=256):=by
 unfold P.aP
 by_cases ht:P.cK l=true
 · by_cases h4:P.bg l x.id x.seq=4
   · simp [ht,h4]
   · by_cases h5:P.bg l x.id x.seq=1
     · cases hf:P.bT l x.id
       · by_cases hn:l.length=256
         · simp [ht,h5,hn]
         · simp [ht,h5,hn]
       · simp [ht,h5]
     · simp [ht,h4,h5]
 · simp [ht]
theorem Ou {l:List Con} (h:dJ l=true):∀ z∈l,dD z.name=true:=by
 intro z hz
 obtain ⟨k,hk,rfl⟩:=List.mem_iff_getElem.1 hz
 simp only [dJ,Bool.and_eq_true] at h
 have:=(D.Av l).1 h.1 k hk
 simp [Bb,hk] at this
 exact this.1
theorem ac2 {p:Part} (h:aX p=true):iG p.rng=0/\p.epoch≠0/\dN p.recs=true/\P.cK p.prods=true/\dJ p.cons=true/\D.NS p.rng (mU p.prods) p.recs/\(∀ x∈p.prods,dB p x=false)/\∀ x∈p.cons,x.off<=(p.recs.length:Nat):=by
 obtain ⟨a,b,c,d,e,f,g,i⟩:=D.Ag h
 refine ⟨a,b,c,d,e,(D.abY p).1 f,D.Rn.1 g,fun x hx=>?_⟩
 rw [List.any_eq_false] at i
 have:=i x hx
 simp [dw] at this;exact this
theorem R9 {p:Part} {c:bJ} (h:aX p=true):dQ p c=p∨((dX p c).err=0/\c.kind≠2/\c.kind≠4/\((c.kind=1/\iO p c=0/\dQ p c=prQ p c)∨(c.kind=3/\jw p c=0/\dQ p c=cmQ p c)∨((c.kind=5∨c.kind=6)/\yD p c=false/\dQ p c=PD p (Tq c)))):=by
 unfold dQ dX TB OG
 simp only [h]
 by_cases h1:bF c=false
 · simp [h1]
 · by_cases h2:c.epoch=p.epoch
   · by_cases h3:qO p c=0
     · simp only [h1,h2,h3]
       simp
       unfold Hr Ca
       unfold qO un9 at h3
       by_cases k1:c.kind=1
       · by_cases e0:iO p c=0
         · simp [k1,e0]
         · simp [k1,e0]
       · by_cases k3:c.kind=3
         · by_cases e0:jw p c=0
           · simp [k3,e0]
           · simp [k3,e0]
         · by_cases k5:c.kind=5
           · cases f:yD p c<;>simp [k5,f]
           · by_cases k6:c.kind=6
             · cases f:yD p c<;>simp [k6,f]
             · simp [k1,k3,k5,k6]
     · simp [h3]
   · simp [h2]
theorem Dg (p:Part):jD p p=true:=by
 have h1:iy p.recs p.recs=true:=by
  simp [iy,gW,TU]
 have h2:P.pI p.prods p.prods=true:=by
  unfold P.pI P.fC;simp [P.eqP]
 have h3:kG p.cons p.cons=true:=by
  simp [kG,jZ,XD]
 simp [jD,h1,h2,h3]
end R
namespace J
theorem Bytes.app {a b:List Int} (ha:Bytes a) (hb:Bytes b):Bytes (a++b):=⟨fun x hx=>by
 rcases List.mem_append.1 hx with hx | hx
 · exact ha.b x hx
 · exact hb.b x hx⟩
theorem Bytes.nil:Bytes []:=⟨fun x hx=>absurd hx (by simp)⟩
theorem Hy {α:Type} {f:α->List Int} {k:Nat}:∀ {l:List α},(∀ x∈l,(f x).length<=k)->(l.flatMap f).length<=l.length*k
 | [],_=>by simp
 | a::l,h=>by
   have h1:=h a (by simp)
   have h2:=Hy (l:=l) fun x hx=>h x (by simp [hx])
   rw [List.flatMap_cons,List.length_append,List.length_cons,Nat.succ_mul]
   omega
theorem Uk {x:Rec} (h:AX x):(g_ x).length<=343:=by
 have h1:=aG x.off
 have h2:=kQ x.key
 have h3:=bD x.val
 have h4:=aG x.prod
 have h5:=aG x.seq
 have:=h.k
 have:=h.v
 simp only [g_,List.length_append]
 omega
theorem Q0 {l:List Rec} {m:Int} (h:Ac m AX l) (hm:m<=4096):(gy l).length<=1404940:=by
 have h1:=aG (l.length:Int)
 have h2:=Hy (f:=g_) (l:=l) fun x hx=>Uk (h.ok x hx)
 have h3:=h.n
 have h4:l.length*343<=4096*343:=Nat.mul_le_mul_right _ (by omega)
 simp only [gy,List.length_append]
 omega
structure YE (p:Part):Prop where
 rng:afN p.rng
 epoch:nO p.epoch
 frozen:nO p.frozen
 recs:Ac 4096 AX p.recs
 prods:Ac 256 Dl p.prods
 cons:Ac 64 Z9 p.cons
theorem lu {α:Type} [Inhabited α] {l:List α} {k:Nat} (h:k<l.length):l.getD k default∈l:=by
 simp only [List.getD,List.getElem?_eq_getElem h,Option.getD_some]
 exact List.getElem_mem h
structure QI (x:R.gJ):Prop where
 err:jC x.err
 off:nO x.off
 recs:Ac 64 AX x.recs
theorem U3 {x:R.gJ} (h:QI x):(iL x).length<=2000000:=by
 have h1:=fu x.err
 have h2:=aG x.off
 have h3:=sO x.old
 have h4:=Q0 h.recs (by decide)
 simp only [iL,List.length_append]
 omega
theorem afn {x:R.gJ} (h:QI x):BU x:=⟨h.err,h.off,fun k hk=>(h.recs.ok _ (lu hk)).u,⟨by have:=U3 h;omega⟩⟩
structure CmT (c:R.bJ):Prop where
 u:R3 c
 b:Bytes c.val
end J
namespace R
def aaT (b:Bool) (l:List bJ):AV:=.ys b 10 l.length (ah dV l)
noncomputable def afQ (b1 b2:Bool) (p q:Part):dO Tryz.prog:=⟨19,[.agg (aW b1 p),.agg (aW b2 q)],[],.need (eO p) (bM (jD p q)),T.Sat.need fun h=>ac_ b1 b2 p q h⟩
def qG (l:List bJ) (i:Nat):List AV:=mkT 63 [(1,aaT true l),(2,.ptr 0 0 0 0),(5,.y (.bool true)),(6,.y (.int .i64 i))]
def stM (f:Nat->Part) (i:Nat):List aH:=[.box 30 (aW true (f i))]
end R
namespace J
noncomputable def ZY (s:ByteArray):dO Tryz.prog:=⟨95,[.y (.string s)],[],bM (dD s),aeo s⟩
noncomputable def jdD (c:R.bJ):dO Tryz.prog:=P.MR true [] c.prod c.seq (by decide)
noncomputable def isH (c:R.bJ):aC Tryz.prog:=hh _ bB (cs1 29 3 4 (jdD c) (cs1 29 8 4 (jdD c) (cs1 29 9 5 (ZY c.name) (cs1 29 11 2 (ZY c.name) bA)))) bq
def afd (c:R.bJ):Prop :=
 ((c.kind==1)=true->(0=0/\c.prod=c.prod/\c.seq=c.seq/\True)/\True/\((P.bg [] c.prod c.seq != 4)=true->(decide (((ByteArray.size c.key):Int)<=32)=true->decide ((c.val.length:Int)<=256)=R.bF c/\True)/\(decide (((ByteArray.size c.key):Int)<=32)=false->false=R.bF c/\True))/\((P.bg [] c.prod c.seq != 4)=false->false=R.bF c/\True))/\((c.kind==1)=false->((c.kind==2)=true->(decide (1<=c.most)=true->decide (c.most<=64)=R.bF c/\True)/\(decide (1<=c.most)=false->false=R.bF c/\True))/\((c.kind==2)=false->((c.kind==3)=true->(0=0/\c.prod=c.prod/\c.seq=c.seq/\True)/\True/\((P.bg [] c.prod c.seq != 4)=true->(c.name=c.name/\True)/\True/\dD c.name=R.bF c/\True)/\((P.bg [] c.prod c.seq != 4)=false->false=R.bF c/\True))/\((c.kind==3)=false->((c.kind==4)=true->(c.name=c.name/\True)/\True/\dD c.name=R.bF c/\True)/\((c.kind==4)=false->((c.kind==5)=true->(c.plan != 0)=R.bF c/\True)/\((c.kind==5)=false->((c.kind==6)=true->(c.plan != 0)=R.bF c/\True)/\((c.kind==6)=false->false=R.bF c/\True))))))
theorem Uo (c:R.bJ):(aZ Tryz.prog (isH c) 29 [.agg (R.dV c)] [] (bM (R.bF c)))=afd c:=by kernel_rfl
theorem aha (c:R.bJ):(bM (R.bF c)).Sat (au Tryz.prog 29 [.agg (R.dV c)] []):=by
 refine aR (ht:=isH c) Tryz.mixed rfl ?_
 rw [Uo c]
 unfold afd R.bF R.okN
 by_cases h1:c.kind=1
 · by_cases h2:P.bg [] c.prod c.seq=4<;>by_cases h3:(c.key.size:Int)<=32<;>simp [h1,h2,h3]
 · by_cases h2:c.kind=2
   · by_cases h3:1<=c.most<;>simp [h2,h3]
   · by_cases h3:c.kind=3
     · by_cases h4:P.bg [] c.prod c.seq=4<;>simp [h3,h4]
     · by_cases h4:c.kind=4
       · simp [h4]
       · by_cases h5:c.kind=5
         · simp [h5];rfl
         · by_cases h6:c.kind=6
           · simp [h6];rfl
           · simp [h1,h2,h3,h4,h5,h6]
noncomputable def isC (c:R.bJ):dO Tryz.prog:=⟨29,[.agg (R.dV c)],[],bM (R.bF c),aha c⟩
structure RdP where
 (hkind:Int) (hs1:RS) (hepoch:Int) (hs2:RS)
 (a_prod:Int) (a_s1:RS) (a_seq:Int) (a_s2:RS) (a_key:List Int) (a_s3:RS) (a_val:List Int) (a_s4:RS)
 (b_off:Int) (b_s1:RS) (b_most:Int) (b_s2:RS)
 (c_prod:Int) (c_s1:RS) (c_seq:Int) (c_s2:RS) (c_name:List Int) (c_s3:RS) (c_off:Int) (c_s4:RS)
 (d_name:List Int) (d_s1:RS) (e_plan:Int) (e_s1:RS)
noncomputable def acX (l:List Int) (q:RdP):aC Tryz.prog:=KI (Fe (hh _ bB (cs1 33 2 1 (qiC l default q.hkind q.hs1) (cs1 33 3 1 (Cy l q.hs1 q.hepoch q.hs2) (cs1 33 6 1 (Cy l q.hs2 q.a_prod q.a_s1) (cs1 33 7 1 (Cy l q.a_s1 q.a_seq q.a_s2) (cs1 33 8 1 (XP l q.a_s2 32 q.a_key q.a_s3) (cs1 33 9 1 (XP l q.a_s3 256 q.a_val q.a_s4) (cs1 33 11 1 (Cy l q.hs2 q.b_off q.b_s1) (cs1 33 12 1 (qiC l q.b_s1 q.b_most q.b_s2) (cs1 33 14 1 (Cy l q.hs2 q.c_prod q.c_s1) (cs1 33 15 1 (Cy l q.c_s1 q.c_seq q.c_s2) (cs1 33 16 1 (XP l q.c_s2 32 q.c_name q.c_s3) (cs1 33 17 1 (Cy l q.c_s3 q.c_off q.c_s4) (cs1 33 19 1 (XP l q.hs2 32 q.d_name q.d_s1) (cs1 33 22 1 (Cy l q.hs2 q.e_plan q.e_s1) bA)))))))))))))) bq)) (cab 33 23 1 18 (isC ⟨q.hkind,q.hepoch,q.a_prod,q.a_seq,strOf q.a_key,q.a_val,0,0,ByteArray.empty,0⟩) (cab 33 24 1 18 (Y8 l q.a_s4) (cab 33 23 1 33 (isC ⟨q.hkind,q.hepoch,0,0,ByteArray.empty,[],q.b_off,q.b_most,ByteArray.empty,0⟩) (cab 33 24 1 33 (Y8 l q.b_s2) (cab 33 23 1 41 (isC ⟨q.hkind,q.hepoch,q.c_prod,q.c_seq,ByteArray.empty,[],q.c_off,0,strOf q.c_name,0⟩) (cab 33 24 1 41 (Y8 l q.c_s4) (cab 33 23 1 56 (isC ⟨q.hkind,q.hepoch,0,0,ByteArray.empty,[],0,0,strOf q.d_name,0⟩) (cab 33 24 1 56 (Y8 l q.d_s1) (cab 33 23 1 62 (isC ⟨q.hkind,q.hepoch,0,0,ByteArray.empty,[],0,0,ByteArray.empty,q.e_plan⟩) (cab 33 24 1 62 (Y8 l q.e_s1) (caf 33 23 1 62 (isC ⟨q.hkind,q.hepoch,0,0,ByteArray.empty,[],0,0,ByteArray.empty,0⟩) (caf 33 24 1 62 (Y8 l q.hs2) abl))))))))))))
def gU (c:R.bJ) (e:Int):Prop:=((0=c.kind/\0=c.epoch/\0=c.prod/\0=c.seq/\{ data:=#[]:ByteArray }=c.key/\c.val.length=0/\0=c.off/\0=c.most/\{ data:=#[]:ByteArray }=c.name/\0=c.plan/\True)/\161=e/\True)
def AY (l:List Int) (q:RdP) (c:R.bJ) (e:Int):Prop:=((bS l q.e_s1 != 0)=false->((!R.bF { kind:=q.hkind,epoch:=q.hepoch,prod:=0,seq:=0,key:=ByteArray.empty,val:=[],off:=0,most:=0,name:=ByteArray.empty,plan:=q.e_plan:R.bJ })=true->(gU c e)/\True)/\((!R.bF { kind:=q.hkind,epoch:=q.hepoch,prod:=0,seq:=0,key:=ByteArray.empty,val:=[],off:=0,most:=0,name:=ByteArray.empty,plan:=q.e_plan:R.bJ })=false->((q.hkind=c.kind/\q.hepoch=c.epoch/\0=c.prod/\0=c.seq/\{ data:=#[]:ByteArray }=c.key/\c.val.length=0/\0=c.off/\0=c.most/\{ data:=#[]:ByteArray }=c.name/\q.e_plan=c.plan/\True)/\0=e/\True)/\True))
def ZT (l:List Int) (q:RdP) (c:R.bJ) (e:Int):Prop :=
 ((0=0/\0=0)/\True)/\(((dI l l)/\(0:Int)=0/\(0:Int)=0/\(0:Int)=0/\True)/\True)/\bL l default/\(q.hkind,q.hs1)=(zag (aB l default).fst,(aB l default).snd)/\((0=0/\0=0)/\True)/\((dx l q.hs1 q.hs1)/\True)/\bL l q.hs1/\(q.hepoch,q.hs2)=aB l q.hs1/\((q.hkind==1)=true->((0=0/\0=0)/\True)/\((dx l q.hs2 q.hs2)/\True)/\bL l q.hs2/\(q.a_prod,q.a_s1)=aB l q.hs2/\((0=0/\0=0)/\True)/\((dx l q.a_s1 q.a_s1)/\True)/\bL l q.a_s1/\(q.a_seq,q.a_s2)=aB l q.a_s1/\((0=0/\0=0)/\(32:Int)=32/\True)/\((dx l q.a_s2 q.a_s2)/\True)/\(bL l q.a_s2/\jC 32)/\(q.a_key,q.a_s3)=aU l q.a_s2 32/\(∀ k,k<q.a_key.length->true=true)/\((0=0/\0=0)/\(256:Int)=256/\True)/\((dx l q.a_s3 q.a_s3)/\True)/\(bL l q.a_s3/\jC 256)/\(q.a_val,q.a_s4)=aU l q.a_s3 256/\((q.hkind=q.hkind/\q.hepoch=q.hepoch/\q.a_prod=q.a_prod/\q.a_seq=q.a_seq/\vw q.a_key.length (ah aD q.a_key)=strOf q.a_key/\(dI q.a_val q.a_val)/\(0:Int)=0/\(0:Int)=0/\{ data:=#[]:ByteArray }=ByteArray.empty/\(0:Int)=0/\True)/\True)/\True/\((0=0/\0=0)/\True)/\((dx l q.a_s4 q.a_s4)/\True)/\bL l q.a_s4/\((bS l q.a_s4 != 0)=true->(gU c e)/\True)/\((bS l q.a_s4 != 0)=false->((!R.bF { kind:=q.hkind,epoch:=q.hepoch,prod:=q.a_prod,seq:=q.a_seq,key:=strOf q.a_key,val:=q.a_val,off:=0,most:=0,name:=ByteArray.empty,plan:=0:R.bJ })=true->(gU c e)/\True)/\((!R.bF { kind:=q.hkind,epoch:=q.hepoch,prod:=q.a_prod,seq:=q.a_seq,key:=strOf q.a_key,val:=q.a_val,off:=0,most:=0,name:=ByteArray.empty,plan:=0:R.bJ })=false->((q.hkind=c.kind/\q.hepoch=c.epoch/\q.a_prod=c.prod/\q.a_seq=c.seq/\vw q.a_key.length (ah aD q.a_key)=c.key/\(dI q.a_val c.val)/\0=c.off/\0=c.most/\{ data:=#[]:ByteArray }=c.name/\0=c.plan/\True)/\0=e/\True)/\True)))/\((q.hkind==1)=false->((q.hkind==2)=true->((0=0/\0=0)/\True)/\((dx l q.hs2 q.hs2)/\True)/\bL l q.hs2/\(q.b_off,q.b_s1)=aB l q.hs2/\((0=0/\0=0)/\True)/\((dx l q.b_s1 q.b_s1)/\True)/\bL l q.b_s1/\(q.b_most,q.b_s2)=(zag (aB l q.b_s1).fst,(aB l q.b_s1).snd)/\((q.hkind=q.hkind/\q.hepoch=q.hepoch/\(0:Int)=0/\(0:Int)=0/\{ data:=#[]:ByteArray }=ByteArray.empty/\0=0/\q.b_off=q.b_off/\q.b_most=q.b_most/\{ data:=#[]:ByteArray }=ByteArray.empty/\(0:Int)=0/\True)/\True)/\True/\((0=0/\0=0)/\True)/\((dx l q.b_s2 q.b_s2)/\True)/\bL l q.b_s2/\((bS l q.b_s2 != 0)=true->(gU c e)/\True)/\((bS l q.b_s2 != 0)=false->((!R.bF { kind:=q.hkind,epoch:=q.hepoch,prod:=0,seq:=0,key:=ByteArray.empty,val:=[],off:=q.b_off,most:=q.b_most,name:=ByteArray.empty,plan:=0:R.bJ })=true->(gU c e)/\True)/\((!R.bF { kind:=q.hkind,epoch:=q.hepoch,prod:=0,seq:=0,key:=ByteArray.empty,val:=[],off:=q.b_off,most:=q.b_most,name:=ByteArray.empty,plan:=0:R.bJ })=false->((q.hkind=c.kind/\q.hepoch=c.epoch/\0=c.prod/\0=c.seq/\{ data:=#[]:ByteArray }=c.key/\c.val.length=0/\q.b_off=c.off/\q.b_most=c.most/\{ data:=#[]:ByteArray }=c.name/\0=c.plan/\True)/\0=e/\True)/\True)))/\((q.hkind==2)=false->((q.hkind==3)=true->((0=0/\0=0)/\True)/\((dx l q.hs2 q.hs2)/\True)/\bL l q.hs2/\(q.c_prod,q.c_s1)=aB l q.hs2/\((0=0/\0=0)/\True)/\((dx l q.c_s1 q.c_s1)/\True)/\bL l q.c_s1/\(q.c_seq,q.c_s2)=aB l q.c_s1/\((0=0/\0=0)/\(32:Int)=32/\True)/\((dx l q.c_s2 q.c_s2)/\True)/\(bL l q.c_s2/\jC 32)/\(q.c_name,q.c_s3)=aU l q.c_s2 32/\(∀ k,k<q.c_name.length->true=true)/\((0=0/\0=0)/\True)/\((dx l q.c_s3 q.c_s3)/\True)/\bL l q.c_s3/\(q.c_off,q.c_s4)=aB l q.c_s3/\((q.hkind=q.hkind/\q.hepoch=q.hepoch/\q.c_prod=q.c_prod/\q.c_seq=q.c_seq/\{ data:=#[]:ByteArray }=ByteArray.empty/\0=0/\q.c_off=q.c_off/\(0:Int)=0/\vw q.c_name.length (ah aD q.c_name)=strOf q.c_name/\(0:Int)=0/\True)/\True)/\True/\((0=0/\0=0)/\True)/\((dx l q.c_s4 q.c_s4)/\True)/\bL l q.c_s4/\((bS l q.c_s4 != 0)=true->(gU c e)/\True)/\((bS l q.c_s4 != 0)=false->((!R.bF { kind:=q.hkind,epoch:=q.hepoch,prod:=q.c_prod,seq:=q.c_seq,key:=ByteArray.empty,val:=[],off:=q.c_off,most:=0,name:=strOf q.c_name,plan:=0:R.bJ })=true->(gU c e)/\True)/\((!R.bF { kind:=q.hkind,epoch:=q.hepoch,prod:=q.c_prod,seq:=q.c_seq,key:=ByteArray.empty,val:=[],off:=q.c_off,most:=0,name:=strOf q.c_name,plan:=0:R.bJ })=false->((q.hkind=c.kind/\q.hepoch=c.epoch/\q.c_prod=c.prod/\q.c_seq=c.seq/\{ data:=#[]:ByteArray }=c.key/\c.val.length=0/\q.c_off=c.off/\0=c.most/\vw q.c_name.length (ah aD q.c_name)=c.name/\0=c.plan/\True)/\0=e/\True)/\True)))/\((q.hkind==3)=false->((q.hkind==4)=true->((0=0/\0=0)/\(32:Int)=32/\True)/\((dx l q.hs2 q.hs2)/\True)/\(bL l q.hs2/\jC 32)/\(q.d_name,q.d_s1)=aU l q.hs2 32/\(∀ k,k<q.d_name.length->true=true)/\((q.hkind=q.hkind/\q.hepoch=q.hepoch/\(0:Int)=0/\(0:Int)=0/\{ data:=#[]:ByteArray }=ByteArray.empty/\0=0/\(0:Int)=0/\(0:Int)=0/\vw q.d_name.length (ah aD q.d_name)=strOf q.d_name/\(0:Int)=0/\True)/\True)/\True/\((0=0/\0=0)/\True)/\((dx l q.d_s1 q.d_s1)/\True)/\bL l q.d_s1/\((bS l q.d_s1 != 0)=true->(gU c e)/\True)/\((bS l q.d_s1 != 0)=false->((!R.bF { kind:=q.hkind,epoch:=q.hepoch,prod:=0,seq:=0,key:=ByteArray.empty,val:=[],off:=0,most:=0,name:=strOf q.d_name,plan:=0:R.bJ })=true->(gU c e)/\True)/\((!R.bF { kind:=q.hkind,epoch:=q.hepoch,prod:=0,seq:=0,key:=ByteArray.empty,val:=[],off:=0,most:=0,name:=strOf q.d_name,plan:=0:R.bJ })=false->((q.hkind=c.kind/\q.hepoch=c.epoch/\0=c.prod/\0=c.seq/\{ data:=#[]:ByteArray }=c.key/\c.val.length=0/\0=c.off/\0=c.most/\vw q.d_name.length (ah aD q.d_name)=c.name/\0=c.plan/\True)/\0=e/\True)/\True)))/\((q.hkind==4)=false->((q.hkind==5)=true->((0=0/\0=0)/\True)/\((dx l q.hs2 q.hs2)/\True)/\bL l q.hs2/\(q.e_plan,q.e_s1)=aB l q.hs2/\((q.hkind=q.hkind/\q.hepoch=q.hepoch/\(0:Int)=0/\(0:Int)=0/\{ data:=#[]:ByteArray }=ByteArray.empty/\0=0/\(0:Int)=0/\(0:Int)=0/\{ data:=#[]:ByteArray }=ByteArray.empty/\q.e_plan=q.e_plan/\True)/\True)/\True/\((0=0/\0=0)/\True)/\((dx l q.e_s1 q.e_s1)/\True)/\bL l q.e_s1/\((bS l q.e_s1 != 0)=true->(gU c e)/\True)/\(AY l q c e))/\((q.hkind==5)=false->((q.hkind==6)=true->((0=0/\0=0)/\True)/\((dx l q.hs2 q.hs2)/\True)/\bL l q.hs2/\(q.e_plan,q.e_s1)=aB l q.hs2/\((q.hkind=q.hkind/\q.hepoch=q.hepoch/\(0:Int)=0/\(0:Int)=0/\{ data:=#[]:ByteArray }=ByteArray.empty/\0=0/\(0:Int)=0/\(0:Int)=0/\{ data:=#[]:ByteArray }=ByteArray.empty/\q.e_plan=q.e_plan/\True)/\True)/\True/\((0=0/\0=0)/\True)/\((dx l q.e_s1 q.e_s1)/\True)/\bL l q.e_s1/\((bS l q.e_s1 != 0)=true->(gU c e)/\True)/\(AY l q c e))/\((q.hkind==6)=false->((q.hkind=q.hkind/\q.hepoch=q.hepoch/\(0:Int)=0/\(0:Int)=0/\{ data:=#[]:ByteArray }=ByteArray.empty/\0=0/\(0:Int)=0/\(0:Int)=0/\{ data:=#[]:ByteArray }=ByteArray.empty/\(0:Int)=0/\True)/\True)/\True/\((0=0/\0=0)/\True)/\((dx l q.hs2 q.hs2)/\True)/\bL l q.hs2/\((bS l q.hs2 != 0)=true->(gU c e)/\True)/\((bS l q.hs2 != 0)=false->((!R.bF { kind:=q.hkind,epoch:=q.hepoch,prod:=0,seq:=0,key:=ByteArray.empty,val:=[],off:=0,most:=0,name:=ByteArray.empty,plan:=0:R.bJ })=true->(gU c e)/\True)/\((!R.bF { kind:=q.hkind,epoch:=q.hepoch,prod:=0,seq:=0,key:=ByteArray.empty,val:=[],off:=0,most:=0,name:=ByteArray.empty,plan:=0:R.bJ })=false->((q.hkind=c.kind/\q.hepoch=c.epoch/\0=c.prod/\0=c.seq/\{ data:=#[]:ByteArray }=c.key/\c.val.length=0/\0=c.off/\0=c.most/\{ data:=#[]:ByteArray }=c.name/\0=c.plan/\True)/\0=e/\True)/\True))))))))
theorem Sn (l:List Int) (q:RdP) (c:R.bJ) (e:Int):(aZ Tryz.prog (acX l q) 33 [bn true l] [] (rcR c e))=ZT l q c e:=by kernel_rfl
theorem aeZ (l:List Int) (h:iq l):(rcR (lU l).1 (lU l).2).Sat (au Tryz.prog 33 [bn true l] []):=by
 have hl:=h.n
 have k0:=EY h.n h.b
 obtain ⟨hkind,hs1,e_hkind⟩:∃ v t,(v,t)=jr l default:=⟨_,_,rfl⟩
 have k_hs1:=xV k0 e_hkind
 obtain ⟨hepoch,hs2,e_hepoch⟩:∃ v t,(v,t)=aB l hs1:=⟨_,_,rfl⟩
 have k_hs2:=(iF k_hs1 e_hepoch).1
 obtain ⟨a_prod,a_s1,e_a_prod⟩:∃ v t,(v,t)=aB l hs2:=⟨_,_,rfl⟩
 have k_a_s1:=(iF k_hs2 e_a_prod).1
 obtain ⟨a_seq,a_s2,e_a_seq⟩:∃ v t,(v,t)=aB l a_s1:=⟨_,_,rfl⟩
 have k_a_s2:=(iF k_a_s1 e_a_seq).1
 obtain ⟨a_key,a_s3,e_a_key⟩:∃ v t,(v,t)=aU l a_s2 32:=⟨_,_,rfl⟩
 have k_a_s3:=oM k_a_s2 e_a_key
 obtain ⟨a_val,a_s4,e_a_val⟩:∃ v t,(v,t)=aU l a_s3 256:=⟨_,_,rfl⟩
 have k_a_s4:=oM k_a_s3 e_a_val
 obtain ⟨b_off,b_s1,e_b_off⟩:∃ v t,(v,t)=aB l hs2:=⟨_,_,rfl⟩
 have k_b_s1:=(iF k_hs2 e_b_off).1
 obtain ⟨b_most,b_s2,e_b_most⟩:∃ v t,(v,t)=jr l b_s1:=⟨_,_,rfl⟩
 have k_b_s2:=xV k_b_s1 e_b_most
 obtain ⟨c_prod,c_s1,e_c_prod⟩:∃ v t,(v,t)=aB l hs2:=⟨_,_,rfl⟩
 have k_c_s1:=(iF k_hs2 e_c_prod).1
 obtain ⟨c_seq,c_s2,e_c_seq⟩:∃ v t,(v,t)=aB l c_s1:=⟨_,_,rfl⟩
 have k_c_s2:=(iF k_c_s1 e_c_seq).1
 obtain ⟨c_name,c_s3,e_c_name⟩:∃ v t,(v,t)=aU l c_s2 32:=⟨_,_,rfl⟩
 have k_c_s3:=oM k_c_s2 e_c_name
 obtain ⟨c_off,c_s4,e_c_off⟩:∃ v t,(v,t)=aB l c_s3:=⟨_,_,rfl⟩
 have k_c_s4:=(iF k_c_s3 e_c_off).1
 obtain ⟨d_name,d_s1,e_d_name⟩:∃ v t,(v,t)=aU l hs2 32:=⟨_,_,rfl⟩
 have k_d_s1:=oM k_hs2 e_d_name
 obtain ⟨e_plan,e_s1,e_e_plan⟩:∃ v t,(v,t)=aB l hs2:=⟨_,_,rfl⟩
 have k_e_s1:=(iF k_hs2 e_e_plan).1
 have hr1:oF l=(⟨hkind,hepoch,a_prod,a_seq,strOf a_key,a_val,0,0,ByteArray.empty,0⟩,a_s4):=by
  unfold oF
  simp only [<- e_hkind,<- e_hepoch,<- e_a_prod,<- e_a_seq,wZ e_a_key,<- e_a_val]
 have hr2:vQ l=(⟨hkind,hepoch,0,0,ByteArray.empty,[],b_off,b_most,ByteArray.empty,0⟩,b_s2):=by
  unfold vQ
  simp only [<- e_hkind,<- e_hepoch,<- e_b_off,<- e_b_most]
 have hr3:qz l=(⟨hkind,hepoch,c_prod,c_seq,ByteArray.empty,[],c_off,0,strOf c_name,0⟩,c_s4):=by
  unfold qz
  simp only [<- e_hkind,<- e_hepoch,<- e_c_prod,<- e_c_seq,wZ e_c_name,<- e_c_off]
 have hr4:Bc l=(⟨hkind,hepoch,0,0,ByteArray.empty,[],0,0,strOf d_name,0⟩,d_s1):=by
  unfold Bc
  simp only [<- e_hkind,<- e_hepoch,wZ e_d_name]
 have hr5:zY l=(⟨hkind,hepoch,0,0,ByteArray.empty,[],0,0,ByteArray.empty,e_plan⟩,e_s1):=by
  unfold zY
  simp only [<- e_hkind,<- e_hepoch,<- e_e_plan]
 have hr0:Bq l=(⟨hkind,hepoch,0,0,ByteArray.empty,[],0,0,ByteArray.empty,0⟩,hs2):=by
  unfold Bq
  simp only [<- e_hkind,<- e_hepoch]
 have hk:nQ l=hkind:=by
  unfold nQ
  rw [<- e_hkind]
 refine aR (ht:=acX l ⟨hkind,hs1,hepoch,hs2,a_prod,a_s1,a_seq,a_s2,a_key,a_s3,a_val,a_s4,b_off,b_s1,b_most,b_s2,c_prod,c_s1,c_seq,c_s2,c_name,c_s3,c_off,c_s4,d_name,d_s1,e_plan,e_s1⟩) Tryz.mixed rfl ?_
 rw [Sn l ⟨hkind,hs1,hepoch,hs2,a_prod,a_s1,a_seq,a_s2,a_key,a_s3,a_val,a_s4,b_off,b_s1,b_most,b_s2,c_prod,c_s1,c_seq,c_s2,c_name,c_s3,c_off,c_s4,d_name,d_s1,e_plan,e_s1⟩ (lU l).1 (lU l).2]
 unfold ZT AY gU
 have hcl:=aO l.length 1 (ah aD l)
 have q:=qI
 have q2:=rU
 have z0:(default:R.bJ)=⟨0,0,0,0,ByteArray.empty,[],0,0,ByteArray.empty,0⟩:=rfl
 have z1:ByteArray.empty=(⟨#[]⟩:ByteArray):=rfl
 have fin:∀ (c:R.bJ) (s:RS),fZ l=(c,s)->lU l=(if bS l s=0/\R.bF c=true then (c,0) else (default,161)):=by
  intro c s e
  unfold lU
  rw [e]
 obtain ⟨p_hkind,p2_hkind⟩:=Prod.mk.inj e_hkind
 obtain ⟨p_a_key,p2_a_key⟩:=Prod.mk.inj e_a_key
 obtain ⟨p_b_most,p2_b_most⟩:=Prod.mk.inj e_b_most
 obtain ⟨p_c_name,p2_c_name⟩:=Prod.mk.inj e_c_name
 obtain ⟨p_d_name,p2_d_name⟩:=Prod.mk.inj e_d_name
 by_cases m1:hkind=1
 · 
   have hf:=fin _ _ (show fZ l=(⟨hkind,hepoch,a_prod,a_seq,strOf a_key,a_val,0,0,ByteArray.empty,0⟩,a_s4) from by unfold fZ;rw [hk];simp [m1,hr1])
   rw [hf]
   by_cases hd:bS l a_s4=0
   · cases hw:R.bF (⟨hkind,hepoch,a_prod,a_seq,strOf a_key,a_val,0,0,ByteArray.empty,0⟩:R.bJ)
     · simp [m1,hl,hcl,k0,q,q2,k_hs1,k_hs2,k_a_s1,k_a_s2,k_a_s3,k_a_s4,k_b_s1,k_b_s2,k_c_s1,k_c_s2,k_c_s3,k_c_s4,k_d_s1,k_e_s1,hd,hw,z0,z1]
       repeat' with_reducible apply And.intro
       all_goals first | assumption | rfl | (rw [<- m1];assumption)
     · simp [m1,hl,hcl,k0,q,q2,k_hs1,k_hs2,k_a_s1,k_a_s2,k_a_s3,k_a_s4,k_b_s1,k_b_s2,k_c_s1,k_c_s2,k_c_s3,k_c_s4,k_d_s1,k_e_s1,hd,hw,z0,z1]
       repeat' with_reducible apply And.intro
       all_goals first | assumption | rfl | (rw [<- m1];assumption)
   · simp [m1,hl,hcl,k0,q,q2,k_hs1,k_hs2,k_a_s1,k_a_s2,k_a_s3,k_a_s4,k_b_s1,k_b_s2,k_c_s1,k_c_s2,k_c_s3,k_c_s4,k_d_s1,k_e_s1,hd,z0,z1]
     repeat' with_reducible apply And.intro
     all_goals first | assumption | rfl | (rw [<- m1];assumption)
 by_cases m2:hkind=2
 · 
   have hf:=fin _ _ (show fZ l=(⟨hkind,hepoch,0,0,ByteArray.empty,[],b_off,b_most,ByteArray.empty,0⟩,b_s2) from by unfold fZ;rw [hk];simp [m2,hr2])
   rw [hf]
   by_cases hd:bS l b_s2=0
   · cases hw:R.bF (⟨hkind,hepoch,0,0,ByteArray.empty,[],b_off,b_most,ByteArray.empty,0⟩:R.bJ)
     · simp [m2,hl,hcl,k0,q,q2,k_hs1,k_hs2,k_a_s1,k_a_s2,k_a_s3,k_a_s4,k_b_s1,k_b_s2,k_c_s1,k_c_s2,k_c_s3,k_c_s4,k_d_s1,k_e_s1,hd,hw,z0,z1]
       repeat' with_reducible apply And.intro
       all_goals first | assumption | rfl | (rw [<- m2];assumption)
     · simp [m2,hl,hcl,k0,q,q2,k_hs1,k_hs2,k_a_s1,k_a_s2,k_a_s3,k_a_s4,k_b_s1,k_b_s2,k_c_s1,k_c_s2,k_c_s3,k_c_s4,k_d_s1,k_e_s1,hd,hw,z0,z1]
       repeat' with_reducible apply And.intro
       all_goals first | assumption | rfl | (rw [<- m2];assumption)
   · simp [m2,hl,hcl,k0,q,q2,k_hs1,k_hs2,k_a_s1,k_a_s2,k_a_s3,k_a_s4,k_b_s1,k_b_s2,k_c_s1,k_c_s2,k_c_s3,k_c_s4,k_d_s1,k_e_s1,hd,z0,z1]
     repeat' with_reducible apply And.intro
     all_goals first | assumption | rfl | (rw [<- m2];assumption)
 by_cases m3:hkind=3
 · 
   have hf:=fin _ _ (show fZ l=(⟨hkind,hepoch,c_prod,c_seq,ByteArray.empty,[],c_off,0,strOf c_name,0⟩,c_s4) from by unfold fZ;rw [hk];simp [m3,hr3])
   rw [hf]
   by_cases hd:bS l c_s4=0
   · cases hw:R.bF (⟨hkind,hepoch,c_prod,c_seq,ByteArray.empty,[],c_off,0,strOf c_name,0⟩:R.bJ)
     · simp [m3,hl,hcl,k0,q,q2,k_hs1,k_hs2,k_a_s1,k_a_s2,k_a_s3,k_a_s4,k_b_s1,k_b_s2,k_c_s1,k_c_s2,k_c_s3,k_c_s4,k_d_s1,k_e_s1,hd,hw,z0,z1]
       repeat' with_reducible apply And.intro
       all_goals first | assumption | rfl | (rw [<- m3];assumption)
     · simp [m3,hl,hcl,k0,q,q2,k_hs1,k_hs2,k_a_s1,k_a_s2,k_a_s3,k_a_s4,k_b_s1,k_b_s2,k_c_s1,k_c_s2,k_c_s3,k_c_s4,k_d_s1,k_e_s1,hd,hw,z0,z1]
       repeat' with_reducible apply And.intro
       all_goals first | assumption | rfl | (rw [<- m3];assumption)
   · simp [m3,hl,hcl,k0,q,q2,k_hs1,k_hs2,k_a_s1,k_a_s2,k_a_s3,k_a_s4,k_b_s1,k_b_s2,k_c_s1,k_c_s2,k_c_s3,k_c_s4,k_d_s1,k_e_s1,hd,z0,z1]
     repeat' with_reducible apply And.intro
     all_goals first | assumption | rfl | (rw [<- m3];assumption)
 by_cases m4:hkind=4
 · 
   have hf:=fin _ _ (show fZ l=(⟨hkind,hepoch,0,0,ByteArray.empty,[],0,0,strOf d_name,0⟩,d_s1) from by unfold fZ;rw [hk];simp [m4,hr4])
   rw [hf]
   by_cases hd:bS l d_s1=0
   · cases hw:R.bF (⟨hkind,hepoch,0,0,ByteArray.empty,[],0,0,strOf d_name,0⟩:R.bJ)
     · simp [m4,hl,hcl,k0,q,q2,k_hs1,k_hs2,k_a_s1,k_a_s2,k_a_s3,k_a_s4,k_b_s1,k_b_s2,k_c_s1,k_c_s2,k_c_s3,k_c_s4,k_d_s1,k_e_s1,hd,hw,z0,z1]
       repeat' with_reducible apply And.intro
       all_goals first | assumption | rfl | (rw [<- m4];assumption)
     · simp [m4,hl,hcl,k0,q,q2,k_hs1,k_hs2,k_a_s1,k_a_s2,k_a_s3,k_a_s4,k_b_s1,k_b_s2,k_c_s1,k_c_s2,k_c_s3,k_c_s4,k_d_s1,k_e_s1,hd,hw,z0,z1]
       repeat' with_reducible apply And.intro
       all_goals first | assumption | rfl | (rw [<- m4];assumption)
   · simp [m4,hl,hcl,k0,q,q2,k_hs1,k_hs2,k_a_s1,k_a_s2,k_a_s3,k_a_s4,k_b_s1,k_b_s2,k_c_s1,k_c_s2,k_c_s3,k_c_s4,k_d_s1,k_e_s1,hd,z0,z1]
     repeat' with_reducible apply And.intro
     all_goals first | assumption | rfl | (rw [<- m4];assumption)
 by_cases m5:hkind=5
 · 
   have hf:=fin _ _ (show fZ l=(⟨hkind,hepoch,0,0,ByteArray.empty,[],0,0,ByteArray.empty,e_plan⟩,e_s1) from by unfold fZ;rw [hk];simp [m5,hr5])
   rw [hf]
   by_cases hd:bS l e_s1=0
   · cases hw:R.bF (⟨hkind,hepoch,0,0,ByteArray.empty,[],0,0,ByteArray.empty,e_plan⟩:R.bJ)
     · simp [m5,hl,hcl,k0,q,q2,k_hs1,k_hs2,k_a_s1,k_a_s2,k_a_s3,k_a_s4,k_b_s1,k_b_s2,k_c_s1,k_c_s2,k_c_s3,k_c_s4,k_d_s1,k_e_s1,hd,hw,z0,z1]
       repeat' with_reducible apply And.intro
       all_goals first | assumption | rfl | (rw [<- m5];assumption)
     · simp [m5,hl,hcl,k0,q,q2,k_hs1,k_hs2,k_a_s1,k_a_s2,k_a_s3,k_a_s4,k_b_s1,k_b_s2,k_c_s1,k_c_s2,k_c_s3,k_c_s4,k_d_s1,k_e_s1,hd,hw,z0,z1]
       repeat' with_reducible apply And.intro
       all_goals first | assumption | rfl | (rw [<- m5];assumption)
   · simp [m5,hl,hcl,k0,q,q2,k_hs1,k_hs2,k_a_s1,k_a_s2,k_a_s3,k_a_s4,k_b_s1,k_b_s2,k_c_s1,k_c_s2,k_c_s3,k_c_s4,k_d_s1,k_e_s1,hd,z0,z1]
     repeat' with_reducible apply And.intro
     all_goals first | assumption | rfl | (rw [<- m5];assumption)
 by_cases m6:hkind=6
 · 
   have hf:=fin _ _ (show fZ l=(⟨hkind,hepoch,0,0,ByteArray.empty,[],0,0,ByteArray.empty,e_plan⟩,e_s1) from by unfold fZ;rw [hk];simp [m6,hr5])
   rw [hf]
   by_cases hd:bS l e_s1=0
   · cases hw:R.bF (⟨hkind,hepoch,0,0,ByteArray.empty,[],0,0,ByteArray.empty,e_plan⟩:R.bJ)
     · simp [m6,hl,hcl,k0,q,q2,k_hs1,k_hs2,k_a_s1,k_a_s2,k_a_s3,k_a_s4,k_b_s1,k_b_s2,k_c_s1,k_c_s2,k_c_s3,k_c_s4,k_d_s1,k_e_s1,hd,hw,z0,z1]
       repeat' with_reducible apply And.intro
       all_goals first | assumption | rfl | (rw [<- m6];assumption)
     · simp [m6,hl,hcl,k0,q,q2,k_hs1,k_hs2,k_a_s1,k_a_s2,k_a_s3,k_a_s4,k_b_s1,k_b_s2,k_c_s1,k_c_s2,k_c_s3,k_c_s4,k_d_s1,k_e_s1,hd,hw,z0,z1]
       repeat' with_reducible apply And.intro
       all_goals first | assumption | rfl | (rw [<- m6];assumption)
   · simp [m6,hl,hcl,k0,q,q2,k_hs1,k_hs2,k_a_s1,k_a_s2,k_a_s3,k_a_s4,k_b_s1,k_b_s2,k_c_s1,k_c_s2,k_c_s3,k_c_s4,k_d_s1,k_e_s1,hd,z0,z1]
     repeat' with_reducible apply And.intro
     all_goals first | assumption | rfl | (rw [<- m6];assumption)
 · 
   have hf:=fin _ _ (show fZ l=(⟨hkind,hepoch,0,0,ByteArray.empty,[],0,0,ByteArray.empty,0⟩,hs2) from by unfold fZ;rw [hk];simp [m1,m2,m3,m4,m5,m6,hr0])
   rw [hf]
   by_cases hd:bS l hs2=0
   · cases hw:R.bF (⟨hkind,hepoch,0,0,ByteArray.empty,[],0,0,ByteArray.empty,0⟩:R.bJ)
     · simp [m1,m2,m3,m4,m5,m6,hl,hcl,k0,q,q2,k_hs1,k_hs2,k_a_s1,k_a_s2,k_a_s3,k_a_s4,k_b_s1,k_b_s2,k_c_s1,k_c_s2,k_c_s3,k_c_s4,k_d_s1,k_e_s1,hd,hw,z0,z1]
       repeat' with_reducible apply And.intro
       all_goals first | assumption | rfl | (rw [<- m6];assumption)
     · simp [m1,m2,m3,m4,m5,m6,hl,hcl,k0,q,q2,k_hs1,k_hs2,k_a_s1,k_a_s2,k_a_s3,k_a_s4,k_b_s1,k_b_s2,k_c_s1,k_c_s2,k_c_s3,k_c_s4,k_d_s1,k_e_s1,hd,hw,z0,z1]
       repeat' with_reducible apply And.intro
       all_goals first | assumption | rfl | (rw [<- m6];assumption)
   · simp [m1,m2,m3,m4,m5,m6,hl,hcl,k0,q,q2,k_hs1,k_hs2,k_a_s1,k_a_s2,k_a_s3,k_a_s4,k_b_s1,k_b_s2,k_c_s1,k_c_s2,k_c_s3,k_c_s4,k_d_s1,k_e_s1,hd,z0,z1]
     repeat' with_reducible apply And.intro
     all_goals first | assumption | rfl | (rw [<- m6];assumption)
noncomputable def afe (l:List Int) (c:R.bJ) (e:Int):dO Tryz.prog:=⟨33,[bn true l],[],.need (iq l) (.need ((c,e)=lU l) (rcR c e)),T.Sat.need fun h=>T.Sat.need fun q=>by
 have e1:c=(lU l).1:=congrArg Prod.fst q
 have e2:e=(lU l).2:=congrArg Prod.snd q
 rw [e1,e2]
 exact aeZ l h⟩
end J
namespace H
end H
namespace Q
open H D
end Q
namespace Q
def fD (l:List P.Producer) (id:Int):Int:=match l.findIdx? (fun y=>y.id==id) with | some i=>(i:Nat) | none=>-1
def gq (l:List P.Producer) (s:Kn):List Int:=l.map fun y=>s.sel y.id
theorem nK (s:Kn) (a b c:Int):(s.put a b).sel c=if a=c then b else s.sel c:=by
 unfold Kn.sel Kn.put ko yT Al
 by_cases h:a=c
 · simp [h]
 · simp [h]
theorem mh (l:List P.Producer) (s:Kn):(gq l s).length=l.length:=by simp [gq]
theorem Py (l:List P.Producer) (s:Kn) {i:Nat} (h:i<l.length):(gq l s).getD i 0=s.sel (l.getD i default).id:=by
 simp [gq,h]
theorem MZ {l:List P.Producer} (hu:P.rising l) (s:Kn) {i:Nat} (h:i<l.length) (b:Int):(gq l s).set i b=gq l (s.put (l.getD i default).id b):=by
 refine List.ext_getElem? fun q=>?_
 unfold gq
 rw [List.getElem?_set,List.getElem?_map,List.getElem?_map,List.length_map]
 by_cases hq:q<l.length
 · rw [List.getElem?_eq_getElem hq]
   have e1:l.getD q default=l[q]:=by simp [hq]
   have e2:l.getD i default=l[i]:=by simp [h]
   by_cases h1:i=q
   · subst h1
     simp only [h,if_true,Option.map_some,nK,e2]
   · have hne:¬ (l.getD i default).id=l[q].id:=by
      rw [<- e1]
      rcases Nat.lt_or_gt_of_ne h1 with h2 | h2
      · have:=hu i q h2 hq;omega
      · have:=hu q i h2 h;omega
     rw [if_neg h1]
     simp only [Option.map_some,nK,if_neg hne]
 · rw [List.getElem?_eq_none (by omega)]
   by_cases h1:i=q
   · omega
   · rw [if_neg h1]
     rfl
theorem qJ {l:List P.Producer} {id:Int} {i:Nat} (h:fD l id=(i:Nat)):i<l.length/\(l.getD i default).id=id:=by
 unfold fD at h
 split at h
 · rename_i j hj
   obtain ⟨h1,h2,_⟩:=List.findIdx?_eq_some_iff_getElem.1 hj
   have:j=i:=by omega
   subst this
   exact ⟨h1,by simpa [h1] using h2⟩
 · omega
theorem uM (l:List P.Producer) (id:Int):(fD l id=-1/\∀ y∈l,y.id≠id)∨∃ i:Nat,fD l id=(i:Nat)/\i<l.length:=by
 cases hf:l.findIdx? (fun y=>y.id==id) with
 | none =>
   refine .inl ⟨by simp [fD,hf],fun y hy e=>?_⟩
   have:=List.findIdx?_eq_none_iff.1 hf y hy
   simp [e] at this
 | some i =>
   have h:fD l id=(i:Nat):=by simp [fD,hf]
   exact .inr ⟨i,h,(qJ h).1⟩
theorem Pm {l:List P.Producer} (hu:P.rising l):∀ k,k<=l.length->∀ i,i<l.length->(mU (l.take k)).sel (l.getD i default).id=if i<k then (l.getD i default).seq else 0:=by
 intro k
 induction k with
 | zero=>intro _ i _;simp [mU,kn0,Kn.sel,Al]
 | succ k ih =>
   intro hk i hi
   rw [Hq (by omega),nK]
   by_cases h1:k=i
   · subst h1;simp
   · have hne:¬ (l.getD k default).id=(l.getD i default).id:=by
      rcases Nat.lt_or_gt_of_ne h1 with h2 | h2
      · have:=hu k i h2 hi;omega
      · have:=hu i k h2 (by omega);omega
     rw [if_neg hne,ih (by omega) i hi]
     by_cases h2:i<k
     · rw [if_pos h2,if_pos (by omega)]
     · rw [if_neg h2,if_neg (by omega)]
theorem aco {l:List P.Producer} (hu:P.rising l) {i:Nat} (hi:i<l.length):(mU l).sel (l.getD i default).id=(l.getD i default).seq:=by
 have:=Pm hu l.length (Nat.le_refl _) i hi
 rwa [List.take_length,if_pos hi] at this
theorem aay:∀ (l:List P.Producer) (id:Int),(∀ y∈l,y.id≠id)->(mU l).sel id=0:=by
 intro l id h
 unfold mU
 have key:∀ (l:List P.Producer) (s:Kn),s.sel id=0->(∀ y∈l,y.id≠id)->(l.foldl (fun s x=>s.put x.id x.seq) s).sel id=0:=by
  intro l
  induction l with
  | nil=>intro s h _;exact h
  | cons x r ih =>
    intro s hs hh
    refine ih _ ?_ fun y hy=>hh y (List.mem_cons_of_mem _ hy)
    rw [nK,if_neg (hh x (List.mem_cons_self))]
    exact hs
 exact key l kn0 (by simp [kn0,Kn.sel,Al]) h
theorem Vd:∀ (l:List Rec) (id:Int),(∀ y∈l,0<=y.seq)->0<=(lN l).sel id:=by
 intro l id h
 unfold lN
 have key:∀ (l:List Rec) (s:Kn),0<=s.sel id->(∀ y∈l,0<=y.seq)->0<=(l.foldl (fun s x=>s.put x.prod x.seq) s).sel id:=by
  intro l
  induction l with
  | nil=>intro s h _;exact h
  | cons x r ih =>
    intro s hs hh
    refine ih _ ?_ fun y hy=>hh y (List.mem_cons_of_mem _ hy)
    rw [nK]
    split
    · exact hh x (List.mem_cons_self)
    · exact hs
 exact key l kn0 (by simp [kn0,Kn.sel,Al]) h
def okD (p:Part) (k:Nat):Bool :=
 let x:=p.recs.getD k default
 let at_:=fD p.prods x.prod
 h_ p.rng x.key&&(!decide (at_<0)&&(!decide (x.seq<=(gq p.prods (lN (p.recs.take k))).getD at_.toNat 0)&&!decide ((p.prods.getD at_.toNat default).seq<x.seq)))
theorem acn {p:Part} (ht:P.cK p.prods=true) (hs:∀ y∈p.recs,0<=y.seq) {k:Nat}:okD p k=okO p k:=by
 have hu:=P.kH ht
 unfold okD okO
 generalize p.recs.getD k default=x
 rcases uM p.prods x.prod with ⟨h1,h2⟩ | ⟨i,h1,h2⟩
 · have e1:=aay _ _ h2
   have e2:=Vd (p.recs.take k) x.prod fun y hy=>hs y (List.mem_of_mem_take hy)
   simp only [h1,e1]
   by_cases h3:x.seq<=(lN (p.recs.take k)).sel x.prod
   · simp [h3]
   · have h4:(0:Int)<x.seq:=by omega
     simp [h3,h4]
 · obtain ⟨h3,h4⟩:=qJ h1
   have e1:=aco hu h3
   have e2:=Py p.prods (lN (p.recs.take k)) h3
   rw [h4] at e1 e2
   simp only [h1,Int.toNat_natCast,e1,e2]
   have h5:¬ ((i:Nat):Int)<0:=by omega
   simp [h5]
end Q
namespace Q
open H D
def yN (id:Int) (y:P.Producer):Bool:=y.id==id
def pdT (b:Bool) (l:List P.Producer) (id:Int) (k:Nat):List AV:=mkT 20 [(0,P.bG b l),(1,.y (.int .u64 id)),(5,.y (.int .i64 k))]
def pdS (r:Bool×Nat):Exit×List AV×List aH:=match r.1 with
 | true=>(.ret,mkT 20 [(4,.y (.int .i64 r.2))],[])
 | false=>(.exit 0,mkT 20 [],[])
def pdO (l:List P.Producer) (id:Int) (k:Nat):T (Bool×Nat):=.ite ((l.drop k).any (yN id)) (.ret (true,k+(l.drop k).findIdx (yN id))) (.ret (false,0))
def Zh (b:Bool) (l:List P.Producer) (id:Int) (k:Nat):Prop :=
 (decide ((↑k:Int)<(↑(List.length l):Int))=true->(true&&decide ((↑k:Int)<(↑(List.length l):Int)))=true/\(((List.getD l (Int.toNat (↑k:Int)) (@default P.Producer P.instInhabitedProducer)).id==id)=true->(List.any (List.drop k l) (yN id)=true->((↑k:Int)=(↑(k+List.findIdx (yN id) (List.drop k l)):Int)/\True)/\True/\true=true)/\(List.any (List.drop k l) (yN id)=false->False))/\(((List.getD l (Int.toNat (↑k:Int)) (@default P.Producer P.instInhabitedProducer)).id==id)=false->∃ (j:Nat),List.length l - j<List.length l - k/\(((b=b/\List.length l=List.length l/\ak (List.length l) (4:Nat) (ah P.ay l) (ah P.ay l))/\id=id/\IntKind.wrap IntKind.i64 ((↑k:Int)+(1:Int))=(↑j:Int)/\True)/\True/\true=true)/\true=true/\(List.any (List.drop j l) (yN id)=true->(List.any (List.drop k l) (yN id)=true->(true,j+List.findIdx (yN id) (List.drop j l))=(true,k+List.findIdx (yN id) (List.drop k l)))/\(List.any (List.drop k l) (yN id)=false->(true,j+List.findIdx (yN id) (List.drop j l))=(false,(0:Nat))))/\(List.any (List.drop j l) (yN id)=false->(List.any (List.drop k l) (yN id)=true->(false,(0:Nat))=(true,k+List.findIdx (yN id) (List.drop k l)))/\(List.any (List.drop k l) (yN id)=false->(false,(0:Nat))=(false,(0:Nat))))))/\(decide ((↑k:Int)<(↑(List.length l):Int))=false->(List.any (List.drop k l) (yN id)=true->False)/\(List.any (List.drop k l) (yN id)=false->True/\True/\true=true))
theorem QU (b:Bool) (l:List P.Producer) (id:Int) (k:Nat):(cu Tryz.prog (hT _) 55 2 (fun k=>l.length - k) (pdT b l id) (fun _=>[]) [0] (pdO l id) pdS k)=Zh b l id k:=by kernel_rfl
noncomputable def pdH (b:Bool) (l:List P.Producer) (id:Int):aC Tryz.prog:=hh _ (nu 55 2 (eP (pdT b l id) (fun _=>[]) [0] (pdO l id) pdS 0) bB) bA bq
def afg (b:Bool) (l:List P.Producer) (id:Int):Prop :=
 (((b=b/\List.length l=List.length l/\ak (List.length l) (4:Nat) (ah P.ay l) (ah P.ay l))/\id=id/\(0:Int)=(0:Int)/\True)/\True/\true=true)/\aQ Tryz.prog (55:Nat) (2:Nat) (aS Tryz.prog (55:Nat) (2:Nat)) { t:=pdT b l id (0:Nat),m:=[],mv:=[]:St } (T.map (bU [(0:Nat)] pdS) (pdO l id (0:Nat)))/\(List.any (List.drop (0:Nat) l) (yN id)=true->(↑((0:Nat)+List.findIdx (yN id) (List.drop (0:Nat) l)):Int)=fD l id/\True)/\(List.any (List.drop (0:Nat) l) (yN id)=false->(-1:Int)=fD l id/\True)
theorem Wy (b:Bool) (l:List P.Producer) (id:Int):(aZ Tryz.prog (pdH b l id) 55 [P.bG b l,.y (.int .u64 id)] [] (yP (fD l id)))=afg b l id:=by kernel_rfl
theorem Hw (l:List P.Producer) (id:Int):fD l id=if l.any (yN id) then ((l.findIdx (yN id):Nat):Int) else -1:=by
 unfold fD yN
 cases hf:l.findIdx? (fun y=>y.id==id) with
 | none =>
   have:=List.findIdx?_eq_none_iff.1 hf
   have h:l.any (fun y=>y.id==id)=false:=by
    rw [List.any_eq_false]
    intro y hy
    simpa using this y hy
   simp [h]
 | some i =>
   obtain ⟨h1,h2,_⟩:=List.findIdx?_eq_some_iff_getElem.1 hf
   have h:l.any (fun y=>y.id==id)=true:=List.any_eq_true.2 ⟨l[i],List.getElem_mem h1,h2⟩
   rw [if_pos h]
   have:=List.findIdx?_eq_some_iff_findIdx_eq.1 hf
   rw [this.2]
theorem UW (b:Bool) (l:List P.Producer) (id:Int) (hl:l.length<=9223372036854775806) (k:Nat):aQ Tryz.prog 55 2 (aS Tryz.prog 55 2) ⟨pdT b l id k,[],[]⟩ ((pdO l id k).map (bU [0] pdS)):=by
 refine fO Tryz.mixed (fun _=>rfl) (fun k=>(QU b l id k).mpr ?_) k
 unfold Zh
 simp
 refine ⟨fun h=>?_,fun h=>by simp [jJ h]⟩
 simp (disch:=omega) only [wrap_i64]
 rw [drop_cons h]
 simp only [List.any_cons,List.findIdx_cons]
 generalize l[k]?.getD default=y
 by_cases h1:y.id=id
 · simp [yN,h1,h]
 · simp [yN,h1,h,cast_succ_eq]
   exact ⟨k+1,by omega,rfl,by grind⟩
theorem ahu (b:Bool) (l:List P.Producer) (id:Int) (hl:l.length<=9223372036854775806):(yP (fD l id)).Sat (au Tryz.prog 55 [P.bG b l,.y (.int .u64 id)] []):=by
 refine aR (ht:=pdH b l id) Tryz.mixed rfl ?_
 rw [Wy b l id]
 unfold afg
 have:=UW b l id hl 0
 rw [Hw]
 simp [this]
noncomputable def pdC (b:Bool) (l:List P.Producer) (id:Int):dO Tryz.prog:=⟨55,[P.bG b l,.y (.int .u64 id)],[],.need (l.length<=9223372036854775806) (yP (fD l id)),T.Sat.need fun h=>ahu b l id h⟩
def c1T (k:Nat) (n:Nat):List AV:=mkT 167 [(1,.ptr 0 0 0 0),(6,.own 1 1 0 n),(7,.y (.int .i64 k))]
def c1M (b:Bool) (p:Part) (k:Nat):List aH:=[.box 30 (aW b p),agz (gq p.prods (lN (p.recs.take k)))]
def cS (b:Bool) (p:Part) (e:Nat) (r:Bool):Exit×List AV×List aH:=match r with
 | true=>(.exit e,mkT 167 [(1,.ptr 0 0 0 0)],[.box 30 (aW b p)])
 | false=>(.ret,mkT 167 [(2,.s (.int .i64 165))],[])
noncomputable def c1H (b:Bool) (p:Part) (k:Nat):aC Tryz.prog:=hh _ bB (cs1 15 11 4 (ZB p.rng (p.recs.getD k default).key) (cs1 15 12 4 (pdC b p.prods (p.recs.getD k default).prod) bA)) bq
def ae_ (b:Bool) (p:Part) (k:Nat):Prop :=
 (decide ((k:Int)<(p.recs.length:Int))=true->(true&&decide ((k:Int)<(p.recs.length:Int)))=true/\((p.rng.lo=p.rng.lo/\p.rng.hi=p.rng.hi/\True)/\(p.recs.getD (Int.toNat (k:Int)) default).key=(p.recs.getD k default).key/\True)/\True/\((b=b/\p.prods.length=p.prods.length/\ak p.prods.length 4 (ah P.ay p.prods) (ah P.ay p.prods))/\(p.recs.getD (Int.toNat (k:Int)) default).prod=(p.recs.getD k default).prod/\True)/\True/\p.prods.length<=9223372036854775806/\((!h_ p.rng (p.recs.getD k default).key)=true->(bO p k=true->False)/\(bO p k=false->((165:Int)=165/\True)/\True/\true=true))/\((!h_ p.rng (p.recs.getD k default).key)=false->(decide (fD p.prods (p.recs.getD k default).prod<0)=true->(bO p k=true->False)/\(bO p k=false->((165:Int)=165/\True)/\True/\true=true))/\(decide (fD p.prods (p.recs.getD k default).prod<0)=false->(decide (0<=fD p.prods (p.recs.getD k default).prod)&&decide (fD p.prods (p.recs.getD k default).prod<((gq p.prods (lN (List.take k p.recs))).length:Int)))=true/\decide (0+Int.toNat (fD p.prods (p.recs.getD k default).prod)<(gq p.prods (lN (List.take k p.recs))).length)=true/\(decide ((p.recs.getD (Int.toNat (k:Int)) default).seq<=(gq p.prods (lN (List.take k p.recs))).getD (0+Int.toNat (fD p.prods (p.recs.getD k default).prod)) 0)=true->(bO p k=true->False)/\(bO p k=false->((165:Int)=165/\True)/\True/\true=true))/\(decide ((p.recs.getD (Int.toNat (k:Int)) default).seq<=(gq p.prods (lN (List.take k p.recs))).getD (0+Int.toNat (fD p.prods (p.recs.getD k default).prod)) 0)=false->(decide (0<=fD p.prods (p.recs.getD k default).prod)&&decide (fD p.prods (p.recs.getD k default).prod<(p.prods.length:Int)))=true/\(decide ((p.prods.getD (Int.toNat (fD p.prods (p.recs.getD k default).prod)) default).seq<(p.recs.getD (Int.toNat (k:Int)) default).seq)=true->(bO p k=true->False)/\(bO p k=false->((165:Int)=165/\True)/\True/\true=true))/\(decide ((p.prods.getD (Int.toNat (fD p.prods (p.recs.getD k default).prod)) default).seq<(p.recs.getD (Int.toNat (k:Int)) default).seq)=false->(decide (0<=fD p.prods (p.recs.getD k default).prod)&&decide (fD p.prods (p.recs.getD k default).prod<((gq p.prods (lN (List.take k p.recs))).length:Int)))=true/\decide (0+Int.toNat (fD p.prods (p.recs.getD k default).prod)<(gq p.prods (lN (List.take k p.recs))).length)=true/\∃ j:Nat,p.recs.length - j<p.recs.length - k/\(((0=0/\0=0)/\(0=0/\(gq p.prods (lN (List.take k p.recs))).length=(gq p.prods (lN (List.take j p.recs))).length)/\IntKind.i64.wrap ((k:Int)+1)=(j:Int)/\True)/\((bE b b p p)/\((gq p.prods (lN (List.take k p.recs))).length=(gq p.prods (lN (List.take j p.recs))).length/\ak (gq p.prods (lN (List.take k p.recs))).length 1 (zS (ah Gp (gq p.prods (lN (List.take k p.recs)))) (0+Int.toNat (fD p.prods (p.recs.getD k default).prod)) 0 [AV.y (.int .u64 (p.recs.getD (Int.toNat (k:Int)) default).seq)]) (ah Gp (gq p.prods (lN (List.take j p.recs)))))/\True)/\true=true)/\true=true/\(bO p j=true->(bO p k=true->true=true)/\(bO p k=false->true=false))/\(bO p j=false->(bO p k=true->false=true)/\(bO p k=false->false=false)))))))/\(decide ((k:Int)<(p.recs.length:Int))=false->(bO p k=true->((0=0/\0=0)/\True)/\((bE b b p p)/\True)/\true=true)/\(bO p k=false->False))
theorem XW (b:Bool) (p:Part) (k:Nat):(cu Tryz.prog (c1H b p k) 15 8 (fun k=>p.recs.length - k) (fun k=>c1T k (gq p.prods (lN (p.recs.take k))).length) (c1M b p) Cx (Ua p) (cS b p 0) k)=ae_ b p k:=by kernel_rfl
def c2T (k:Nat):List AV:=mkT 167 [(1,.ptr 0 0 0 0),(11,.y (.int .i64 k))]
def c2O (p:Part) (k:Nat):T Bool:=.ite ((p.prods.drop k).any (dB p)) (.ret false) (.ret true)
def adg (b:Bool) (p:Part) (k:Nat):Prop :=
 (decide ((k:Int)<(p.prods.length:Int))=true->(true&&decide ((k:Int)<(p.prods.length:Int)))=true/\((!(p.prods.getD (Int.toNat (k:Int)) default).here)=true->∃ j:Nat,p.prods.length - j<p.prods.length - k/\(((0=0/\0=0)/\IntKind.i64.wrap ((k:Int)+1)=(j:Int)/\True)/\((bE b b p p)/\True)/\true=true)/\true=true/\(List.any (List.drop j p.prods) (dB p)=true->(List.any (List.drop k p.prods) (dB p)=true->false=false)/\(List.any (List.drop k p.prods) (dB p)=false->false=true))/\(List.any (List.drop j p.prods) (dB p)=false->(List.any (List.drop k p.prods) (dB p)=true->true=false)/\(List.any (List.drop k p.prods) (dB p)=false->true=true)))/\((!(p.prods.getD (Int.toNat (k:Int)) default).here)=false->(decide (IntKind.u64.wrap (p.recs.length:Int)<=(p.prods.getD (Int.toNat (k:Int)) default).offset)=true->(List.any (List.drop k p.prods) (dB p)=true->((165:Int)=165/\True)/\True/\true=true)/\(List.any (List.drop k p.prods) (dB p)=false->False))/\(decide (IntKind.u64.wrap (p.recs.length:Int)<=(p.prods.getD (Int.toNat (k:Int)) default).offset)=false->(decide (0<=IntKind.i64.wrap (p.prods.getD (Int.toNat (k:Int)) default).offset)&&decide (IntKind.i64.wrap (p.prods.getD (Int.toNat (k:Int)) default).offset<(p.recs.length:Int)))=true/\(((p.recs.getD (Int.toNat (IntKind.i64.wrap (p.prods.getD (Int.toNat (k:Int)) default).offset)) default).prod != (p.prods.getD (Int.toNat (k:Int)) default).id)=true->(List.any (List.drop k p.prods) (dB p)=true->((165:Int)=165/\True)/\True/\true=true)/\(List.any (List.drop k p.prods) (dB p)=false->False))/\(((p.recs.getD (Int.toNat (IntKind.i64.wrap (p.prods.getD (Int.toNat (k:Int)) default).offset)) default).prod != (p.prods.getD (Int.toNat (k:Int)) default).id)=false->(decide (0<=IntKind.i64.wrap (p.prods.getD (Int.toNat (k:Int)) default).offset)&&decide (IntKind.i64.wrap (p.prods.getD (Int.toNat (k:Int)) default).offset<(p.recs.length:Int)))=true/\(((p.recs.getD (Int.toNat (IntKind.i64.wrap (p.prods.getD (Int.toNat (k:Int)) default).offset)) default).seq != (p.prods.getD (Int.toNat (k:Int)) default).seq)=true->(List.any (List.drop k p.prods) (dB p)=true->((165:Int)=165/\True)/\True/\true=true)/\(List.any (List.drop k p.prods) (dB p)=false->False))/\(((p.recs.getD (Int.toNat (IntKind.i64.wrap (p.prods.getD (Int.toNat (k:Int)) default).offset)) default).seq != (p.prods.getD (Int.toNat (k:Int)) default).seq)=false->∃ j:Nat,p.prods.length - j<p.prods.length - k/\(((0=0/\0=0)/\IntKind.i64.wrap ((k:Int)+1)=(j:Int)/\True)/\((bE b b p p)/\True)/\true=true)/\true=true/\(List.any (List.drop j p.prods) (dB p)=true->(List.any (List.drop k p.prods) (dB p)=true->false=false)/\(List.any (List.drop k p.prods) (dB p)=false->false=true))/\(List.any (List.drop j p.prods) (dB p)=false->(List.any (List.drop k p.prods) (dB p)=true->true=false)/\(List.any (List.drop k p.prods) (dB p)=false->true=true)))))))/\(decide ((k:Int)<(p.prods.length:Int))=false->(List.any (List.drop k p.prods) (dB p)=true->False)/\(List.any (List.drop k p.prods) (dB p)=false->((0=0/\0=0)/\True)/\((bE b b p p)/\True)/\true=true))
theorem VA (b:Bool) (p:Part) (k:Nat):(cu Tryz.prog (hT _) 15 17 (fun k=>p.prods.length - k) c2T (fun _=>[.box 30 (aW b p)]) Cx (c2O p) (cS b p 2) k)=adg b p k:=by kernel_rfl
def c3T (k:Nat):List AV:=mkT 167 [(1,.ptr 0 0 0 0),(13,.y (.int .i64 k))]
def c3O (p:Part) (k:Nat):T Bool:=.ite ((p.cons.drop k).any (dw p.recs.length)) (.ret false) (.ret true)
def afL (b:Bool) (p:Part) (k:Nat):Prop :=
 (decide ((k:Int)<(p.cons.length:Int))=true->(true&&decide ((k:Int)<(p.cons.length:Int)))=true/\(decide (IntKind.u64.wrap (p.recs.length:Int)<(p.cons.getD (Int.toNat (k:Int)) default).off)=true->(List.any (List.drop k p.cons) (dw p.recs.length)=true->((165:Int)=165/\True)/\True/\true=true)/\(List.any (List.drop k p.cons) (dw p.recs.length)=false->False))/\(decide (IntKind.u64.wrap (p.recs.length:Int)<(p.cons.getD (Int.toNat (k:Int)) default).off)=false->∃ j:Nat,p.cons.length - j<p.cons.length - k/\(((0=0/\0=0)/\IntKind.i64.wrap ((k:Int)+1)=(j:Int)/\True)/\((bE b b p p)/\True)/\true=true)/\true=true/\(List.any (List.drop j p.cons) (dw p.recs.length)=true->(List.any (List.drop k p.cons) (dw p.recs.length)=true->false=false)/\(List.any (List.drop k p.cons) (dw p.recs.length)=false->false=true))/\(List.any (List.drop j p.cons) (dw p.recs.length)=false->(List.any (List.drop k p.cons) (dw p.recs.length)=true->true=false)/\(List.any (List.drop k p.cons) (dw p.recs.length)=false->true=true))))/\(decide ((k:Int)<(p.cons.length:Int))=false->(List.any (List.drop k p.cons) (dw p.recs.length)=true->False)/\(List.any (List.drop k p.cons) (dw p.recs.length)=false->((0=0/\0=0)/\True)/\((bE b b p p)/\True)/\true=true))
theorem Xu (b:Bool) (p:Part) (k:Nat):(cu Tryz.prog (hT _) 15 24 (fun k=>p.cons.length - k) c3T (fun _=>[.box 30 (aW b p)]) Cx (c3O p) (cS b p 4) k)=afL b p k:=by kernel_rfl
noncomputable def ckH (b:Bool) (p:Part):aC Tryz.prog:=hh _ (nu 15 8 (eP (fun k=>c1T k (gq p.prods (lN (p.recs.take k))).length) (c1M b p) Cx (Ua p) (cS b p 0) 0) (nu 15 17 (eP c2T (fun _=>[.box 30 (aW b p)]) Cx (c2O p) (cS b p 2) 0) (nu 15 24 (eP c3T (fun _=>[.box 30 (aW b p)]) Cx (c3O p) (cS b p 4) 0) bB)))
 (cs1 15 1 2 (lrC b p.recs) (cs1 15 2 2 (P.acW b p.prods) (cs1 15 3 2 (crC b p.cons) (cs1 15 4 2 (Z4 p.rng) bA)))) bq
def Qf (b:Bool) (p:Part):Prop :=
 ((b=b/\p.recs.length=p.recs.length/\ak p.recs.length 5 (ah encR p.recs) (ah encR p.recs))/\True)/\True/\p.recs.length<=9223372036854775806/\((b=b/\p.prods.length=p.prods.length/\ak p.prods.length 4 (ah P.ay p.prods) (ah P.ay p.prods))/\True)/\True/\p.prods.length<=9223372036854775806/\((b=b/\p.cons.length=p.cons.length/\ak p.cons.length 2 (ah aJ p.cons) (ah aJ p.cons))/\True)/\True/\p.cons.length<=9223372036854775806/\((p.rng.lo=p.rng.lo/\p.rng.hi=p.rng.hi/\True)/\True)/\True/\((iG p.rng != 0)=true->(aX p=true->(165:Int)=0/\True)/\(aX p=false->(165:Int)=165/\True))/\((iG p.rng != 0)=false->((p.epoch==0)=true->(aX p=true->(165:Int)=0/\True)/\(aX p=false->(165:Int)=165/\True))/\((p.epoch==0)=false->((!dN p.recs)=true->(aX p=true->(165:Int)=0/\True)/\(aX p=false->(165:Int)=165/\True))/\((!dN p.recs)=false->((!P.cK p.prods)=true->(aX p=true->(165:Int)=0/\True)/\(aX p=false->(165:Int)=165/\True))/\((!P.cK p.prods)=false->((!dJ p.cons)=true->(aX p=true->(165:Int)=0/\True)/\(aX p=false->(165:Int)=165/\True))/\((!dJ p.cons)=false->0<=(p.prods.length:Int)/\(p.prods.length:Int)<=(p.prods.length:Int)/\8*(p.prods.length:Int)<=281474976710656/\(p.prods.length:Int)<=9223372036854775807/\(((0=0/\0=0)/\(0=0/\Int.toNat (p.prods.length:Int)=(gq p.prods (fun (x:Int)=>false,fun (x:Int)=>0)).length)/\(0:Int)=0/\True)/\((bE b b p p)/\(Int.toNat (p.prods.length:Int)=(gq p.prods (fun (x:Int)=>false,fun (x:Int)=>0)).length/\ak (Int.toNat (p.prods.length:Int)) 1 (fun (x j:Nat)=>Ax.get [AV.s (.int .u64 0)] j) (ah Gp (gq p.prods (fun (x:Int)=>false,fun (x:Int)=>0))))/\True)/\true=true)/\aQ Tryz.prog 15 8 (aS Tryz.prog 15 8) { t:=c1T 0 (gq p.prods (lN (List.take 0 p.recs))).length,m:=c1M b p 0,mv:=[]:St } (T.map (bU Cx (cS b p 0)) (Ua p 0))/\(bO p 0=true->(((0=0/\0=0)/\(0:Int)=0/\True)/\((bE b b p p)/\True)/\true=true)/\aQ Tryz.prog 15 17 (aS Tryz.prog 15 17) { t:=c2T 0,m:=[aH.box (30:TypeId) (aW b p)],mv:=[]:St } (T.map (bU Cx (cS b p 2)) (c2O p 0))/\(List.any (List.drop 0 p.prods) (dB p)=true->(aX p=true->(165:Int)=0/\True)/\(aX p=false->(165:Int)=165/\True))/\(List.any (List.drop 0 p.prods) (dB p)=false->(((0=0/\0=0)/\(0:Int)=0/\True)/\((bE b b p p)/\True)/\true=true)/\aQ Tryz.prog 15 24 (aS Tryz.prog 15 24) { t:=c3T 0,m:=[aH.box (30:TypeId) (aW b p)],mv:=[]:St } (T.map (bU Cx (cS b p 4)) (c3O p 0))/\(List.any (List.drop 0 p.cons) (dw p.recs.length)=true->(aX p=true->(165:Int)=0/\True)/\(aX p=false->(165:Int)=165/\True))/\(List.any (List.drop 0 p.cons) (dw p.recs.length)=false->(aX p=true->(0:Int)=0/\True)/\(aX p=false->(0:Int)=165/\True))))/\(bO p 0=false->(aX p=true->(165:Int)=0/\True)/\(aX p=false->(165:Int)=165/\True)))))))
theorem Ec (b:Bool) (p:Part):(aZ Tryz.prog (ckH b p) 15 [.agg (aW b p)] [] (G7 (aX p) 165))=Qf b p:=by kernel_rfl
structure HV (p:Part):Prop where
 rl:p.recs.length<=4611686018427387903
 pl:p.prods.length<=4611686018427387903
 cl:p.cons.length<=4611686018427387903
 po:∀ x∈p.prods,0<=x.offset/\x.offset<18446744073709551616
 pn:p.prods.length<=35184372088832
 sq:∀ y∈p.recs,0<=y.seq
structure zJ (p:Part):Prop where
 ty:uf p
 pn:p.prods.length<=35184372088832
 sq:∀ y∈p.recs,0<=y.seq
theorem zJ.ins {p:Part} (h:zJ p):HV p:=⟨h.ty.rl,h.ty.pl,h.ty.cl,h.ty.po,h.pn,h.sq⟩
theorem Ul (b:Bool) (p:Part) (h:HV p) (ht:P.cK p.prods=true) (k:Nat):aQ Tryz.prog 15 8 (aS Tryz.prog 15 8) ⟨c1T k (gq p.prods (lN (p.recs.take k))).length,c1M b p k,[]⟩ ((Ua p k).map (bU Cx (cS b p 0))):=by
 refine dU (o:=Ua p) (qG:=fun k=>c1T k (gq p.prods (lN (p.recs.take k))).length) (stM:=c1M b p) Tryz.mixed (fun _=>rfl) (fun k=>(XW b p k).mpr ?_) k
 unfold ae_
 have hr:=h.rl
 have hp:=h.pl
 have hu:=P.kH ht
 by_cases hk:k<p.recs.length
 · have hok:=acn (k:=k) ht h.sq
   have hst:=H_ hk
   have hof:=ql hk
   have hz:decide ((k:Int)<p.recs.length)=true:=by simp;omega
   have hw:IntKind.i64.wrap ((k:Int)+1)=((k+1:Nat):Int):=by rw [wrap_i64 (by omega) (by omega)];omega
   unfold okD at hok
   simp only [hz,Int.toNat_natCast,mh] at *
   obtain ⟨x,hx⟩:∃ x,x=p.recs.getD k default:=⟨_,rfl⟩
   simp only [<- hx] at *
   rcases uM p.prods x.prod with ⟨h1,h2⟩ | ⟨i,h1,h2⟩
   · rw [h1] at hok
     have ho:okO p k=false:=by rw [<- hok];simp
     rw [ho] at hof
     simp [h1,hof]
     omega
   · obtain ⟨h3,h4⟩:=qJ h1
     have hi:¬ ((i:Nat):Int)<0:=by omega
     have hset:=MZ hu (lN (p.recs.take k)) h3 x.seq
     rw [h4] at hset
     have hwr:=RX (enc:=Gp) (l:=gq p.prods (lN (p.recs.take k))) (i:=i) (sz:=1) (n:=p.prods.length) (cs:=[AV.y (Value.int IntKind.u64 x.seq)]) (x:=x.seq) (by rw [mh]) (by rw [mh];exact h3) rfl (fun j hj=>by (obtain rfl:j=0:=by omega);exact bN _)
     rw [hset] at hwr
     rw [h1,Int.toNat_natCast] at hok
     simp only [h1,Int.toNat_natCast,Nat.zero_add]
     obtain ⟨la,hla⟩:∃ la,la=(gq p.prods (lN (p.recs.take k))).getD i 0:=⟨_,rfl⟩
     obtain ⟨pq,hpq⟩:∃ pq,pq=(p.prods.getD i default).seq:=⟨_,rfl⟩
     simp only [<- hla,<- hpq] at *
     cases hh:h_ p.rng x.key
     · have ho:okO p k=false:=by rw [<- hok];simp [hh]
       simp [hof,ho]
       try omega
     · by_cases h5:x.seq<=la
       · have ho:okO p k=false:=by rw [<- hok,hh];simp [h5]
         simp [hof,ho,h5,hi,h3]
         try omega
       · by_cases h6:pq<x.seq
         · have ho:okO p k=false:=by rw [<- hok,hh];simp [h5,h6]
           simp [hof,ho,h5,h6,hi,h3]
           try omega
         · have ho:okO p k=true:=by rw [<- hok,hh];simp [h5,h6,hi]
           simp [hof,ho,h5,h6,hi,h3]
           repeat' with_reducible apply And.intro
           all_goals first
            | omega
            | (refine Exists.intro (k+1) ?_
               rw [hst]
               repeat' with_reducible apply And.intro
               all_goals first
                | omega
                | exact hw
                | exact hwr
                | (simp [mh];done)
                | (intro hq;simp [hq]))
 · have hz:decide ((k:Int)<p.recs.length)=false:=by simp;omega
   simp [hz,tX (show p.recs.length<=k by omega)]
   try exact fun e=>absurd e hk
theorem V7 (b:Bool) (p:Part) (h:HV p) (k:Nat):aQ Tryz.prog 15 17 (aS Tryz.prog 15 17) ⟨c2T k,[.box 30 (aW b p)],[]⟩ ((c2O p k).map (bU Cx (cS b p 2))):=by
 refine fO (stM:=fun _=>[.box 30 (aW b p)]) Tryz.mixed (fun _=>rfl) (fun k=>(VA b p k).mpr ?_) k
 unfold adg
 have hr:=h.rl
 have hp:=h.pl
 by_cases hk:k<p.prods.length
 · have hz:decide ((k:Int)<p.prods.length)=true:=by simp;omega
   have hw:IntKind.i64.wrap ((k:Int)+1)=((k+1:Nat):Int):=by rw [wrap_i64 (by omega) (by omega)];omega
   have hwr:IntKind.u64.wrap (p.recs.length:Int)=p.recs.length:=wrap_u64 (by omega) (by omega)
   have hd:(p.prods.drop k).any (dB p)=(dB p (p.prods.getD k default)||(p.prods.drop (k+1)).any (dB p)):=by
    rw [drop_cons hk,List.any_cons];simp
   have hpo:=h.po (p.prods.getD k default) (by simp [hk])
   simp only [hz,Int.toNat_natCast,hwr,hd]
   obtain ⟨x,hx⟩:∃ x,x=p.prods.getD k default:=⟨_,rfl⟩
   simp only [<- hx] at *
   have hwo:x.offset<(p.recs.length:Int)->IntKind.i64.wrap x.offset=x.offset:=fun h=>wrap_i64 (by omega) (by omega)
   have hex:∀ q:Nat->Prop,q (k+1)->∃ j,p.prods.length - j<p.prods.length - k/\q j:=fun q h=>⟨k+1,by omega,h⟩
   have hcl:ak p.recs.length 5 (ah encR p.recs) (ah encR p.recs):=aO _ _ _
   obtain ⟨rest,hR⟩:∃ rest,rest=(p.prods.drop (k+1)).any (dB p):=⟨_,rfl⟩
   have hexR:∀ q:Nat->Bool->Prop,q (k+1) rest->∃ j,p.prods.length - j<p.prods.length - k/\q j ((p.prods.drop j).any (dB p)):=fun q h=>⟨k+1,by omega,by rw [<- hR];exact h⟩
   rw [<- hR]
   clear hd hR
   have hlo:dB p x=(x.here&&(decide ((p.recs.length:Int)<=x.offset)||((p.recs.getD x.offset.toNat default).prod != x.id||(p.recs.getD x.offset.toNat default).seq != x.seq))):=rfl
   have fin:∀ q:Nat->Bool->Prop,q (k+1) rest->∃ j,p.prods.length - j<p.prods.length - k/\q j ((p.prods.drop j).any (dB p)):=hexR
   cases hh:x.here
   · rw [hh] at hlo
     simp only [Bool.false_and] at hlo
     simp [hlo,hh,-List.any_eq_true,-List.any_eq_false]
     refine fin (fun j r=>_/\(r=true->rest=true)/\(r=false->rest=false)) ?_
     simp [hw]
   · by_cases h1:(p.recs.length:Int)<=x.offset
     · rw [hh] at hlo
       simp [h1] at hlo
       simp [hlo,hh,h1]
       try omega
     · have h1':x.offset<p.recs.length:=by omega
       rw [hwo h1']
       rw [hh] at hlo
       obtain ⟨a,ha⟩:∃ a,a=p.recs.getD x.offset.toNat default:=⟨_,rfl⟩
       simp only [<- ha] at *
       have h0:=hpo.1
       by_cases h2:a.prod=x.id
       · by_cases h3:a.seq=x.seq
         · simp [h1,h2,h3] at hlo
           simp [hlo,hh,h1,h2,h3,h1',h0,-List.any_eq_true,-List.any_eq_false]
           refine fin (fun j r=>_/\(r=true->rest=true)/\(r=false->rest=false)) ?_
           simp [hw]
         · simp [h1,h2,h3] at hlo
           simp [hlo,hh,h1,h2,h3,h1',h0]
       · simp [h1,h2] at hlo
         simp [hlo,hh,h1,h2,h1',h0]
 · have hz:decide ((k:Int)<p.prods.length)=false:=by simp;omega
   simp [hz,jJ (show p.prods.length<=k by omega)]
   try exact fun e=>absurd e hk
theorem UM (b:Bool) (p:Part) (h:HV p) (k:Nat):aQ Tryz.prog 15 24 (aS Tryz.prog 15 24) ⟨c3T k,[.box 30 (aW b p)],[]⟩ ((c3O p k).map (bU Cx (cS b p 4))):=by
 refine fO (stM:=fun _=>[.box 30 (aW b p)]) Tryz.mixed (fun _=>rfl) (fun k=>(Xu b p k).mpr ?_) k
 unfold afL
 have hr:=h.rl
 have hc:=h.cl
 by_cases hk:k<p.cons.length
 · have hz:decide ((k:Int)<p.cons.length)=true:=by simp;omega
   have hw:IntKind.i64.wrap ((k:Int)+1)=((k+1:Nat):Int):=by rw [wrap_i64 (by omega) (by omega)];omega
   have hwr:IntKind.u64.wrap (p.recs.length:Int)=p.recs.length:=wrap_u64 (by omega) (by omega)
   have hd:(p.cons.drop k).any (dw p.recs.length)=(dw p.recs.length (p.cons.getD k default)||(p.cons.drop (k+1)).any (dw p.recs.length)):=by
    rw [drop_cons hk,List.any_cons];simp
   simp only [hz,Int.toNat_natCast,hwr,hd]
   obtain ⟨x,hx⟩:∃ x,x=p.cons.getD k default:=⟨_,rfl⟩
   simp only [<- hx] at *
   obtain ⟨rest,hR⟩:∃ rest,rest=(p.cons.drop (k+1)).any (dw p.recs.length):=⟨_,rfl⟩
   have fin:∀ q:Nat->Bool->Prop,q (k+1) rest->∃ j,p.cons.length - j<p.cons.length - k/\q j ((p.cons.drop j).any (dw p.recs.length)):=fun q h=>⟨k+1,by omega,by rw [<- hR];exact h⟩
   rw [<- hR]
   clear hd hR
   by_cases h1:(p.recs.length:Int)<x.off
   · have hlo:dw p.recs.length x=true:=by simp [dw,h1]
     simp [hlo,h1]
     try omega
   · have hlo:dw p.recs.length x=false:=by simp [dw];omega
     simp [hlo,h1,-List.any_eq_true,-List.any_eq_false]
     refine fin (fun j r=>_/\(r=true->rest=true)/\(r=false->rest=false)) ?_
     simp [hw]
 · have hz:decide ((k:Int)<p.cons.length)=false:=by simp;omega
   simp [hz,jJ (show p.cons.length<=k by omega)]
   try exact fun e=>absurd e hk
theorem ad4 (l:List P.Producer) (i:Nat):(gq l (fun _=>false,fun _=>0)).getD i 0=0:=by
 unfold gq
 rw [show (l.map fun y=>Kn.sel (fun _=>false,fun _=>0) y.id)=l.map fun _=>(0:Int) from List.map_congr_left fun y _=>rfl]
 simp
 cases l[i]?<;>rfl
theorem Vb (l:List P.Producer):ak l.length 1 (fun (_ j:Nat)=>Ax.get [AV.s (Value.int IntKind.u64 0)] j) (ah Gp (gq l (fun _=>false,fun _=>0))):=by
 intro i _ j hj
 unfold ah
 rw [show (default:Int)=0 from rfl,ad4]
 obtain rfl:j=0:=by omega
 exact rfl
theorem Zt (b:Bool) (p:Part) (h:HV p):(G7 (aX p) 165).Sat (au Tryz.prog 15 [.agg (aW b p)] []):=by
 refine aR (ht:=ckH b p) Tryz.mixed rfl ?_
 rw [Ec b p]
 unfold Qf
 have l1:=fun ht=>Ul b p h ht 0
 have l2:=V7 b p h 0
 have l3:=UM b p h 0
 obtain ⟨h1,h2,h3,h4,h6,_⟩:=h
 unfold aX
 have g1:p.recs.length<=9223372036854775806:=by omega
 have g2:p.prods.length<=9223372036854775806:=by omega
 have g3:p.cons.length<=9223372036854775806:=by omega
 simp only [List.drop_zero]
 generalize bO p 0=a1
 obtain ⟨a2,ha2⟩:∃ a2,a2=p.prods.any (dB p):=⟨_,rfl⟩
 obtain ⟨a3,ha3⟩:∃ a3,a3=p.cons.any (dw p.recs.length):=⟨_,rfl⟩
 rw [<- ha2,<- ha3]
 generalize dN p.recs=a4
 have zr:=Vb p.prods
 have cr:=aO p.recs.length 5 (ah encR p.recs)
 have cp:=aO p.prods.length 4 (ah P.ay p.prods)
 have cc:=aO p.cons.length 2 (ah aJ p.cons)
 cases a5:P.cK p.prods
 · cases a4<;>by_cases c1:iG p.rng=0<;>by_cases c2:p.epoch=0<;>simp [c1,c2,g1,g2,g3,cr,cp,cc]
 · have l1':=l1 a5
   simp only [mh] at l1'
   generalize dJ p.cons=a6
   have o1:8*p.prods.length<=281474976710656:=by omega
   have o2:(8*(p.prods.length:Int))<=281474976710656:=by omega
   have o3:(p.prods.length:Int)<=9223372036854775807:=by omega
   simp only [Int.toNat_natCast]
   by_cases c1:iG p.rng=0<;>by_cases c2:p.epoch=0<;>cases a1<;>cases a2<;>cases a3<;>cases a4<;>cases a6<;>simp [c1,c2,g1,g2,g3,cr,cp,cc,zr,mh,l1',l2,l3,o2,o3]
theorem abH (b:Bool) (p:Part) (h:zJ p):(G7 (aX p) 165).Sat (au Tryz.prog 15 [.agg (aW b p)] []):=Zt b p h.ins
noncomputable def ckC (b:Bool) (p:Part):dO Tryz.prog:=⟨15,[.agg (aW b p)],[],.need (zJ p) (G7 (aX p) 165),T.Sat.need fun h=>abH b p h⟩
end Q
end Go.Proofs.YtnbhdjadlbhknaaGreatDoor
