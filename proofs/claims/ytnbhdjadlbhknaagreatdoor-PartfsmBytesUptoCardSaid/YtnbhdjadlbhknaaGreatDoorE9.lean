import Derived.Laws.MakeOwn
import Derived.Laws.BytesString
import Derived.Laws.AppendOwn
import Derived.MapKept
import Derived.Laws.CopyRow
import Derived.Lib.AppendStr
import Derived.Lib.ConvBytes
import Derived.Stop.Asserts
import Derived.Laws.Externs
import Derived.Test.YtnbhdjadlbhknaaGreatDoorE8
set_option linter.unusedVariables false
set_option linter.unusedSimpArgs false
set_option linter.unusedSectionVars false
namespace Go.Ax
open Go
variable [Inhabited kK]
theorem fI {P:Program} {o:Oper} {t:Nat->AV} {M:List aH} {e:CE}
 (h:∀ H E w a,Conc H E w M->jM t H E a->∃ v w' H' E',(execOp a.eval o).run P w=.ok (.value v) w'/\Rel e.r H' E' v/\Conc H' E' w' (eH e.wr (fF e.kl M))/\cO e.kl H E w H' E' w'):StepT P o t M e:=by
 intro H E w a K Q hC hT hd hk
 obtain ⟨v,w',H',E',hv,h1,h2,h3⟩:=h H E w a hC hT
 unfold Oper.wp
 rw [hv]
 exact hk v w' H' E' h1 h2 h3
def J5:AV->Option Value
 | .s v=>some v
 | .y v=>some v
 | _=>none
theorem iw {x:AV} {v:Value} (h:J5 x=some v) {H:HH} {E:Env} {u:Value} (hr:Rel x H E u):u=v:=by
 cases x<;>simp only [J5] at h<;>first | (cases h;exact hr.1) | cases h
def Dj:AV->Bool
 | .s _=>true
 | _=>false
def O9 (known:Bool) (b:Bool) (v:Value) (rd:List Nat):Option CE:=match known with
 | true=>(match b with | true=>some ⟨.s v,rd,[],[],[]⟩ | false=>none)
 | false=>some ⟨.y v,rd,[],[],[b=true]⟩
theorem y7 {P:Program} {o:Oper} {t:Nat->AV} {rdf:Nat->aH} {known b:Bool} {v:Value} {rd:List Nat} {e:CE} (h:O9 known b v rd=some e) (hs:scalar v=true) (ho:Hold e.ob)
 (hr:b=true->∀ M,(∀ i∈rd,getM M i=rdf i)->∀ H E w a,Conc H E w M->jM t H E a->(execOp a.eval o).run P w=.ok (.value v) w):CE.Good P o t rdf e:=by
 intro M hM
 cases known with
 | true =>
   cases b with
   | false=>cases h
   | true =>
     cases h
     exact fI fun H E w a hC hT=>⟨v,w,H,E,hr rfl M hM H E w a hC hT,⟨rfl,hs⟩,hC,cO.refl _ _ _ _⟩
 | false =>
   cases h
   exact fI fun H E w a hC hT=>⟨v,w,H,E,hr (ho (b=true) (by simp)) M hM H E w a hC hT,⟨rfl,hs⟩,hC,cO.refl _ _ _ _⟩
def ibV (op:BinOp) (k:IntKind) (a b:Int):Option (Bool×Int):=match op with
 | .quo=>some (decide (b≠0),k.wrap (a.tdiv b))
 | .rem=>some (decide (b≠0),a.tmod b)
 | .and=>some (true,k.wrap (BitVec.ofInt k.bits a &&& BitVec.ofInt k.bits b).toNat)
 | .or=>some (true,k.wrap (BitVec.ofInt k.bits a ||| BitVec.ofInt k.bits b).toNat)
 | .xor=>some (true,k.wrap (BitVec.ofInt k.bits a ^^^ BitVec.ofInt k.bits b).toNat)
 | _=>none
def shV (op:BinOp) (k:IntKind) (a b:Int):Option (Bool×Int):=match op with
 | .shl=>some (decide (0<=b),k.wrap (a*2 ^ (min b.toNat k.bits)))
 | .shr=>some (decide (0<=b),a.fdiv (2 ^ (min b.toNat k.bits)))
 | _=>none
def aaU (o:Oper) (t:Nat->AV):Option CE :=
 match o.op with
 | .binOp op _ x y _=>(match J5 (ev t x),J5 (ev t y) with
   | some (.int k a),some (.int k' b)=>(match shV op k a b with
     | some (c,v)=>O9 (Dj (ev t x)&&Dj (ev t y)) c (.int k v) []
     | none=>if k=k' then (match ibV op k a b with | some (c,v)=>O9 (Dj (ev t x)&&Dj (ev t y)) c (.int k v) [] | none=>none) else none)
   | some (.string a),some (.string b)=>(match op with
     | .add=>O9 (Dj (ev t x)&&Dj (ev t y)) (decide (a.size+b.size<=9223372036854775807)) (.string (a++b)) []
     | _=>none)
   | _,_=>none)
 | _=>none
theorem Vl {P:Program} {o:Oper} {t:Nat->AV} {rd:Nat->aH} {e:CE} (h:aaU o t=some e) (ho:Hold e.ob):CE.Good P o t rd e:=by
 unfold aaU at h
 split at h
 case h_2=>cases h
 rename_i op ty x y f hop
 split at h
 · rename_i k a k' b hx hy
   split at h
   · rename_i c v hv
     refine y7 h rfl ho fun hc M _ H E w ac hC hT=>?_
     have h1:=iw hx (aV hT x)
     have h2:=iw hy (aV hT y)
     unfold shV at hv
     split at hv
     · obtain ⟨rfl,rfl⟩:=Prod.mk.inj (Option.some.inj hv)
       have hb:0<=b:=of_decide_eq_true hc
       simp [execOp,hop,h1,h2,eqGuard,binOp,Op.shift,Int.not_lt.2 hb]
     · obtain ⟨rfl,rfl⟩:=Prod.mk.inj (Option.some.inj hv)
       have hb:0<=b:=of_decide_eq_true hc
       simp [execOp,hop,h1,h2,eqGuard,binOp,Op.shift,Int.not_lt.2 hb]
     · cases hv
   · split at h
     case isFalse=>cases h
     rename_i hk
     subst hk
     split at h
     case h_2=>cases h
     rename_i c v hv
     refine y7 h rfl ho fun hc M _ H E w ac hC hT=>?_
     have h1:=iw hx (aV hT x)
     have h2:=iw hy (aV hT y)
     unfold ibV at hv
     split at hv
     · obtain ⟨rfl,rfl⟩:=Prod.mk.inj (Option.some.inj hv)
       have hb:b≠0:=of_decide_eq_true hc
       simp [execOp,hop,h1,h2,eqGuard,binOp,Op.intDiv,hb]
     · obtain ⟨rfl,rfl⟩:=Prod.mk.inj (Option.some.inj hv)
       have hb:b≠0:=of_decide_eq_true hc
       simp [execOp,hop,h1,h2,eqGuard,binOp,Op.intDiv,hb]
     · cases hv
       simp [execOp,hop,h1,h2,eqGuard,binOp,Op.intBits]
     · cases hv
       simp [execOp,hop,h1,h2,eqGuard,binOp,Op.intBits]
     · cases hv
       simp [execOp,hop,h1,h2,eqGuard,binOp,Op.intBits]
     · cases hv
 · rename_i a b hx hy
   split at h
   case h_2=>cases h
   refine y7 h rfl ho fun hc M _ H E w ac hC hT=>?_
   have h1:=iw hx (aV hT x)
   have h2:=iw hy (aV hT y)
   have hb:=of_decide_eq_true hc
   have hm:IntKind.i64.max=9223372036854775807:=by decide
   have hn:¬ (9223372036854775807<((a.size:Int)+(b.size:Int))):=by omega
   simp [execOp,hop,h1,h2,eqGuard,binOp,Op.stringOp,hm,hn]
 · cases h
def JX (s:ByteArray) (q:Int):Int:=((s.data.toList.getD q.toNat 0).toNat:Nat)
def h_ (P:Program) (o:Oper) (t:Nat->AV):Option CE :=
 match o.op with
 | .index ty x i=>(match P.underlying ty,J5 (ev t x),J5 (ev t i) with
   | some .string,some (.string s),some (.int _ q)=>O9 (Dj (ev t x)&&Dj (ev t i)) (decide (0<=q)&&decide (q<(s.size:Nat))) (.int .u8 (JX s q)) []
   | _,_,_=>none)
 | _=>none
theorem Ve {P:Program} {o:Oper} {t:Nat->AV} {rd:Nat->aH} {e:CE} (h:h_ P o t=some e) (ho:Hold e.ob):CE.Good P o t rd e:=by
 unfold h_ at h
 split at h
 case h_2=>cases h
 rename_i ty x i hop
 split at h
 case h_2=>cases h
 rename_i s k q hu hx hi
 refine y7 h rfl ho fun hc M _ H E w ac hC hT=>?_
 have h1:=iw hx (aV hT x)
 have h2:=iw hi (aV hT i)
 simp only [Bool.and_eq_true,decide_eq_true_eq] at hc
 have hlt:q.toNat<s.size:=by omega
 have hb:s[q.toNat]? = some (s[q.toNat]'hlt):=getElem?_pos s q.toNat hlt
 have hv:JX s q=(s[q.toNat]'hlt).toNat:=by
  unfold JX
  rw [List.getD,Array.getElem?_toList,Array.getElem?_eq_getElem (by simpa using hlt)]
  rfl
 simp [execOp,hop,h1,h2,Instr.index,run_underlying hu,asIntOf,hc.1,hb,hv]
def Ow:AV->Option Int
 | .s (.int .u8 n)=>some n
 | .y (.int .u8 n)=>some n
 | _=>none
def WE (a:AV):Bool:=match Ow a with | some _=>true | none=>false
def byteOf (a:AV):UInt8:=match Ow a with | some n=>UInt8.ofNat n.toNat | none=>0
def DT (l:List AV):ByteArray:=⟨(l.map byteOf).toArray⟩
def x9:List AV->Bool
 | []=>true
 | a::l=>WE a&&x9 l
def ad5:List AV->Bool
 | []=>true
 | a::l=>Dj a&&ad5 l
def JC (n:Nat) (d:Nat->Nat->AV):List AV:=(List.range n).map fun k=>d k 0
def u6 (n:Nat) (d:Nat->Nat->AV):ByteArray:=DT (JC n d)
def BO (d:Nat->Nat->AV):Nat->Nat->List AV
 | _,0=>[]
 | k,n+1=>d k 0::BO d (k+1) n
def XK (known:Bool) (l:List AV) (rd:List Nat):Option CE:=match x9 l with
 | true=>(match known&&ad5 l with | true=>some ⟨.s (.string (DT l)),rd,[],[],[]⟩ | false=>some ⟨.y (.string (DT l)),rd,[],[],[]⟩)
 | false=>none
def VH (rd:Nat->aH):AV->Bool
 | .sl ..=>true
 | .own i _ _ _=>(match rd i with | .lst ..=>true | _=>false)
 | .s _=>true
 | _=>false
def toStr (P:Program) (rd:Nat->aH) (o:Oper) (t:Nat->AV):Option CE :=
 match o.op with
 | .convert src dst x=>(match P.underlying src,P.underlying dst with
   | some (.slice el),some .string=>(match P.underlying el,pJ rd 1 (sv (ev t x)) with
     | some (.int .u8),some (n,some l,_)=>(match Nat.beq (len l) n with | true=>XK true l (iG (sv (ev t x))) | false=>none)
     | some (.int .u8),some (n,none,d)=>(match VH rd (ev t x) with
       | true=>XK true (BO d 0 n) (iG (sv (ev t x)))
       | false=>some ⟨.y (.string (u6 n d)),iG (sv (ev t x)),[],[],[∀ k,k<n->WE (d k 0)=true]⟩)
     | _,_=>none)
   | _,_=>none)
 | _=>none
theorem Vw {a:AV} {n:Int} (h:Ow a=some n) {H:HH} {E:Env} {v:Value} (hr:Rel a H E v):v=.int .u8 n:=by
 unfold Ow at h
 split at h
 · cases h;exact hr.1
 · cases h;exact hr.1
 · cases h
theorem M_ {P:Program} {w:World} {A:Option Addr} {m c:Nat} {news:List Value} {L:List AV} {H:HH} {E:Env} (hl:news.length=m) (hA:A=none->m=0) (hcell:∀ ad,A=some ad->∀ j u,news[j]? = some u->w.cell? (ad.add j)=some u)
 (hr:aI L H E news) (hu:x9 L=true):(Conv.bytesToString (.slice A m c)).run P w=.ok (.string (DT L)) w:=by
 have key:∀ (L:List AV) (news:List Value),aI L H E news->x9 L=true->∃ ns:List Int,news=ns.map (Value.int .u8)/\ns.map (fun n=>UInt8.ofNat n.toNat)=L.map byteOf:=by
  intro L
  induction L with
  | nil=>intro news h _;have h:news=[]:=h;subst h;exact ⟨[],rfl,rfl⟩
  | cons a L ih =>
    intro news h hu
    obtain ⟨v,r,rfl,h1,h2⟩:=h
    simp only [x9,Bool.and_eq_true] at hu
    obtain ⟨ns,rfl,hns⟩:=ih r h2 hu.2
    obtain ⟨n,hn⟩:∃ n,Ow a=some n:=by
     have:=hu.1
     unfold WE at this
     cases hq:Ow a with
     | some n=>exact ⟨n,rfl⟩
     | none=>rw [hq] at this;cases this
    exact ⟨n::ns,by rw [Vw hn h1];rfl,by simp [hns,byteOf,hn]⟩
 obtain ⟨ns,rfl,hns⟩:=key L news hr hu
 have fold:∀ (ns:List Int) (s:ByteArray),ns.foldl (fun r n=>r.push (UInt8.ofNat n.toNat)) s=⟨s.data++(ns.map fun n=>UInt8.ofNat n.toNat).toArray⟩:=by
  intro ns
  induction ns with
  | nil=>intro s;simp
  | cons n ns ih =>
    intro s
    rw [List.foldl_cons,ih]
    simp [ByteArray.push]
 cases A with
 | none =>
   have hm:=hA rfl
   subst hm
   have:ns=[]:=by simpa using hl
   subst this
   simp only [List.map_nil] at hns
   simp only [DT,<- hns]
   simp [Conv.bytesToString,Sem.run_pure]
   rfl
 | some ad =>
   have hload:(loadCells ad m).run P w=.ok (ns.map (Value.int .u8)).toArray w:=by
    have:=run_loadCells_list (P:=P) w ad (ns.map (Value.int .u8)) fun j u hj=>hcell ad rfl j u hj
    rw [hl] at this
    exact this
   rw [run_bytesToString w ad m c ns hload,fold]
   simp only [DT,hns]
   simp
theorem LC (d:Nat->Nat->AV):∀ (n q:Nat),BO d q n=(List.range' q n).map fun k=>d k 0
 | 0,_=>rfl
 | n+1,q=>by rw [BO,LC d n (q+1),List.range'_succ];rfl
theorem Ob (n:Nat) (d:Nat->Nat->AV):JC n d=BO d 0 n:=by rw [JC,LC,List.range_eq_range']
theorem Co {H:HH} {E:Env} {d:Nat->Nat->AV}:∀ (n q:Nat) (news:List Value),news.length=n->(∀ k,k<n->∃ u,news[k]? = some u/\Rel (d (q+k) 0) H E u)->aI (BO d q n) H E news
 | 0,_,news,hl,_=>by
   have:news=[]:=by simpa using hl
   exact this
 | n+1,q,news,hl,h=>by
   obtain ⟨v,r,rfl⟩:∃ v r,news=v::r:=by
    cases news with
    | nil=>simp at hl
    | cons v r=>exact ⟨v,r,rfl⟩
   refine ⟨v,r,rfl,?_,Co n (q+1) r (by simpa using hl) fun k hk=>?_⟩
   · obtain ⟨u,hu,hr⟩:=h 0 (by omega)
     simp at hu
     subst hu
     exact hr
   · obtain ⟨u,hu,hr⟩:=h (k+1) (by omega)
     refine ⟨u,by simpa using hu,?_⟩
     rw [show q+1+k=q+(k+1) by omega];exact hr
theorem Av (d:Nat->Nat->AV):∀ (n q:Nat),(∀ k,k<n->WE (d (q+k) 0)=true)->x9 (BO d q n)=true
 | 0,_,_=>rfl
 | n+1,q,h=>by
   simp only [BO,x9,Bool.and_eq_true]
   exact ⟨h 0 (by omega),Av d n (q+1) fun k hk=>by rw [show q+1+k=q+(k+1) by omega];exact h (k+1) (by omega)⟩
theorem QV {P:Program} {o:Oper} {t:Nat->AV} {rd:Nat->aH} {e:CE} (h:toStr P rd o t=some e) (ho:Hold e.ob):CE.Good P o t rd e:=by
 unfold toStr at h
 split at h
 case h_2=>cases h
 rename_i src dst x hop
 split at h
 case h_2=>cases h
 rename_i el hsrc hdst
 have go:∀ (L:List AV) (v:AV) (rds:List Nat),P.underlying el=some (.int .u8)->x9 L=true->(v=.s (.string (DT L))∨v=.y (.string (DT L))) ->
  (∀ M,(∀ i∈rds,getM M i=rd i)->∀ H E w a,Conc H E w M->jM t H E a->∃ A m c,∃ news:List Value,a.eval x=.slice A m c/\news.length=m/\(A=none->m=0)/\(∀ ad,A=some ad->∀ j u,news[j]? = some u->w.cell? (ad.add j)=some u)/\∃ E',aI L H E' news) ->
  ∀ ob,CE.Good P o t rd ⟨v,rds,[],[],ob⟩:=by
  intro L v rds hel hu hv hsrc2 ob M hM
  refine fI fun H E w a hC hT=>?_
  obtain ⟨A,m,c,news,hx,hl,hA,hcell,E',hr⟩:=hsrc2 M hM H E w a hC hT
  have hrun:=M_ (P:=P) (c:=c) hl hA hcell hr hu
  refine ⟨.string (DT L),w,H,E,?_,?_,hC,cO.refl _ _ _ _⟩
  · simp [execOp,hop,hx,run_convert_bytes_string w src dst el A m c hsrc hel hdst,hrun]
  · rcases hv with rfl | rfl<;>exact ⟨rfl,rfl⟩
 have hcong:∀ M,(∀ i∈iG (sv (ev t x)),getM M i=rd i)->pJ (getM M) 1 (sv (ev t x))=pJ rd 1 (sv (ev t x)):=fun M hM=>yE hM
 split at h
 · rename_i n l d hel hs
   split at h
   case h_2=>cases h
   rename_i hn
   unfold XK at h
   split at h
   case h_2=>cases h
   rename_i hu
   have hsrc2:∀ M,(∀ i∈iG (sv (ev t x)),getM M i=rd i)->∀ H E w a,Conc H E w M->jM t H E a->∃ A m c,∃ news:List Value,a.eval x=.slice A m c/\news.length=m/\(A=none->m=0)/\(∀ ad,A=some ad->∀ j u,news[j]? = some u->w.cell? (ad.add j)=some u)/\∃ E',aI l H E' news:=by
    intro M hM H E w a hC hT
    obtain ⟨A,c,news,h1,h2,h3,h4,h5,h6,h7⟩:=uP hC (xu (aV hT x)) (Nat.zero_lt_one) ((hcong M hM).trans hs)
    exact ⟨A,n,c,news,h1,by simpa using h2,h3,h4,E,h6 l rfl⟩
   split at h
   · cases h;exact go l _ _ hel hu (.inl rfl) hsrc2 _
   · cases h;exact go l _ _ hel hu (.inr rfl) hsrc2 _
 · rename_i n d hel hs
   have hsrc2:∀ M,(∀ i∈iG (sv (ev t x)),getM M i=rd i)->∀ H E w a,Conc H E w M->jM t H E a->∃ A m c,∃ news:List Value,a.eval x=.slice A m c/\news.length=m/\(A=none->m=0)/\(∀ ad,A=some ad->∀ j u,news[j]? = some u->w.cell? (ad.add j)=some u)/\∃ E',aI (BO d 0 n) H E' news:=by
    intro M hM H E w a hC hT
    obtain ⟨A,c,news,h1,h2,h3,h4,h5,h6,h7⟩:=uP hC (xu (aV hT x)) (Nat.zero_lt_one) ((hcong M hM).trans hs)
    refine ⟨A,n,c,news,h1,by simpa using h2,h3,h4,E0,Co n 0 news (by simpa using h2) fun k hk=>?_⟩
    obtain ⟨u,hu,hr⟩:=h7 rfl k hk 0 (by omega)
    refine ⟨u,by simpa using hu,?_⟩
    rw [Nat.zero_add];exact hr
   split at h
   · unfold XK at h
     split at h
     case h_2=>cases h
     rename_i hu
     split at h
     · cases h;exact go _ _ _ hel hu (.inl rfl) hsrc2 _
     · cases h;exact go _ _ _ hel hu (.inr rfl) hsrc2 _
   · cases h
     have hob:=ho _ (List.mem_singleton.2 rfl)
     refine go (BO d 0 n) _ _ hel (Av d n 0 fun k hk=>by rw [Nat.zero_add];exact hob k hk) (.inr ?_) hsrc2 _
     rw [u6,Ob]
 · cases h
def mkZ (P:Program) (nid:Nat) (o:Oper) (t:Nat->AV):Option CE :=
 match o.op with
 | .makeSlice ty l c=>(match P.underlying ty,J5 (ev t l),J5 (ev t c) with
   | some (.slice el),some (.int _ a),some (.int _ b)=>(match P.info? el,yB P el with
     | some i,some z=>(match Nat.ble 1 i.size&&Nat.beq (len z) i.size&&fG z with
       | true=>(match Dj (ev t l)&&Dj (ev t c) with
         | true=>(match decide (0<=a)&&decide (a<=b)&&decide ((i.bytes:Int)*b<=281474976710656)&&decide (b<=9223372036854775807) with
           | true=>some ⟨.own nid i.size 0 a.toNat,[nid],[(nid,.lst el i.size a.toNat (some b.toNat) (rep z a.toNat))],[],[]⟩
           | false=>none)
         | false=>some ⟨.own nid i.size 0 a.toNat,[nid],[(nid,.row el i.size a.toNat (some b.toNat) fun _ j=>get z j)],[],[0<=a,a<=b,(i.bytes:Int)*b<=281474976710656,b<=9223372036854775807]⟩)
       | false=>none)
     | _,_=>none)
   | _,_,_=>none)
 | _=>none
theorem NU {zc:Array Value} {m n sz:Nat} (h:m<=n):(madeCells zc (n*sz)).toList.take (m*sz)=(madeCells zc (m*sz)).toList:=by
 have hle:m*sz<=n*sz:=Nat.mul_le_mul_right _ h
 apply List.ext_getElem?
 intro j
 rw [List.getElem?_take]
 by_cases hj:j<m*sz
 · rw [if_pos hj]
   simp [madeCells,hj,Nat.lt_of_lt_of_le hj hle]
 · rw [if_neg hj]
   simp [madeCells,Nat.le_of_not_lt hj]
theorem ab0 {P:Program} {rd:Nat->aH} {nid:Nat} {o:Oper} {t:Nat->AV} {e:CE} (hd:∀ k,nid<=k->rd k=.dead) (h:mkZ P nid o t=some e) (ho:Hold e.ob):CE.Good P o t rd e:=by
 unfold mkZ at h
 split at h
 case h_2=>cases h
 rename_i ty l c hop
 split at h
 case h_2=>cases h
 rename_i el k1 a k2 b hu hl hc
 split at h
 case h_2=>cases h
 rename_i i z hi hz
 split at h
 case h_2=>cases h
 rename_i hb
 simp only [Bool.and_eq_true,Nat.ble_eq,Nat.beq_eq,len_eq] at hb
 obtain ⟨⟨hs1,hzl⟩,hnz⟩:=hb
 have go:∀ (B:aH),0<=a->a<=b->(i.bytes:Int)*b<=281474976710656->b<=9223372036854775807 ->
  (B=.lst el i.size a.toNat (some b.toNat) (rep z a.toNat)∨B=.row el i.size a.toNat (some b.toNat) fun _ j=>get z j)->∀ ob,CE.Good P o t rd ⟨.own nid i.size 0 a.toNat,[nid],[(nid,B)],[],ob⟩:=by
  intro B h0 h1 h2 h3 hB ob M hM
  refine fI fun H E w ac hC hT=>?_
  have hdn:getM M nid=.dead:=(hM nid (by simp)).trans (hd nid (Nat.le_refl _))
  have e1:=iw hl (aV hT l)
  have e2:=iw hc (aV hT c)
  obtain ⟨i',zv,hi',hz',hrz,hoz⟩:=mJ H E hz
  rw [hi] at hi'
  cases hi'
  have hzs:zv.cells.size=i.size:=by have:=aI.length hrz;simp at this;omega
  have hrun:=run_make (P:=P) w ty el i zv hu hi hz' k1 k2 a b h0 h1 h2 h3
  have hle:a.toNat<=b.toNat:=by omega
  have hmul:a.toNat*i.size<=b.toNat*i.size:=Nat.mul_le_mul_right _ hle
  obtain ⟨s1,s2,s3,s4⟩:=E.iI nid (some w.heap.size) b.toNat a.toNat
  have hones:ones (madeCells zv.cells (b.toNat*i.size)).toList:=FZ hoz (by omega) _
  have hBok:dY H (E.set nid (some w.heap.size) b.toNat a.toNat) (w.alloc (.cells (madeCells zv.cells (b.toNat*i.size)) el)) nid B:=by
   rcases hB with rfl | rfl
   · refine ⟨s1,by rw [s3,s4];exact ⟨rfl,hle⟩,by rw [s3];unfold maxLen;omega,fun q hq=>by cases hq;exact s3,?_⟩
     rw [s2]
     refine ⟨_,heap_alloc_new w _,fun x hx=>hones x (List.mem_of_mem_take hx),by rw [s3];exact size_madeCells _ _,?_⟩
     rw [NU hle]
     exact aI.env (vJ hC hdn) (KN hrz hzs hs1 a.toNat)
   · refine ⟨s1,by rw [s3,s4];exact ⟨rfl,hle⟩,by rw [s3];unfold maxLen;omega,fun q hq=>by cases hq;exact s3,?_⟩
     rw [s2]
     refine ⟨_,heap_alloc_new w _,fun x hx=>hones x (List.mem_of_mem_take hx),by rw [s3];exact size_madeCells _ _,fun k hk j hj=>?_⟩
     have hlt:k*i.size+j<b.toNat*i.size:=by
      have:(k+1)*i.size<=b.toNat*i.size:=Nat.mul_le_mul_right _ (by omega)
      rw [Nat.add_mul] at this;omega
     have hjz:j<zv.cells.size:=by omega
     have hmod:(k*i.size+j) % zv.cells.size=j:=by
      rw [hzs,Nat.mul_comm,Nat.mul_add_mod];exact Nat.mod_eq_of_lt hj
     refine ⟨zv.cells[j],?_,?_⟩
     · simp only [madeCells,Array.getElem?_map,Array.getElem?_range,hlt,if_pos,Option.map_some]
       rw [hmod]
       simp [hjz]
     · have hz2:aI z H E0 zv.cells.toList:=aI.fJ _ hnz hrz
       exact bK hz2 j _ (by simp [hjz])
  have hconc:=uE (κ:=b.toNat) (η:=a.toNat) (B:=B) hC hdn (madeCells zv.cells (b.toNat*i.size)) el hBok
  refine ⟨.slice (some ⟨w.heap.size,0,none⟩) a.toNat b.toNat,_,H,_,by simp [execOp,hop,e1,e2,hrun],⟨s1,by rw [s3,s4];omega,?_⟩,hconc.1,hconc.2⟩
  rw [s2]
  exact ⟨some ⟨w.heap.size,0,none⟩,by rw [s3];simp,by simp⟩
 split at h
 · split at h
   case h_2=>cases h
   rename_i hcond
   cases h
   simp only [Bool.and_eq_true,decide_eq_true_eq] at hcond
   exact go _ hcond.1.1.1 hcond.1.1.2 hcond.1.2 hcond.2 (.inl rfl) _
 · cases h
   exact go _ (ho _ (by simp)) (ho _ (by simp)) (ho _ (by simp)) (ho _ (by simp)) (.inr rfl) _
def abo (P:Program) (rd:Nat->aH) (o:Oper) (t:Nat->AV):Option CE:=none
theorem VR {P:Program} {rd:Nat->aH} {o:Oper} {t:Nat->AV} {e:CE} (h:abo P rd o t=some e):CE.Good P o t rd e:=by
 simp [abo] at h
def PU (P:Program):Nat->TypeId->Nat->Option TypeId
 | 0,_,_=>none
 | n+1,ty,k=>(match P.underlying ty with
   | some (.struct fs)=>(fs.toList.foldl (fun r f=>match r with
     | some x=>some x
     | none=>(match sizeT P f.type with
       | some s=>(match Nat.ble f.offset k&&Nat.ble (k+1) (f.offset+s) with | true=>PU P n f.type (k - f.offset) | false=>none)
       | none=>none)) none)
   | some (.slice el)=>(match k with | 0=>some el | _+1=>none)
   | _=>none)
def Ck (P:Program) (ty:TypeId) (mask:Nat):List AV->Nat->Nat->Option (List AV×List (Nat×aH))
 | [],_,_=>some ([],[])
 | a::r,k,nid=>(match mask.testBit k with
   | false=>(match Ck P ty mask r (k+1) nid with | some (l,wr)=>some (a::l,wr) | none=>none)
   | true=>(match a,PU P 8 ty k with
     | .s (.slice none 0 0),some el=>(match P.info? el,Ck P ty mask r (k+1) (nid+1) with
       | some i,some (l,wr)=>some (.own nid i.size 0 0::l,(nid,.row el i.size 0 none (fun _ _=>.junk))::wr)
       | _,_=>none)
     | _,_=>none))
def news (nid:Nat):Nat->List Nat
 | 0=>[]
 | n+1=>nid::news (nid+1) n
def aco (P:Program) (rd:Nat->aH) (nid:Nat) (o:Oper) (t:Nat->AV) (mask:Nat):Option CE :=
 match o.op with
 | .build ty _=>(match yop P rd nid o t with
   | some e=>(match e.r,e.wr,e.kl with
     | .agg cs,[],[]=>(match Ck P ty mask cs 0 nid with
       | some (l,wr)=>some ⟨.agg l,e.rd++news nid (len wr),wr,[],e.ob⟩
       | none=>none)
     | _,_,_=>none)
   | none=>none)
 | _=>none
theorem He:∀ {n nid j:Nat},nid<=j->j<nid+n->j∈news nid n
 | 0,_,_,h1,h2=>by omega
 | n+1,nid,j,h1,h2=>by
   rw [news]
   rcases Nat.eq_or_lt_of_le h1 with e | e
   · subst e;exact List.mem_cons_self
   · exact List.mem_cons_of_mem _ (He (n:=n) e (by omega))
theorem tZ {P:Program} {ty:TypeId} {mask:Nat}:∀ {cells:List AV} {k nid:Nat} {l:List AV} {wr:List (Nat×aH)} {H:HH} {E:Env} {w:World} {M:List aH} {vs:List Value},Ck P ty mask cells k nid=some (l,wr)->Conc H E w M->aI cells H E vs->(∀ j,nid<=j->j<nid+wr.length->getM M j=.dead) ->
 ∃ E',aI l H E' vs/\Conc H E' w (eH wr M)/\cO [] H E w H E' w
 | [],_,_,l,wr,H,E,w,M,vs,h,hC,hr,_=>by
   simp only [Ck] at h
   cases h
   exact ⟨E,hr,hC,cO.refl _ _ _ _⟩
 | a::r,k,nid,l,wr,H,E,w,M,vs,h,hC,hr,hd=>by
   obtain ⟨v,q,rfl,h1,h2⟩:=hr
   simp only [Ck] at h
   split at h
   · split at h
     case h_2=>cases h
     rename_i l' wr' hg
     cases h
     obtain ⟨E',g1,g2,g3⟩:=tZ hg hC h2 hd
     refine ⟨E',⟨v,q,rfl,?_,g1⟩,g2,g3⟩
     have:=g3.rel h1
     rwa [kill] at this
   · split at h
     case h_2=>cases h
     rename_i el hel
     split at h
     case h_2=>cases h
     rename_i i l' wr' hi hg
     cases h
     have hdn:=hd nid (Nat.le_refl _) (by simp)
     obtain ⟨e1,e2,e3,e4⟩:=E.iI nid none 0 0
     have hvia:=vJ (bo:=none) (κ:=0) (η:=0) hC hdn
     obtain ⟨hc,hev⟩:=hC.new (w':=w) (i:=nid) (κ:=0) (η:=0) (bo:=none) (B:=.row el i.size 0 none (fun _ _=>.junk)) hdn rfl rfl rfl (Nat.le_refl _) (fun _ _=>rfl) (fun b hb=>by cases hb)
      ⟨e1,by rw [e3,e4];exact ⟨rfl,Nat.le_refl _⟩,by rw [e3];exact Nat.zero_le _,(fun q hq=>by cases hq),by rw [e2];exact e3⟩
     obtain ⟨E',g1,g2,g3⟩:=tZ hg hc (aI.env hvia h2) fun j hj hl=>by
      rw [dw _ _ _ _ (by omega)]
      exact hd j (by omega) (by simp;omega)
     refine ⟨E',⟨v,q,rfl,?_,g1⟩,g2,hev.trans g3 fun _ h=>h⟩
     have hv:v=.slice none 0 0:=h1.1
     have:Rel (.own nid i.size 0 0) H (E.set nid none 0 0) v:=by
      rw [hv]
      exact ⟨e1,by rw [e3,e4];exact ⟨Nat.le_refl _,Nat.le_refl _⟩,by rw [e2];exact ⟨rfl,rfl,rfl⟩⟩
     have:=g3.rel this
     rwa [kill] at this
theorem Vv {P:Program} {rd:Nat->aH} {nid:Nat} {o:Oper} {t:Nat->AV} {mask:Nat} {e:CE} (hd:∀ k,nid<=k->rd k=.dead) (h:aco P rd nid o t mask=some e) (ho:Hold e.ob):CE.Good P o t rd e:=by
 intro M hM H E w a K Q hC hT hdf hkk
 unfold aco at h
 split at h
 case h_2=>cases h
 rename_i ty parts hop
 split at h
 case h_2=>cases h
 rename_i g hg
 split at h
 case h_2=>cases h
 rename_i cs hr hw hk
 split at h
 case h_2=>cases h
 rename_i l wr hag
 cases h
 have hs:=Kw hg ho hd (M:=M) (fun i hi=>hM i (List.mem_append_left _ hi))
 refine hs H E w a K Q hC hT hdf fun v w' H' E' hr' hc hev=>?_
 rw [hw,hk] at hc
 rw [hk] at hev
 rw [hr] at hr'
 have hc:Conc H' E' w' M:=hc
 obtain ⟨vs,rfl,hrl⟩:=hr'
 obtain ⟨E2,q1,q2,q3⟩:=tZ hag hc hrl fun j h1 h2=>(hM j (List.mem_append_right _ (He h1 (by rw [len_eq wr];exact h2)))).trans (hd j h1)
 exact hkk (.agg vs) w' H' E2 ⟨vs,rfl,q1⟩ q2 (hev.trans q3 fun _ h=>h)
def Qd (P:Program) (rd:Nat->aH) (nid:Nat) (o:Oper) (t:Nat->AV):Option CE :=
 match o.op with
 | .binOp ..=>aaU o t
 | .index ..=>h_ P o t
 | .convert ..=>toStr P rd o t
 | .makeSlice ..=>mkZ P nid o t
 | .call _=>abo P rd o t
 | _=>none
theorem QB {P:Program} {rd:Nat->aH} {nid:Nat} {o:Oper} {t:Nat->AV} {e:CE} (hd:∀ k,nid<=k->rd k=.dead) (h:Qd P rd nid o t=some e) (ho:Hold e.ob):CE.Good P o t rd e:=by
 unfold Qd at h
 split at h
 · exact Vl h ho
 · exact Ve h ho
 · exact QV h ho
 · exact ab0 hd h ho
 · exact VR h
 · cases h
def KP (P:Program) (nid:Nat) (o:Oper) (t:Nat->AV):Option CE:=none
theorem Oe {P:Program} {rd:Nat->aH} {nid:Nat} {o:Oper} {t:Nat->AV} {e:CE} (hd:∀ k,nid<=k->rd k=.dead) (h:KP P nid o t=some e) (ho:Hold e.ob):CE.Good P o t rd e:=by
 simp [KP] at h
theorem CE.Good.blk {P:Program} {o:Oper} {t:Nat->AV} {rd:Nat->aH} {r:AV} {l:List Nat} {i:Nat} {B B':aH} (hB:∀ H E w,dY H E w i B->dY H E w i B') (h:CE.Good P o t rd ⟨r,l,[(i,B)],[],[]⟩):CE.Good P o t rd ⟨r,l,[(i,B')],[],[]⟩:=by
 intro M hM H E w a K Q hC hT hd hk
 refine h M hM H E w a K Q hC hT hd fun v w' H' E' hr hc hev=>hk v w' H' E' hr ?_ hev
 have hc:Conc H' E' w' (kG M i B):=hc
 show Conc H' E' w' (kG M i B')
 refine ⟨hc.imm,hc.tf,fun k=>?_,hc.injH,hc.sepH,hc.ltS⟩
 by_cases hk:i=k
 · subst hk
   have:=hc.blk i
   rw [b_] at this ⊢
   exact hB _ _ _ this
 · have:=hc.blk k
   rw [dw _ _ _ _ hk] at this ⊢
   exact this
def KE (P:Program) (nid:Nat) (o:Oper) (t:Nat->AV):Option CE:=none
theorem MW {P:Program} {rd:Nat->aH} {nid:Nat} {o:Oper} {t:Nat->AV} {e:CE} (hd:∀ k,nid<=k->rd k=.dead) (h:KE P nid o t=some e):CE.Good P o t rd e:=by
 simp [KE] at h
open Go.MapKept (IsKey findNow_spec run_checkKey run_findKey run_keyThatStays heap_set sameNow_of_keys)
theorem A_ {P:Program} {o:Oper} {t:Nat->AV} {M:List aH} {e:CE}
 (h:∀ H E w a,Conc H E w M->jM t H E a->∃ n v w' H' E',(execOp a.eval o).run P w=.ok n w'/\(n=.value v∨(n=.skip/\v=undef))/\Rel e.r H' E' v/\Conc H' E' w' (eH e.wr (fF e.kl M))/\cO e.kl H E w H' E' w'):StepT P o t M e:=by
 intro H E w a K Q hC hT hd hk
 obtain ⟨n,v,w',H',E',hv,hn,h1,h2,h3⟩:=h H E w a hC hT
 unfold Oper.wp
 rw [hv]
 rcases hn with rfl | ⟨rfl,rfl⟩<;>exact hk _ w' H' E' h1 h2 h3
def Ua (P:Program) (t:TypeId):Option (TypeDesc×TypeId×TypeId):=match P.underlying t with
 | some (.map k e)=>(match P.underlying k with
   | some (.int q)=>some (.int q,k,e)
   | some .string=>some (.string,k,e)
   | some .bool=>some (.bool,k,e)
   | _=>none)
 | _=>none
theorem K4 {P:Program} {t:TypeId} {d:TypeDesc} {k e:TypeId} (h:Ua P t=some (d,k,e)):P.underlying t=some (.map k e)/\P.underlying k=some d:=by
 unfold Ua at h
 split at h
 case h_2=>cases h
 rename_i k' e' hu
 split at h<;>(try (cases h;done))<;>(rename_i hk;cases h;exact ⟨hu,hk⟩)
def GA:TypeDesc->Value->Bool
 | .int k,.int k' _=>decide (k'=k)
 | .string,.string _=>true
 | .bool,.bool _=>true
 | _,_=>false
theorem zO {d:TypeDesc} {v:Value} (h:GA d v=true):IsKey d v:=by
 unfold GA at h
 split at h
 · exact (of_decide_eq_true h:_=_)
 · trivial
 · trivial
 · cases h
def M6:Value->Value->Bool
 | .int _ a,.int _ b=>decide (a=b)
 | .string a,.string b=>a.data.toList==b.data.toList
 | .bool a,.bool b=>a==b
 | _,_=>false
theorem Gw {d:TypeDesc} {a b:Value} (ha:IsKey d a) (hb:IsKey d b):M6 a b=true↔a=b:=by
 cases d<;>cases a<;>cases b<;>simp_all [IsKey,M6]
 rename_i x y
 obtain ⟨⟨x⟩⟩:=x
 obtain ⟨⟨y⟩⟩:=y
 simp
def pY (k:Value):List (Value×AV×Nat)->Nat->Option (Nat×AV)
 | [],_=>none
 | e::r,i=>match M6 k e.1 with | true=>some (i,e.2.1) | false=>pY k r (i+1)
def vU (d:TypeDesc):List (Value×AV×Nat)->Bool
 | []=>true
 | e::r=>GA d e.1&&vU d r
def vS:List (Value×AV×Nat)->Nat->AV->List (Value×AV×Nat)
 | [],_,_=>[]
 | e::r,0,a=>(e.1,a,e.2.2)::r
 | e::r,i+1,a=>e::vS r i a
abbrev ents (es:List (Value×AV×Nat)):List (Value×Nat):=es.map fun e=>(e.1,e.2.2)
abbrev vals (es:List (Value×AV×Nat)):List AV:=es.map fun e=>e.2.1
abbrev sS (l:List MapEntry):List (Value×Nat):=l.map fun e=>(e.key,e.born)
abbrev yh (l:List MapEntry):List Value:=l.map fun e=>e.val
theorem find_ok {d:TypeDesc} {k:Value} {H:HH} {E:Env} (hk:IsKey d k):∀ {es:List (Value×AV×Nat)} {l:List MapEntry} (i:Nat),sS l=ents es->aI (vals es) H E (yh l)->vU d es=true ->
 (pY k es i=none/\Instr.findNow d k l i=some none)∨∃ j e a,pY k es i=some (i+j,a)/\Instr.findNow d k l i=some (some (i+j,e.val))/\l[j]? = some e/\e.key=k/\Rel a H E e.val
 | [],l,i,h,_,_=>by
   have:l=[]:=by simpa using h
   subst this
   exact .inl ⟨rfl,rfl⟩
 | e::r,l,i,h,hr,ha=>by
   cases l with
   | nil=>simp at h
   | cons y l =>
     simp only [sS,ents,List.map_cons,List.cons.injEq,Prod.mk.injEq] at h
     simp only [vU,Bool.and_eq_true] at ha
     obtain ⟨v,q,hv,h1,h2⟩:=hr
     simp only [yh,List.map_cons,List.cons.injEq] at hv
     obtain ⟨rfl,rfl⟩:=hv
     have hyk:IsKey d y.key:=by rw [h.1.1];exact zO ha.1
     obtain ⟨b,hb,hiff⟩:=sameNow_of_keys hk hyk
     cases b with
     | true =>
       have hke:k=y.key:=hiff.1 rfl
       refine .inr ⟨0,y,e.2.1,?_,by simp [Instr.findNow,hb],rfl,hke.symm,h1⟩
       have:M6 k e.1=true:=by rw [<- h.1.1];exact (Gw hk hyk).2 hke
       simp [pY,this]
     | false =>
       have hke:k≠y.key:=fun q=>by have:=hiff.2 q;cases this
       have hkb:M6 k e.1=false:=by
        rw [<- h.1.1]
        cases hq:M6 k y.key with
        | false=>rfl
        | true=>exact absurd ((Gw hk hyk).1 hq) hke
       rcases find_ok hk (i+1) h.2 h2 ha.2 with ⟨g1,g2⟩ | ⟨j,e',a,g1,g2,g3,g4,g5⟩
       · exact .inl ⟨by simp [pY,hkb,g1],by simp [Instr.findNow,hb,g2]⟩
       · exact .inr ⟨j+1,e',a,by simp [pY,hkb,g1];omega,by simp [Instr.findNow,hb,g2];omega,by simpa using g3,g4,g5⟩
def tq (ok:Bool) (a b:AV):AV:=match ok with | true=>.tup [a,b] | false=>a
theorem oD {ok:Bool} {a:AV} {b:Bool} {H:HH} {E:Env} {v:Value} {x:AV} (h:Rel a H E v) (hx:x=.s (.bool b)∨x=.y (.bool b)):Rel (tq ok a x) H E (if ok then .tuple #[v,.bool b] else v):=by
 cases ok with
 | true=>exact ⟨#[v,.bool b],rfl,v,[.bool b],rfl,h,.bool b,[],rfl,(by rcases hx with rfl | rfl<;>exact ⟨rfl,rfl⟩),rfl⟩
 | false=>exact h
def pW (P:Program) (t:TypeId):Option AV:=match P.info? t with | some i=>(match i.zero with | some z=>some (Xi z) | none=>none) | none=>none
theorem mE {P:Program} {t:TypeId} {a:AV} (H:HH) (E:Env) (w:World) (h:pW P t=some a):∃ z,(zeroValue t).run P w=.ok z w/\Rel a H E z:=by
 unfold pW at h
 split at h
 case h_2=>cases h
 rename_i i hi
 split at h
 case h_2=>cases h
 rename_i z hz
 cases h
 refine ⟨z,?_,BH z H E⟩
 have:(typeInfo t).run P w=.ok i w:=by simp [typeInfo,hi,Result.andThen]
 simp [zeroValue,this,hz,Result.andThen]
def A8 (b:Bool) (v:Int):Int:=match b with | true=>v | false=>0
def Sj (P:Program) (rd:Nat->aH) (o:Oper) (t:Nat->AV):Option CE :=
 match o.op with
 | .lookup xt x idx ok=>(match Ua P xt,J5 (ev t idx) with
   | some (d,_,et),some kv=>(match GA d kv with
     | true=>(match ev t x with
       | .mref i=>(match rd i with
         | .mp es _=>(match vU d es&&Dj (ev t idx) with
           | true=>(match pY kv es 0 with
             | some (_,a)=>some ⟨tq ok a (.s (.bool true)),[i],[],[],[]⟩
             | none=>(match pW P et with | some z=>some ⟨tq ok z (.s (.bool false)),[i],[],[],[]⟩ | none=>none))
           | false=>none)
         | .mi kk vk has c=>(match d,kv,pW P et with
           | .int k0,.int _ n,some (.s (.int zk z))=>(match decide (k0=kk)&&decide (zk=vk)&&decide (z=0) with
             | true=>some ⟨tq ok (.y (.int vk (A8 (has n) (c n)))) (.y (.bool (has n))),[i],[],[],[]⟩
             | false=>none)
           | _,_,_=>none)
         | _=>none)
       | .s (.map none)=>(match pW P et with | some z=>some ⟨tq ok z (.s (.bool false)),[],[],[],[]⟩ | none=>none)
       | _=>none)
     | false=>none)
   | _,_=>none)
 | _=>none
theorem isK {kk:IntKind} {v:Value}:IsKey (.int kk) v↔∃ x,v=.int kk x:=by
 constructor
 · intro h
   cases v<;>simp [IsKey] at h
   subst h
   exact ⟨_,rfl⟩
 · rintro ⟨x,rfl⟩
   rfl
theorem w_ {kk:IntKind} {n:Int}:∀ {l:List MapEntry} (i:Nat),(∀ e∈l,∃ x,e.key=.int kk x) ->
 (jE n l=none/\Instr.findNow (.int kk) (.int kk n) l i=some none)∨∃ j e,jE n l=some e.val/\Instr.findNow (.int kk) (.int kk n) l i=some (some (i+j,e.val))/\l[j]? = some e/\e.key=.int kk n /\
   ∀ v y,jE y (l.modify j fun e=>{ e with key:=.int kk n,val:=v })=if n=y then some v else jE y l
 | [],_,_=>.inl ⟨rfl,rfl⟩
 | e::r,i,h=>by
   obtain ⟨x,hx⟩:=h e (.head _)
   by_cases hn:n=x
   · subst hn
     refine .inr ⟨0,e,by simp [jE,hx],by simp [Instr.findNow,hx,Instr.sameNow],rfl,hx,fun v y=>?_⟩
     by_cases hy:y=n
     · subst hy;simp [jE]
     · have hy2:¬ n=y:=fun q=>hy q.symm
       simp [jE,hx,hy,hy2]
   · have hb:(n==x)=false:=by simpa using hn
     rcases w_ (n:=n) (i+1) (fun y hy=>h y (.tail _ hy)) with ⟨h1,h2⟩ | ⟨j,e',h1,h2,h3,h4,h5⟩
     · exact .inl ⟨by simp [jE,hx,hn,h1],by simp [Instr.findNow,hx,Instr.sameNow,hb,h2]⟩
     · refine .inr ⟨j+1,e',by simp [jE,hx,hn,h1],by simp [Instr.findNow,hx,Instr.sameNow,hb,h2];omega,by simpa using h3,h4,fun v y=>?_⟩
       simp only [List.modify_succ_cons,jE,hx,h5 v y]
       by_cases hy:y=x
       · subst hy;simp [hn]
       · simp [hy]
theorem oU {P:Program} {w:World} {xt kt et:TypeId} {d:TypeDesc} {b:Nat} {es:Array MapEntry} {ck:Nat} {k z:Value} {r:Option (Nat×Value)} {ok:Bool} (hm:P.underlying xt=some (.map kt et)) (hk:P.underlying kt=some d) (hb:w.heap[b]? = some (.map es ck)) (hkey:IsKey d k) (hf:Instr.findNow d k es.toList 0=some r) (hz:r=none->(zeroValue et).run P w=.ok z w) :
 (Instr.lookup xt (.map (some b)) k ok).run P w=.ok (match r with | some (_,v)=>(if ok then .tuple #[v,.bool true] else v) | none=>(if ok then .tuple #[z,.bool false] else z)) w:=by
 cases r with
 | none=>simp [Instr.lookup,run_underlying hm,Go.MapKept.run_getObj_map hb,run_checkKey hk hkey,run_findKey hk hf,hz rfl,Result.andThen]
 | some r=>simp [Instr.lookup,run_underlying hm,Go.MapKept.run_getObj_map hb,run_checkKey hk hkey,run_findKey hk hf,Result.andThen]
theorem TD {P:Program} {rd:Nat->aH} {o:Oper} {t:Nat->AV} {e:CE} (h:Sj P rd o t=some e):CE.Good P o t rd e:=by
 unfold Sj at h
 split at h
 case h_2=>cases h
 rename_i xt x idx ok hop
 split at h
 case h_2=>cases h
 rename_i d kt et kv hkd hkv
 obtain ⟨hm,hk⟩:=K4 hkd
 split at h
 case h_2=>cases h
 rename_i hkis
 have hkey:=zO hkis
 split at h
 · rename_i i hx
   split at h
   · rename_i es ck hg
     split at h
     case h_2=>cases h
     rename_i hall
     simp only [Bool.and_eq_true] at hall
     have go:∀ r,(∀ H E w b ms,Conc H E w (eH [] (fF [] []))∨True->w.heap[b]? = some (.map ms ck)->sS ms.toList=ents es->aI (vals es) H E (yh ms.toList)->∃ v,(Instr.lookup xt (.map (some b)) kv ok).run P w=.ok v w/\Rel r H E v)->CE.Good P o t rd ⟨r,[i],[],[],[]⟩:=by
      intro r hr M hM
      refine fI fun H E w a hC hT=>?_
      have h1:=aV hT x
      rw [hx] at h1
      obtain ⟨hl,b,hb,hv⟩:=h1
      have h2:=iw hkv (aV hT idx)
      have hB:=hC.blk i
      rw [hM i (by simp),hg] at hB
      obtain ⟨_,b',ms,g1,g2,g3,g4⟩:=hB
      rw [hb] at g1;cases g1
      obtain ⟨v,q1,q2⟩:=hr H E w b ms (.inr trivial) g2 g3 g4
      exact ⟨v,w,H,E,by simp [execOp,hop,hv,h2,q1],q2,hC,cO.refl _ _ _ _⟩
     split at h
     · rename_i j a hf
       cases h
       refine go _ fun H E w b ms _ g2 g3 g4=>?_
       rcases find_ok hkey 0 g3 g4 hall.1 with ⟨q1,_⟩ | ⟨j',e',a',q1,q2,q3,q4,q5⟩
       · rw [hf] at q1;cases q1
       · rw [hf] at q1
         obtain ⟨_,rfl⟩:=Prod.mk.inj (Option.some.inj q1)
         exact ⟨_,oU (z:=undef) hm hk g2 hkey q2 (fun h=>by cases h),oD q5 (.inl rfl)⟩
     · rename_i hf
       split at h
       case h_2=>cases h
       rename_i z hz
       cases h
       refine go _ fun H E w b ms _ g2 g3 g4=>?_
       rcases find_ok hkey 0 g3 g4 hall.1 with ⟨_,q2⟩ | ⟨j',e',a',q1,q2,q3,q4,q5⟩
       · obtain ⟨zv,hz1,hz2⟩:=mE H E w hz
         exact ⟨_,oU hm hk g2 hkey q2 (fun _=>hz1),oD hz2 (.inl rfl)⟩
       · rw [hf] at q1;cases q1
   · rename_i kk vk has c hg
     split at h
     case h_2=>cases h
     rename_i k0 k1 n zk z hz
     split at h
     case h_2=>cases h
     rename_i hc
     simp only [Bool.and_eq_true,decide_eq_true_eq] at hc
     obtain ⟨⟨rfl,rfl⟩,rfl⟩:=hc
     cases h
     have:k1=k0:=hkey
     subst this
     intro M hM
     refine fI fun H E w a hC hT=>?_
     have h1:=aV hT x
     rw [hx] at h1
     obtain ⟨hl,b,hb,hv⟩:=h1
     have h2:=iw hkv (aV hT idx)
     have hB:=hC.blk i
     rw [hM i (by simp),hg] at hB
     obtain ⟨_,b',ms,ck,g1,g2,g3,g4⟩:=hB
     rw [hb] at g1;cases g1
     obtain ⟨zv,hz1,hz2⟩:=mE H E w hz
     have hz2:zv=.int zk 0:=hz2.1
     subst hz2
     have g4:=g4 n
     rcases w_ (n:=n) 0 g3 with ⟨q1,q2⟩ | ⟨j,e',q1,q2,q3,q4,_⟩
     · rw [q1] at g4
       have hn:has n=false:=by cases hh:has n with | false=>rfl | true=>rw [hh] at g4;cases g4
       refine ⟨_,w,H,E,by simp [execOp,hop,hv,h2,oU hm hk g2 hkey q2 (fun _=>hz1)];rfl,?_,hC,cO.refl _ _ _ _⟩
       rw [hn]
       exact oD (v:=.int zk 0) ⟨rfl,rfl⟩ (.inr rfl)
     · rw [q1] at g4
       have hn:has n=true:=by cases hh:has n with | true=>rfl | false=>rw [hh] at g4;cases g4
       rw [hn] at g4
       have g4:=Option.some.inj g4
       refine ⟨_,w,H,E,by simp [execOp,hop,hv,h2,oU (z:=undef) hm hk g2 hkey q2 (fun h=>by cases h)];rfl,?_,hC,cO.refl _ _ _ _⟩
       rw [hn,g4]
       exact oD (v:=.int zk (c n)) ⟨rfl,rfl⟩ (.inr rfl)
   · cases h
 · rename_i hx
   split at h
   case h_2=>cases h
   rename_i z hz
   cases h
   intro M hM
   refine fI fun H E w a hC hT=>?_
   have h1:=aV hT x
   rw [hx] at h1
   have hv:a.eval x=.map none:=h1.1
   have h2:=iw hkv (aV hT idx)
   obtain ⟨zv,hz1,hz2⟩:=mE H E w hz
   refine ⟨if ok then .tuple #[zv,.bool false] else zv,w,H,E,?_,oD hz2 (.inl rfl),hC,cO.refl _ _ _ _⟩
   have hf:Instr.findNow d kv [] 0=some none:=rfl
   simp [execOp,hop,hv,h2,Instr.lookup,run_underlying hm,run_checkKey hk hkey,run_findKey hk hf,hz1,Result.andThen]
 · cases h
def kD (has:Int->Bool) (n:Int):Int->Bool:=fun y=>decide (n=y)||has y
def yQ (c:Int->Int) (n u:Int):Int->Int:=fun y=>match decide (n=y) with | true=>u | false=>c y
def LW (P:Program) (rd:Nat->aH) (mt:TypeId) (m k v:AV):Option CE:=match Ua P mt,J5 k with
 | some (d,_,_),some kv=>(match GA d kv with
   | true=>(match m with
     | .mref i=>(match rd i with
       | .mp es ck=>(match vU d es&&Dj k with
         | true=>some ⟨.junk,[i],[(i,match pY kv es 0 with | some (j,_)=>.mp (vS es j v) ck | none=>.mp (es++[(kv,v,ck)]) (ck+1))],[],[]⟩
         | false=>none)
       | .mi kk vk has c=>(match d,kv,J5 v with
         | .int k0,.int _ n,some (.int vk' u)=>(match decide (k0=kk)&&decide (vk'=vk) with
           | true=>some ⟨.junk,[i],[(i,.mi kk vk (kD has n) (yQ c n u))],[],[]⟩
           | false=>none)
         | _,_,_=>none)
       | _=>none)
     | _=>none)
   | false=>none)
 | _,_=>none
def Yd (P:Program) (rd:Nat->aH) (o:Oper) (t:Nat->AV):Option CE :=
 match o.op with
 | .mapUpdate mt m k v=>LW P rd mt (ev t m) (ev t k) (ev t v)
 | .insert mt m k v=>LW P rd mt (ev t m) (ev t k) (ev t v)
 | _=>none
def World.Ey (w:World) (b:Nat) (o:Obj):World:={ w with heap:=w.heap.setIfInBounds b o }
theorem uX {w:World} {b:Nat} {o o':Obj} (hb:w.heap[b]? = some o):Upd w (World.Ey w b o') b o' :=
 ⟨rfl,rfl,rfl,by simp [World.Ey],(heap_set hb).1,fun k hk=>(heap_set hb).2 k hk⟩
section
variable {P:Program} {w:World} {mt kt et:TypeId} {d:TypeDesc} {b:Nat} {es:Array MapEntry} {ck:Nat} {k v:Value}
theorem rD (hm:P.underlying mt=some (.map kt et)) (hk:P.underlying kt=some d) (hb:w.heap[b]? = some (.map es ck)) (hkey:IsKey d k) (hf:Instr.findNow d k es.toList 0=some none) :
 (Instr.mapUpdate mt (.map (some b)) k v).run P w=.ok () (World.Ey w b (.map (es.push ⟨k,v,ck⟩) (ck+1))):=by
 simp [Instr.mapUpdate,run_underlying hm,Go.MapKept.run_getObj_map hb,run_checkKey hk hkey,run_findKey hk hf,Go.MapKept.run_setObj_map _ hb,Result.andThen,World.Ey]
theorem qo {j:Nat} {e:MapEntry} (hm:P.underlying mt=some (.map kt et)) (hk:P.underlying kt=some d) (hb:w.heap[b]? = some (.map es ck)) (hkey:IsKey d k) (hf:Instr.findNow d k es.toList 0=some (some (j,e.val))) (hj:es.toList[j]? = some e) (hke:e.key=k) :
 (Instr.mapUpdate mt (.map (some b)) k v).run P w=.ok () (World.Ey w b (.map (es.modify j fun e=>{ e with key:=k,val:=v }) ck)):=by
 have hj:es[j]? = some e:=by simpa using hj
 simp [Instr.mapUpdate,run_underlying hm,Go.MapKept.run_getObj_map hb,run_checkKey hk hkey,run_findKey hk hf,hj,hke,run_keyThatStays hkey,Go.MapKept.run_setObj_map _ hb,Result.andThen,World.Ey]
end
theorem Dh {k v:Value} {a:AV} {H:HH} {E:Env} (hv:Rel a H E v):∀ {es:List (Value×AV×Nat)} {l:List MapEntry} {j:Nat} {e:MapEntry},sS l=ents es->aI (vals es) H E (yh l)->l[j]? = some e->e.key=k ->
 sS (l.modify j fun e=>{ e with key:=k,val:=v })=ents (vS es j a)/\aI (vals (vS es j a)) H E (yh (l.modify j fun e=>{ e with key:=k,val:=v }))
 | [],l,j,e,h,_,hj,_=>by
   have:l=[]:=by simpa using h
   subst this;simp at hj
 | x::r,l,j,e,h,hr,hj,hk=>by
   cases l with
   | nil=>simp at h
   | cons y l =>
     simp only [sS,ents,List.map_cons,List.cons.injEq,Prod.mk.injEq] at h
     obtain ⟨u,q,hu,h1,h2⟩:=hr
     simp only [yh,List.map_cons,List.cons.injEq] at hu
     obtain ⟨rfl,rfl⟩:=hu
     cases j with
     | zero =>
       simp at hj
       subst hj
       have h1e:x.1=k:=by rw [<- h.1.1];exact hk
       refine ⟨?_,?_⟩
       · simp only [List.modify_zero_cons,sS,ents,vS,List.map_cons,h1e,h.1.2]
         have:=h.2
         rw [this]
       · simp only [List.modify_zero_cons,yh,vals,vS,List.map_cons]
         exact ⟨v,_,rfl,hv,h2⟩
     | succ j =>
       simp only [List.getElem?_cons_succ] at hj
       obtain ⟨g1,g2⟩:=Dh hv h.2 h2 hj hk
       refine ⟨?_,?_⟩
       · simp only [List.modify_succ_cons,sS,ents,vS,List.map_cons,h.1.1,h.1.2]
         have:sS _=_:=g1
         simp only [sS,ents] at this
         rw [this]
       · simp only [List.modify_succ_cons,yh,vals,vS,List.map_cons]
         exact ⟨_,_,rfl,h1,g2⟩
theorem CO {n:Int} {kk:IntKind} {v:Value} {ck:Nat}:∀ {l:List MapEntry} (_:∀ e∈l,∃ x,e.key=.int kk x) (_:jE n l=none) (y:Int),jE y (l++[⟨.int kk n,v,ck⟩])=if n=y then some v else jE y l
 | [],_,_,y=>by
   by_cases hy:n=y
   · subst hy;simp [jE]
   · have:¬ y=n:=fun q=>hy q.symm
     simp [jE,hy,this]
 | e::r,h,hn,y=>by
   obtain ⟨x,hx⟩:=h e (.head _)
   simp only [jE,hx] at hn
   by_cases hnx:n=x
   · rw [if_pos hnx] at hn;cases hn
   · rw [if_neg hnx] at hn
     have:=CO (v:=v) (ck:=ck) (fun y hy=>h y (.tail _ hy)) hn y
     simp only [List.cons_append,jE,hx,this]
     by_cases hy:y=x
     · subst hy;simp [hnx]
     · simp [hy]
theorem GU {P:Program} {rd:Nat->aH} {o:Oper} {t:Nat->AV} {mt:TypeId} {m k v:Operand} {e:CE} (hop:o.op=.mapUpdate mt m k v∨o.op=.insert mt m k v) (h:LW P rd mt (ev t m) (ev t k) (ev t v)=some e):CE.Good P o t rd e:=by
 unfold LW at h
 split at h
 case h_2=>cases h
 rename_i d kt et kv hkd hkv
 obtain ⟨hm,hk⟩:=K4 hkd
 split at h
 case h_2=>cases h
 rename_i hkis
 have hkey:=zO hkis
 split at h
 case h_2=>cases h
 rename_i i hx
 have hexec:∀ (a:Act) (w w':World),(Instr.mapUpdate mt (a.eval m) (a.eval k) (a.eval v)).run P w=.ok () w'->(execOp a.eval o).run P w=.ok .skip w':=fun a w w' hr=>by
  rcases hop with hop | hop<;>simp [execOp,hop,hr]
 split at h
 · rename_i es ck hg
   split at h
   case h_2=>cases h
   rename_i hall
   simp only [Bool.and_eq_true] at hall
   cases h
   intro M hM
   refine A_ fun H E w a hC hT=>?_
   have h1:=aV hT m
   rw [hx] at h1
   obtain ⟨hl,b,hb,hv⟩:=h1
   have h2:=iw hkv (aV hT k)
   have h3:=aV hT v
   have hB:=hC.blk i
   rw [hM i (by simp),hg] at hB
   obtain ⟨_,b',ms,g1,g2,g3,g4⟩:=hB
   rw [hb] at g1;cases g1
   rcases find_ok hkey 0 g3 g4 hall.1 with ⟨q1,q2⟩ | ⟨j,e',a',q1,q2,q3,q4,q5⟩
   · have hrun:=rD (v:=a.eval v) hm hk g2 hkey q2
     have hBk:dY H E (World.Ey w b (.map (ms.push ⟨kv,a.eval v,ck⟩) (ck+1))) i (.mp (es++[(kv,ev t v,ck)]) (ck+1)):=by
      refine ⟨hl,b,ms.push ⟨kv,a.eval v,ck⟩,hb,(heap_set g2).1,?_,?_⟩
      · rw [Array.toList_push,List.map_append,List.map_append,g3];rfl
      · have:=gV g4 (show aI [ev t v] H E [a.eval v] from ⟨_,_,rfl,h3,rfl⟩)
        simpa using this
     obtain ⟨hc,hev⟩:=hC.upd hl hb (uX g2) hBk
     refine ⟨_,undef,_,H,E,hexec a w _ (by rw [hv,h2];exact hrun),.inr ⟨rfl,rfl⟩,trivial,?_,hev⟩
     simp only [fF,eH]
     rw [q1]
     exact hc
   · have hrun:=qo (v:=a.eval v) hm hk g2 hkey (by simpa using q2) q3 q4
     simp only [Nat.zero_add] at q1
     obtain ⟨m1,m2⟩:=Dh h3 g3 g4 q3 q4
     obtain ⟨hc,hev⟩:=hC.upd hl hb (uX g2) (B:=.mp (vS es j (ev t v)) ck) ⟨hl,b,_,hb,(heap_set g2).1,(by rw [Array.toList_modify];exact m1),(by rw [Array.toList_modify];exact m2)⟩
     refine ⟨_,undef,_,H,E,hexec a w _ (by rw [hv,h2];exact hrun),.inr ⟨rfl,rfl⟩,trivial,?_,hev⟩
     simp only [fF,eH]
     rw [q1]
     exact hc
 · rename_i kk vk has c hg
   split at h
   case h_2=>cases h
   rename_i k0 k1 n vk' u hu
   split at h
   case h_2=>cases h
   rename_i hc
   simp only [Bool.and_eq_true,decide_eq_true_eq] at hc
   obtain ⟨rfl,rfl⟩:=hc
   cases h
   have:k1=k0:=hkey
   subst this
   intro M hM
   refine A_ fun H E w a hC hT=>?_
   have h1:=aV hT m
   rw [hx] at h1
   obtain ⟨hl,b,hb,hv⟩:=h1
   have h2:=iw hkv (aV hT k)
   have h3:=iw hu (aV hT v)
   have hB:=hC.blk i
   rw [hM i (by simp),hg] at hB
   obtain ⟨_,b',ms,ck,g1,g2,g3,g4⟩:=hB
   rw [hb] at g1;cases g1
   have hg4:∀ y,(if n=y then some (Value.int vk' u) else jE y ms.toList)=(match kD has n y with | true=>some (.int vk' (yQ c n u y)) | false=>none):=by
    intro y
    by_cases hy:n=y
    · simp [kD,yQ,hy]
    · rw [if_neg hy,g4 y]
      have h1:kD has n y=has y:=by simp [kD,hy]
      have h2:yQ c n u y=c y:=by simp [yQ,hy]
      rw [h1,h2]
      rfl
   rcases w_ (n:=n) 0 g3 with ⟨q1,q2⟩ | ⟨j,e',q1,q2,q3,q4,q5⟩
   · have hrun:=rD (v:=.int vk' u) hm hk g2 hkey q2
     have hBk:dY H E (World.Ey w b (.map (ms.push ⟨.int k1 n,.int vk' u,ck⟩) (ck+1))) i (.mi k1 vk' (kD has n) (yQ c n u)):=by
      refine ⟨hl,b,ms.push ⟨.int k1 n,.int vk' u,ck⟩,ck+1,hb,(heap_set g2).1,fun e he=>?_,fun y=>?_⟩
      · rw [Array.toList_push,List.mem_append] at he
        rcases he with he | he
        · exact g3 e he
        · simp at he;subst he;exact ⟨n,rfl⟩
      · rw [Array.toList_push];exact (CO g3 q1 y).trans (hg4 y)
     obtain ⟨hc,hev⟩:=hC.upd hl hb (uX g2) hBk
     exact ⟨_,undef,_,H,E,hexec a w _ (by rw [hv,h2,h3];exact hrun),.inr ⟨rfl,rfl⟩,trivial,hc,hev⟩
   · have hrun:=qo (v:=.int vk' u) hm hk g2 hkey (by simpa using q2) q3 q4
     have q3':ms[j]? = some e':=by simpa using q3
     have hBk:dY H E (World.Ey w b (.map (ms.modify j fun e=>{ e with key:=.int k1 n,val:=.int vk' u }) ck)) i (.mi k1 vk' (kD has n) (yQ c n u)):=by
      refine ⟨hl,b,ms.modify j fun e=>{ e with key:=.int k1 n,val:=.int vk' u },ck,hb,(heap_set g2).1,fun e he=>?_,fun y=>?_⟩
      · exact isK.1 (Go.MapKept.isKey_modify (d:=.int k1) (fun x hx=>isK.2 (g3 x hx)) j _ (fun e'' he''=>by rw [q3'] at he'';cases he'';exact q4.symm) e he)
      · rw [Array.toList_modify];exact (q5 _ y).trans (hg4 y)
     obtain ⟨hc,hev⟩:=hC.upd hl hb (uX g2) hBk
     exact ⟨_,undef,_,H,E,hexec a w _ (by rw [hv,h2,h3];exact hrun),.inr ⟨rfl,rfl⟩,trivial,hc,hev⟩
 · cases h
theorem K3 {P:Program} {rd:Nat->aH} {o:Oper} {t:Nat->AV} {e:CE} (h:Yd P rd o t=some e):CE.Good P o t rd e:=by
 unfold Yd at h
 split at h
 · rename_i mt m k v hop;exact GU (.inl hop) h
 · rename_i mt m k v hop;exact GU (.inr hop) h
 · cases h
def mkM (P:Program) (rd:Nat->aH) (nid:Nat) (o:Oper) (t:Nat->AV):Option CE :=
 match o.op with
 | .makeMap _ none=>some ⟨.mref nid,[nid],[(nid,.mp [] 0)],[],[]⟩
 | .makeMap ty (some r)=>(match P.underlying ty,J5 (ev t r) with
   | some (.map _ _),some (.int _ _)=>some ⟨.mref nid,[nid],[(nid,.mp [] 0)],[],[]⟩
   | _,_=>none)
 | _=>none
theorem abB {P:Program} {rd:Nat->aH} {nid:Nat} {o:Oper} {t:Nat->AV} {e:CE} (hd:∀ k,nid<=k->rd k=.dead) (h:mkM P rd nid o t=some e):CE.Good P o t rd e:=by
 have go:(∀ H E w a,jM t H E a->(execOp a.eval o).run P w=.ok (.value (.map (some w.heap.size))) (w.alloc (.map #[] 0)))->CE.Good P o t rd ⟨.mref nid,[nid],[(nid,.mp [] 0)],[],[]⟩:=by
  intro hrun M hM
  refine fI fun H E w a hC hT=>?_
  have hdn:getM M nid=.dead:=(hM nid (by simp)).trans (hd nid (Nat.le_refl _))
  obtain ⟨s1,s2,_⟩:=E.iI nid (some w.heap.size) 0 0
  obtain ⟨hc,hev⟩:=hC.new (w':=w.alloc (.map #[] 0)) (i:=nid) (κ:=0) (η:=0) (bo:=some w.heap.size) (B:=.mp [] 0) hdn rfl rfl rfl (by simp) (fun b hb=>Go.RowKit.Below.heap_alloc w _ b hb) (fun b hb=>by cases hb;exact Nat.le_refl _)
   ⟨s1,w.heap.size,#[],s2,heap_alloc_new w _,rfl,rfl⟩
  exact ⟨_,_,H,_,hrun H E w a hT,⟨s1,_,s2,rfl⟩,hc,hev⟩
 unfold mkM at h
 split at h
 · rename_i ty hop
   cases h
   exact go fun H E w a _=>by simp [execOp,hop,Instr.makeMap,Result.andThen]
 · rename_i ty r hop
   split at h
   case h_2=>cases h
   rename_i kt et ik n hu hr
   cases h
   refine go fun H E w a hT=>?_
   have h2:=iw hr (aV hT r)
   simp [execOp,hop,Instr.makeMap,run_underlying hu,h2,asInt,asIntOf,Result.andThen]
 · cases h
def abV (P:Program) (rd:Nat->aH) (o:Oper) (t:Nat->AV):Option CE:=none
theorem Yv {P:Program} {rd:Nat->aH} {o:Oper} {t:Nat->AV} {e:CE} (h:abV P rd o t=some e):CE.Good P o t rd e:=by
 simp [abV] at h
end Go.Ax

namespace Go.Ax
open Go
variable [Inhabited kK]
def SA (P:Program) (o:Oper) (t:Nat->AV):Option CE:=none
theorem Qa {P:Program} {o:Oper} {t:Nat->AV} {rd:Nat->aH} {e:CE} (h:SA P o t=some e) (ho:Hold e.ob):CE.Good P o t rd e:=by
 simp [SA] at h
def f_ (B:aH) (sz n:Nat):Option (TypeId×aH):=match B with
 | .lst ty s2 m _ cs=>(match Nat.beq s2 sz&&Nat.ble n m with | true=>some (ty,.lst ty sz n none (cs.take (n*sz))) | false=>none)
 | .row ty s2 _ _ c=>(match Nat.beq s2 sz with | true=>some (ty,.row ty sz n none c) | false=>none)
 | _=>none
def AX (P:Program) (rd:Nat->aH) (o:Oper) (t:Nat->AV):Option CE:=none
theorem AJ {H:HH} {E:Env}:∀ {l:List AV} {vs:List Value} (n:Nat),aI l H E vs->aI (l.take n) H E (vs.take n)
 | _,_,0,_=>by simp [aI]
 | [],_,n+1,h=>by
   have h:_=[]:=h
   subst h;simp [aI]
 | _::_,_,n+1,h=>by
   obtain ⟨v,r,rfl,h1,h2⟩:=h
   exact ⟨v,_,rfl,h1,AJ n h2⟩
theorem QM {H:HH} {E:Env} {w:World} {a sz n:Nat} {B B1:aH} {ty:TypeId} (hB:dY H E w a B) (h:f_ B sz n=some (ty,B1)) (hn:n<=E.η a) :
 E.κ a<=maxLen/\n<=E.κ a/\(match E.ι a with
  | none=>n=0->Cont H E sz n ty B1 []
  | some b=>∃ vs,w.heap[b]? = some (.cells vs ty (0,0))/\vs.size=E.κ a*sz/\ones (vs.toList.take (n*sz))/\Cont H E sz n ty B1 (vs.toList.take (n*sz))):=by
 unfold f_ at h
 split at h
 · rename_i ty' s2 m cap cs
   split at h
   case h_2=>cases h
   rename_i hb
   simp only [Bool.and_eq_true,Nat.beq_eq,Nat.ble_eq] at hb
   obtain ⟨rfl,hnm⟩:=hb
   cases h
   obtain ⟨_,hm,hκ,_,hc⟩:=hB
   refine ⟨hκ,by omega,?_⟩
   cases hι:E.ι a with
   | none =>
     rw [hι] at hc
     obtain ⟨_,rfl⟩:=hc
     intro h0
     subst h0
     exact ⟨rfl,rfl,rfl,by simp [aI]⟩
   | some b =>
     rw [hι] at hc
     obtain ⟨vs,g1,g2,g3,g4⟩:=hc
     have hle:n*s2<=m*s2:=Nat.mul_le_mul_right _ hnm
     refine ⟨vs,g1,g3,fun x hx=>g2 x (List.take_subset_take_left _ hle hx),rfl,rfl,rfl,?_⟩
     have:=AJ (n*s2) g4
     rwa [List.take_take,Nat.min_eq_left hle] at this
 · rename_i ty' s2 m cap c
   split at h
   case h_2=>cases h
   rename_i hb
   have hb:s2=sz:=by simpa using hb
   subst hb
   cases h
   obtain ⟨_,hm,hκ,_,hc⟩:=hB
   refine ⟨hκ,by omega,?_⟩
   cases hι:E.ι a with
   | none =>
     intro h0
     subst h0
     exact ⟨rfl,rfl,rfl,fun k hk=>by omega⟩
   | some b =>
     rw [hι] at hc
     obtain ⟨vs,g1,g2,g3,g4⟩:=hc
     have hle:n*s2<=m*s2:=Nat.mul_le_mul_right _ (by omega)
     refine ⟨vs,g1,g3,fun x hx=>g2 x (List.take_subset_take_left _ hle hx),rfl,rfl,rfl,fun k hk j hj=>?_⟩
     obtain ⟨x,hx,hr⟩:=g4 k (by omega) j hj
     refine ⟨x,?_,hr⟩
     have hlt:k*s2+j<n*s2:=by
      have:(k+1)*s2<=n*s2:=Nat.mul_le_mul_right _ hk
      rw [Nat.add_mul,Nat.one_mul] at this;omega
     rw [List.getElem?_take_of_lt hlt,Array.getElem?_toList]
     exact hx
 · cases h
theorem Ie {P:Program} {o:Oper} {t:Nat->AV} {rd:Nat->aH} {e:CE} (h:AX P rd o t=some e) (ho:Hold e.ob):CE.Good P o t rd e:=by
 simp [AX] at h
def RA (P:Program) (rd:Nat->aH) (o:Oper) (t:Nat->AV):Option CE:=none
theorem TU {P:Program} {rd:Nat->aH} {o:Oper} {t:Nat->AV} {e:CE} (h:RA P rd o t=some e) (ho:Hold e.ob):CE.Good P o t rd e:=by
 simp [RA] at h
def xQ (s:ByteArray) (k:Nat) (_:Nat):AV:=.y (.int .u8 ((s.data.toList.getD k 0).toNat))
def HH.plus (H:HH) (b0:Nat) (o0:Obj):HH:=fun x b=>match Nat.beq b b0 with | true=>some o0 | false=>H x b
theorem HH.wV (H:HH) (b0:Nat) (o0:Obj) (x:Bool):H.plus b0 o0 x b0=some o0:=by simp [HH.plus]
theorem HH.En (H:HH) {b0 b:Nat} (o0:Obj) (x:Bool) (h:b≠b0):H.plus b0 o0 x b=H x b:=by
 have:Nat.beq b b0=false:=by
  cases hb:Nat.beq b b0
  · rfl
  · exact absurd (Nat.eq_of_beq_eq_true hb) h
 simp [HH.plus,this]
theorem Od {H:HH} {E:Env} {w w':World} {M:List aH} {o0:Obj} (hC:Conc H E w M) (hos:w'.os=w.os) (ht:w'.tape=w.tape) (hout:w'.output=w.output) (hs:w.heap.size<=w'.heap.size)
 (hk:∀ b,b<w.heap.size->w'.heap[b]? = w.heap[b]?) (ho:w'.heap[w.heap.size]? = some o0) :
 Conc (H.plus w.heap.size o0) E w' M/\cO [] H E w (H.plus w.heap.size o0) E w':=by
 have hlt:∀ x b o,H x b=some o->b<w.heap.size:=by
  intro x b o hb
  refine IH.vF hC.imm (b:=b) (o:=o) ?_
  cases x
  · exact hb
  · exact hC.tf.1 b o hb
 have hle:H.le (H.plus w.heap.size o0):=by
  intro x b o hb
  rw [HH.En H o0 x (by have:=hlt x b o hb;omega)]
  exact hb
 have hcase:∀ x b o,H.plus w.heap.size o0 x b=some o->(b=w.heap.size/\o=o0)∨H x b=some o:=by
  intro x b o hb
  by_cases h:b=w.heap.size
  · subst h
    rw [HH.wV] at hb
    cases hb
    exact .inl ⟨rfl,rfl⟩
  · rw [HH.En H o0 x h] at hb
    exact .inr hb
 refine ⟨⟨fun b o hb=>?_,hC.tf.up hle (fun b o hb=>?_),fun i=>?_,hC.injH,fun i b hb=>?_,fun i b hl hb=>Nat.lt_of_lt_of_le (hC.ltS i b hl hb) hs⟩,⟨hos,ht,hout,hs,fun b hb _=>hk b hb,fun i b hb=>.inl ⟨i,hb⟩,hle,fun x b o hb=>?_,fun i hl _=>⟨hl,rfl,rfl,rfl⟩⟩⟩
 · rcases hcase false b o hb with ⟨rfl,rfl⟩ | h
   · exact ho
   · exact (hk b (hlt _ _ _ h)).trans (hC.imm b o h)
 · rcases hcase true b o hb with ⟨rfl,rfl⟩ | h
   · exact HH.wV _ _ _ _
   · exact hle false b o (hC.tf.1 b o h)
 · have:=(hC.blk i).move (f:=some) (H':=H.plus w.heap.size o0) (E':=E) (w':=w') (i':=i) hle (fun a c hc hl=>by cases hc;exact ⟨hl,rfl,rfl,rfl⟩) rfl rfl rfl rfl (fun _=>Iff.rfl) fun b hb=>hk b (hC.sw hb)
   rwa [fH] at this
 · rw [HH.En H o0 false (by have:=hC.sw hb;omega)]
   exact hC.sepH i b hb
 · rcases hcase x b o hb with ⟨rfl,rfl⟩ | h
   · exact .inr (.inl (Nat.le_refl _))
   · exact .inl h
def aM (P:Program) (o:Oper) (t:Nat->AV):Option CE:=match o.op with
 | .convert src dst x=>(match P.underlying src,P.underlying dst with
   | some _,some (.slice el)=>(match P.underlying el,J5 (ev t x) with
     | some (.int .u8),some (.string s)=>some ⟨.ys true 1 s.size (xQ s),[],[],[],[]⟩
     | _,_=>none)
   | _,_=>none)
 | _=>none
theorem U6 {P:Program} {o:Oper} {t:Nat->AV} {rd:Nat->aH} {e:CE} (h:aM P o t=some e):CE.Good P o t rd e:=by
 unfold aM at h
 split at h
 case h_2=>cases h
 rename_i src dst x hop
 split at h
 case h_2=>cases h
 rename_i u el hsrc hdst
 split at h
 case h_2=>cases h
 rename_i s hel hs
 cases h
 intro M hM
 refine fI fun H E w a hC hT=>?_
 have hx:=iw hs (aV hT x)
 have hrun:=Lib.run_convert_string_bytes (P:=P) w src dst el s hsrc hdst hel
 obtain ⟨hc,hev⟩:=Od (w':=Lib.bytesWorld w el s) hC (by rfl) (by rfl) (by rfl) (by rw [Lib.bytesWorld_size];omega) (fun b hb=>Lib.bytesWorld_at_old w el s b hb) (Lib.bytesWorld_at_new w el s)
 refine ⟨.slice (some ⟨w.heap.size,0,none⟩) s.size (grownCap w s.size 0 el),Lib.bytesWorld w el s,_,E,by simp [execOp,hop,hx,hrun],?_,hc,hev⟩
 refine ⟨_,_,rfl,⟨grownCap_ge w s.size 0 el,fun h=>by cases h⟩,fun _=>⟨_,rfl,fun k hk j hj=>?_⟩⟩
 obtain rfl:j=0:=by omega
 refine ⟨.int .u8 ((s.data.toList.getD k 0).toNat),?_,rfl,rfl,rfl⟩
 have hcell:=Lib.bytesWorld_cell w el s k hk
 have e1:(⟨w.heap.size,0,none⟩:Addr).add (k*1+0)=⟨w.heap.size,k,none⟩:=by simp only [Addr.add];split<;>simp_all
 rw [e1]
 unfold World.cell? at hcell
 unfold IH.cell?
 rw [HH.wV]
 rw [Lib.bytesWorld_at_new] at hcell
 simpa using hcell
def acn (o:Oper) (t:Nat->AV):Option CE:=match o.op with
 | .unOp .neg _ x=>(match J5 (ev t x) with
   | some (.int k n)=>some ⟨.y (.int k (k.wrap (0 - n))),[],[],[],[]⟩
   | _=>none)
 | _=>none
theorem XU {P:Program} {o:Oper} {t:Nat->AV} {rd:Nat->aH} {e:CE} (h:acn o t=some e):CE.Good P o t rd e:=by
 unfold acn at h
 split at h
 case h_2=>cases h
 rename_i ty x hop
 split at h
 case h_2=>cases h
 rename_i k n hs
 cases h
 intro M hM
 refine fI fun H E w a hC hT=>?_
 have hx:=iw hs (aV hT x)
 exact ⟨.int k (k.wrap (0 - n)),w,H,E,by simp [execOp,hop,hx,Op.unary,Op.intArith],⟨rfl,rfl⟩,hC,cO.refl _ _ _ _⟩
theorem Ql {H:HH} {E:Env} {w w':World} {M:List aH} {el:TypeId} {a n m sz:Nat} {B':aH} {v':Value} {xs news:List Value} (hC:Conc H E w M) (hl:E.lv a=true) (hxs:ones xs) (hones:ones news)
 (hown':w'.ownsRow 0 el sz v' (n+m) (xs++news)) (hgrow:w.grownBy w' (E.ι a)) (hat:∀ g,v'.ownBlock=some g->E.ι a=some g∨w.heap.size<=g) (hc2:Cont H E sz (n+m) el B' (xs++news)) (hcap:capOf B'=none) :
 ∃ E',Rel (.own a sz 0 (n+m)) H E' v'/\Conc H E' w' (fF [a] (kG M a B'))/\cO [a] H E w H E' w':=by
 obtain ⟨bo,κ,hbo,hnκ,hκm,hv',hblk,hbn⟩:=rZ hown'
 obtain ⟨e1,e2,e3,e4⟩:=E.iI a bo κ (n+m)
 have hvia:E.via (E.set a bo κ (n+m)) (aX [a]):=by
  intro p q hpq hlp
  unfold aX at hpq
  split at hpq
  · cases hpq
  · rename_i hn
    cases hpq
    obtain ⟨f1,f2,f3⟩:=E.nQ a p bo κ (n+m) (by simpa using hn)
    exact ⟨f1.trans hlp,f2,f3⟩
 have hB:dY H (E.set a bo κ (n+m)) w' a (gD (aX [a]) B'):=by
  refine uO (vO hvia hc2) (by rw [Cn];exact hcap) e1 (by rw [e3,e4];exact ⟨rfl,hnκ⟩) (by rw [e3];exact hκm) (fun y hy=>?_) (by rw [e2,e3];exact hblk)
  rcases List.mem_append.1 hy with hy | hy
  · exact hxs y hy
  · exact hones y hy
 obtain ⟨hconc,hev⟩:=hC.move hl hgrow (bo':=bo) (κ':=κ) (η':=n+m) (fun g hg=>hat g (hbo.trans hg)) hB
 refine ⟨E.set a bo κ (n+m),⟨e1,by rw [e3,e4];omega,?_⟩,hconc,hev⟩
 rw [e2,e3]
 cases bo with
 | none=>exact ⟨rfl,by have:=hbn rfl;omega,hv'⟩
 | some b=>exact ⟨_,hv',⟨fun _=>by simp,by simp⟩⟩
theorem QT {P:Program} {w:World} {t u ty e:TypeId} {i:TypeInfo} (ht:P.underlying t=some (.slice e)) (hu:P.underlying u=some .string) (hi:P.info? e=some i) (hz:i.zero=some (.int .u8 0)) (hsize:i.size=1) (hby:i.bytes=1)
 {v:Value} {n:Nat} {xs:List Value} (hown:w.ownsRow 0 e 1 v n xs) (s:ByteArray) (h63:n+s.size<=maxLen) (hbytes:n+s.size<=140737488355328) :
 ∃ v' w',(Builtin.append_ #[t,u] ty #[v,.string s]).run P w=.ok v' w'/\w'.ownsRow 0 e 1 v' (n+s.size) (xs++Lib.strCells s)/\w.grownBy w' v.ownBlock/\∀ g,v'.ownBlock=some g->v.ownBlock=some g∨w.heap.size<=g:=by
 have hsmall:n+s.size<=9223372036854775807:=by simp only [maxLen] at h63;omega
 have hxl:xs.length=n:=by simpa using hown.1
 rcases hown.2 with ⟨rfl,rfl⟩ | ⟨g,cap,cur,rfl,hbg,hg,hnc,hcm,hcs,htake⟩
 · have hx:xs=[]:=List.eq_nil_of_length_eq_zero hxl
   subst hx
   obtain ⟨v',w',h1,h2,h3,_⟩:=Lib.run_append_own_string (P:=P) w w.heap.size t u ty e i ht hu hi hz hsize hby (.slice none 0 0) 0 [] (World.ownsRow_nil w _ e 1) s h63 hbytes (Nat.le_refl _)
   refine ⟨v',w',h1,⟨h2.1,?_⟩,h3,fun g hg=>?_⟩
   · rcases h2.2 with h | ⟨g,cap,cur,a1,_,a3⟩
     · exact .inl h
     · exact .inr ⟨g,cap,cur,a1,Nat.zero_le _,a3⟩
   · rcases h2.2 with ⟨rfl,_⟩ | ⟨g',cap,cur,rfl,hb,_⟩
     · cases hg
     · have hg:some g'=some g:=hg
       cases hg
       exact .inr hb
 · obtain ⟨v',w',h1,h2,h3,_⟩:=Lib.run_append_own_string (P:=P) w 0 t u ty e i ht hu hi hz hsize hby (.slice (some ⟨g,0,none⟩) n cap) n xs hown s h63 hbytes (Nat.zero_le _)
   refine ⟨v',w',h1,h2,h3,fun g' hg'=>?_⟩
   by_cases hroom:n+s.size<=cap
   · have hcs':cur.size=cap:=by simpa using hcs
     have hr:=Lib.run_append_room_string (P:=P) w t u ty e i ht hu hi hsize g n cap cur hg s hroom (by omega)
     rw [hr] at h1
     cases h1
     exact .inl hg'
   · have holds:∀ j u,xs[j]? = some u->w.cell? ((⟨g,0,none⟩:Addr).add j)=some u:=hown.cells (g:=g) rfl
     have hr:=Lib.run_append_grow_string (P:=P) w t u ty e i (.int .u8 0) ht hu hi hz ⟨g,0,none⟩ n cap xs (by rw [hsize];simpa using hxl) holds s (by omega) (by omega) (by rw [hby];exact growslice_fits (by omega) (by omega))
     rw [hr] at h1
     cases h1
     have hg':some w.heap.size=some g':=hg'
     cases hg'
     exact .inr (Nat.le_refl _)
def Jw (i:TypeInfo):Bool:=match i.zero with | some (.int .u8 z)=>decide (z=0) | _=>false
theorem NT {i:TypeInfo} (h:Jw i=true):i.zero=some (.int .u8 0):=by
 unfold Jw at h
 split at h
 · rename_i z hz
   have:z=0:=by simpa using h
   rw [hz,this]
 · cases h
def Qw (P:Program) (rd:Nat->aH) (o:Oper) (t:Nat->AV):Option CE:=match o.op with
 | .call { callee:=.builtin .append,args,argTypes }=>(match argTypes.toList,args.toList with
   | [t1,t2],[s,x]=>(match P.underlying t1,P.underlying t2,sv (ev t s),J5 (ev t x) with
     | some (.slice e),some .string,.own a 1 0 n,some (.string str)=>(match P.info? e,f_ (rd a) 1 n with
       | some inf,some (ty,B)=>(match Nat.beq inf.size 1&&Nat.beq inf.bytes 1&&ty==e&&Jw inf,t_ B n 1 (str.size,none,xQ str) with
         | true,some B'=>some ⟨.own a 1 0 (n+str.size),[a],vw [a] [(a,B')],[a],[n+str.size<=140737488355328]⟩
         | _,_=>none)
       | _,_=>none)
     | _,_,_,_=>none)
   | _,_=>none)
 | _=>none
theorem QJ {P:Program} {o:Oper} {t:Nat->AV} {rd:Nat->aH} {e:CE} (h:Qw P rd o t=some e) (ho:Hold e.ob):CE.Good P o t rd e:=by
 unfold Qw at h
 split at h
 case h_2=>cases h
 rename_i args ats hop
 split at h
 case h_2=>cases h
 rename_i t1 t2 s x hty hargs
 have h1:args=#[s,x]:=Array.ext' hargs
 have h2:ats=#[t1,t2]:=Array.ext' hty
 subst h1;subst h2
 split at h
 case h_2=>cases h
 rename_i el a n str hu hu2 hs0 hx0
 split at h
 case h_2=>cases h
 rename_i inf ty B hi hp
 split at h
 case h_2=>cases h
 rename_i B' hb happ
 cases h
 simp only [Bool.and_eq_true,beq_iff_eq,Nat.beq_eq] at hb
 obtain ⟨⟨⟨hsz,hby⟩,rfl⟩,hz⟩:=hb
 have hz:=NT hz
 have o1:=ho (n+str.size<=140737488355328) (by simp)
 intro M hM
 refine fI fun H E w ac hC hT=>?_
 have hs:=xu (aV hT s)
 rw [hs0] at hs
 have hx:=iw hx0 (aV hT x)
 have hB:=hC.blk a
 rw [hM a (by simp)] at hB
 obtain ⟨hlv,hη,hm⟩:=hs
 obtain ⟨hκ,hnκ,hcont⟩:=QM hB hp (by omega)
 have fin:∀ xs:List Value,w.ownsRow 0 ty 1 (ac.eval s) n xs->(ac.eval s).ownBlock=E.ι a->ones xs->Cont H E 1 n ty B xs ->
  ∃ v w' H' E',(execOp ac.eval o).run P w=.ok (.value v) w'/\Rel (.own a 1 0 (n+str.size)) H' E' v/\Conc H' E' w' (eH (vw [a] [(a,B')]) (fF [a] M))/\cO [a] H E w H' E' w':=by
  intro xs hown hob hxs hct
  obtain ⟨v',w',hrun,hown',hgrow,hat⟩:=QT (ty:=o.type) hu hu2 hi hz hsz hby hown str (by unfold maxLen;omega) o1
  have hr2:∀ k,k<str.size->∀ j,j<1->∃ u,(Lib.strCells str)[k*1+j]? = some u/\Rel (xQ str k j) H E0 u:=by
   intro k hk j hj
   obtain rfl:j=0:=by omega
   have hk2:k<str.data.toList.length:=by simpa using hk
   refine ⟨.int .u8 ((str.data.toList.getD k 0).toNat),?_,rfl,rfl⟩
   simp [Lib.strCells,List.getD,hk2,hk]
  obtain ⟨hc2,hcap⟩:=xB (src:=(str.size,none,xQ str)) hct hown.1 (by rw [Lib.strCells_length];simp) (fun l hl=>by cases hl) (fun _=>hr2) happ
  rw [hob] at hgrow hat
  obtain ⟨E',hr,hc,hev⟩:=Ql hC hlv hxs (fun y hy=>Lib.strCells_oneCell str y hy) hown' hgrow hat hc2 hcap
  refine ⟨v',w',H,E',by simp [execOp,hop,resolve,invoke,builtin,hx,hrun],hr,hc.eqv fun k=>?_,hev⟩
  exact sD [a] [(a,B')] M k
 cases hι:E.ι a with
 | none =>
   rw [hι] at hm hcont
   obtain ⟨_,rfl,hv⟩:=hm
   exact fin [] (by rw [hv];exact ⟨by simp,.inl ⟨rfl,rfl⟩⟩) (by rw [hv];exact hι.symm) (fun y hy=>by cases hy) (hcont rfl)
 | some b =>
   rw [hι] at hm hcont
   obtain ⟨ad,hv,had⟩:=hm
   obtain ⟨vs,g1,g2,g3,g4⟩:=hcont
   rw [had.1 (.inl rfl)] at hv
   have hle:n*1<=E.κ a*1:=Nat.mul_le_mul_right _ hnκ
   refine fin _ ?_ (by rw [hv];exact hι.symm) g3 g4
   rw [hv]
   exact ⟨by simp;omega,.inr ⟨b,E.κ a,vs,by simp,Nat.zero_le _,g1,by omega,hκ,g2,rfl⟩⟩
open Go.MapKept (IsKey run_checkKey run_findKey heap_set)
def taM (P:Program) (o:Oper) (t:Nat->AV):Option CE :=
 match o.op with
 | .typeAssert x _ asserted ok=>(match ev t x with
   | .ifc ty v=>(match P.underlying asserted with
     | some (.interface want)=>(match P.info? ty with
       | some i=>(match (lacking want i.methods).isEmpty with
         | true=>some ⟨tq ok (.ifc ty v) (.s (.bool true)),[],[],[],[]⟩
         | false=>(match ok,pW P asserted with
           | true,some z=>some ⟨tq true z (.s (.bool false)),[],[],[],[]⟩
           | _,_=>none))
       | none=>none)
     | some d=>(match Nat.beq ty asserted with
       | true=>some ⟨tq ok v (.s (.bool true)),[],[],[],[]⟩
       | false=>(match ok,pW P asserted with
          | true,some z=>some ⟨tq true z (.s (.bool false)),[],[],[],[]⟩
          | _,_=>none))
     | none=>none)
   | .s .nilIface=>(match ok,P.underlying asserted,pW P asserted with
     | true,some _,some z=>some ⟨tq true z (.s (.bool false)),[],[],[],[]⟩
     | _,_,_=>none)
   | _=>none)
 | _=>none
theorem abU {P:Program} {rd:Nat->aH} {o:Oper} {t:Nat->AV} {e:CE} (h:taM P o t=some e):CE.Good P o t rd e:=by
 unfold taM at h
 split at h
 case h_2=>cases h
 rename_i x xt asserted ok hop
 have go:∀ {r:AV},(∀ H E (w:World) (u:Value),Rel (ev t x) H E u->∃ v,(Instr.typeAssert u xt asserted ok).run P w=.ok v w/\Rel r H E v)->CE.Good P o t rd ⟨r,[],[],[],[]⟩:=by
  intro r hr M hM
  refine fI fun H E w a hC hT=>?_
  obtain ⟨v,q1,q2⟩:=hr H E w (a.eval x) (aV hT x)
  exact ⟨v,w,H,E,by simp [execOp,hop,q1,Result.andThen],q2,hC,cO.refl _ _ _ _⟩
 split at h
 · rename_i ty v hx
   rw [hx] at go
   split at h
   · rename_i want hu
     split at h
     case h_2=>cases h
     rename_i i hi
     split at h
     · rename_i hl
       cases h
       refine go fun H E w u hr=>?_
       obtain ⟨x',rfl,hx'⟩:=hr
       have hl:lacking want i.methods=[]:=by simpa using hl
       cases ok with
       | true=>exact ⟨_,run_typeAssert_has hu hi hl,⟨#[.iface ty x',.bool true],rfl,_,[.bool true],rfl,⟨x',rfl,hx'⟩,.bool true,[],rfl,⟨rfl,rfl⟩,rfl⟩⟩
       | false=>exact ⟨.iface ty x',by simp [Instr.typeAssert,run_underlying hu,typeInfo,hi,missingMethod_none hl,Result.andThen],⟨x',rfl,hx'⟩⟩
     · rename_i hl
       split at h
       case h_2=>cases h
       rename_i z hz
       cases h
       refine go fun H E w u hr=>?_
       obtain ⟨x',rfl,hx'⟩:=hr
       have hl:lacking want i.methods≠[]:=by simpa using hl
       obtain ⟨m,hm⟩:=missingMethod_some hl
       obtain ⟨zv,hz1,hz2⟩:=mE H E w hz
       exact ⟨.tuple #[zv,.bool false],by simp [Instr.typeAssert,run_underlying hu,typeInfo,hi,hm,hz1,Result.andThen],⟨#[zv,.bool false],rfl,zv,[.bool false],rfl,hz2,.bool false,[],rfl,⟨rfl,rfl⟩,rfl⟩⟩
   · rename_i d hu hd
     split at h
     · rename_i ht
       have ht:=Nat.eq_of_beq_eq_true ht
       subst ht
       cases h
       refine go fun H E w u hr=>?_
       obtain ⟨x',rfl,hx'⟩:=hr
       have hne:∀ ms,d≠.interface ms:=fun ms e=>hu ms e
       cases ok with
       | true=>exact ⟨.tuple #[x',.bool true],by cases d<;>first | exact absurd rfl (hne _) | simp [Instr.typeAssert,run_underlying hd,Result.andThen],⟨#[x',.bool true],rfl,_,[.bool true],rfl,hx',.bool true,[],rfl,⟨rfl,rfl⟩,rfl⟩⟩
       | false=>exact ⟨x',by cases d<;>first | exact absurd rfl (hne _) | simp [Instr.typeAssert,run_underlying hd,Result.andThen],hx'⟩
     · rename_i ht
       have ht:ty≠asserted:=fun e=>by subst e;simp at ht
       split at h
       case h_2=>cases h
       rename_i z hz
       cases h
       refine go fun H E w u hr=>?_
       obtain ⟨x',rfl,hx'⟩:=hr
       have hne:∀ ms,d≠.interface ms:=fun ms e=>hu ms e
       obtain ⟨zv,hz1,hz2⟩:=mE H E w hz
       refine ⟨.tuple #[zv,.bool false],?_,⟨#[zv,.bool false],rfl,zv,[.bool false],rfl,hz2,.bool false,[],rfl,⟨rfl,rfl⟩,rfl⟩⟩
       cases d<;>first | exact absurd rfl (hne _) | simp [Instr.typeAssert,run_underlying hd,ht,hz1,Result.andThen]
   · cases h
 · rename_i hx
   rw [hx] at go
   split at h
   case h_2=>cases h
   rename_i d z hd hz
   cases h
   refine go fun H E w u hr=>?_
   have hu:u=.nilIface:=hr.1
   subst hu
   obtain ⟨zv,hz1,hz2⟩:=mE H E w hz
   refine ⟨.tuple #[zv,.bool false],?_,⟨#[zv,.bool false],rfl,zv,[.bool false],rfl,hz2,.bool false,[],rfl,⟨rfl,rfl⟩,rfl⟩⟩
   cases d<;>simp [Instr.typeAssert,run_underlying hd,hz1,Result.andThen]
 · cases h
def J9 (P:Program) (rd:Nat->aH) (o:Oper) (t:Nat->AV):Option CE:=none
theorem VN {P:Program} {rd:Nat->aH} {o:Oper} {t:Nat->AV} {e:CE} (h:J9 P rd o t=some e):CE.Good P o t rd e:=by
 simp [J9] at h
def J8 (P:Program) (rd:Nat->aH) (nid:Nat) (o:Oper) (t:Nat->AV):Option CE:=none
theorem Nz {P:Program} {rd:Nat->aH} {nid:Nat} {o:Oper} {t:Nat->AV} {e:CE} (hd:∀ k,nid<=k->rd k=.dead) (h:J8 P rd nid o t=some e):CE.Good P o t rd e:=by
 simp [J8] at h
def SI (rd:Nat->aH) (o:Oper) (t:Nat->AV):Option CE:=none
theorem QN {P:Program} {rd:Nat->aH} {o:Oper} {t:Nat->AV} {e:CE} (h:SI rd o t=some e):CE.Good P o t rd e:=by
 simp [SI] at h
def Kj (rd:Nat->aH) (o:Oper) (t:Nat->AV):Option CE:=none
theorem Nr {P:Program} {rd:Nat->aH} {o:Oper} {t:Nat->AV} {e:CE} (h:Kj rd o t=some e):CE.Good P o t rd e:=by
 simp [Kj] at h
def glM (P:Program) (o:Oper):Option CE :=
 match o.op with
 | .load ty (.global g)=>(match isAgg P ty,P.underlying ty,(default:kK).hs.find? fun p=>Nat.beq p.1 g with
   | false,some _,some p=>some ⟨.ifc p.2.1 (.agg [.s p.2.2]),[],[],[],[]⟩
   | _,_,_=>none)
 | _=>none
theorem ab6 {P:Program} {rd:Nat->aH} {o:Oper} {t:Nat->AV} {e:CE} (h:glM P o=some e):CE.Good P o t rd e:=by
 unfold glM at h
 split at h
 case h_2=>cases h
 rename_i ty g hop
 split at h
 case h_2=>cases h
 rename_i d p hagg hu hp
 cases h
 have hmem:=List.mem_of_find?_eq_some hp
 have hg:=List.find?_some hp
 have hg:=Nat.eq_of_beq_eq_true hg
 intro M hM
 refine fI fun H E w a hC hT=>?_
 obtain ⟨hs,hx⟩:=hC.tf.2 p hmem
 have hcell:=Ar (b:=true) hC.imm hC.tf.1 hx
 rw [hg] at hcell
 refine ⟨_,w,H,E,?_,⟨_,rfl,_,rfl,_,[],rfl,⟨rfl,hs⟩,rfl⟩,hC,cO.refl _ _ _ _⟩
 have h1:=je w ⟨d,hu⟩
 rw [hagg] at h1
 simp [execOp,hop,Act.eval,Instr.loadAt,Instr.sureAddr,loadVar,h1,hcell,Result.andThen]
def Rh (P:Program) (rd:Nat->aH) (nid:Nat) (o:Oper) (t:Nat->AV):Option CE :=
 match o.op with
 | .lookup ..=>Sj P rd o t
 | .mapUpdate ..=>Yd P rd o t
 | .insert ..=>Yd P rd o t
 | .makeMap ..=>mkM P rd nid o t
 | .typeAssert ..=>taM P o t
 | .range ..=>J8 P rd nid o t
 | .next ..=>SI rd o t
 | .load ..=>glM P o
 | .entry ..=>Kj rd o t
 | .call { callee:=.builtin .len,.. }=>abV P rd o t
 | .call { callee:=.builtin .delete,.. }=>J9 P rd o t
 | _=>none
theorem R7 {P:Program} {rd:Nat->aH} {nid:Nat} {o:Oper} {t:Nat->AV} {e:CE} (hd:∀ k,nid<=k->rd k=.dead) (h:Rh P rd nid o t=some e):CE.Good P o t rd e:=by
 unfold Rh at h
 split at h
 · exact TD h
 · exact K3 h
 · exact K3 h
 · exact abB hd h
 · exact abU h
 · exact Nz hd h
 · exact QN h
 · exact ab6 h
 · exact Nr h
 · exact Yv h
 · exact VN h
 · cases h
end Go.Ax
