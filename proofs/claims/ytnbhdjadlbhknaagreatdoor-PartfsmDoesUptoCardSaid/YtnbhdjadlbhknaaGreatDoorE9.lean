import Derived.Laws.MakeOwn
import Derived.Laws.BytesString
import Derived.Laws.AppendOwn
import Derived.MapKept
import Derived.Laws.CopyRow
import Derived.Test.YtnbhdjadlbhknaaGreatDoorE8
set_option linter.unusedVariables false
set_option linter.unusedSimpArgs false
set_option linter.unusedSectionVars false
namespace Go.Ax
open Go
variable [Inhabited jZ]
theorem bL {P:Program} {o:Oper} {t:Nat->AV} {M:List ay} {e:CE}
 (h:∀ H E w a,Conc H E w M->ji t H E a->∃ v w' H' E',(execOp a.eval o).run P w=.ok (.value v) w'/\Rel e.r H' E' v/\Conc H' E' w' (dx e.wr (dN e.kl M))/\bF e.kl H E w H' E' w'):StepT P o t M e:=by
 intro H E w a K Q hC hT hd hk
 obtain ⟨v,w',H',E',hv,h1,h2,h3⟩:=h H E w a hC hT
 unfold Oper.wp
 rw [hv]
 exact hk v w' H' E' h1 h2 h3
def Am:AV->Option Value
 | .s v=>some v
 | .y v=>some v
 | _=>none
theorem eU {x:AV} {v:Value} (h:Am x=some v) {H:HH} {E:Env} {u:Value} (hr:Rel x H E u):u=v:=by
 cases x<;>simp only [Am] at h<;>first | (cases h;exact hr.1) | cases h
def DV:AV->Bool
 | .s _=>true
 | _=>false
def VN (known:Bool) (b:Bool) (v:Value) (rd:List Nat):Option CE:=match known with
 | true=>(match b with | true=>some ⟨.s v,rd,[],[],[]⟩ | false=>none)
 | false=>some ⟨.y v,rd,[],[],[b=true]⟩
theorem zw {P:Program} {o:Oper} {t:Nat->AV} {rdf:Nat->ay} {known b:Bool} {v:Value} {rd:List Nat} {e:CE} (h:VN known b v rd=some e) (hs:scalar v=true) (ho:Hold e.ob)
 (hr:b=true->∀ M,(∀ i∈rd,getM M i=rdf i)->∀ H E w a,Conc H E w M->ji t H E a->(execOp a.eval o).run P w=.ok (.value v) w):CE.Good P o t rdf e:=by
 intro M hM
 cases known with
 | true =>
   cases b with
   | false=>cases h
   | true =>
     cases h
     exact bL fun H E w a hC hT=>⟨v,w,H,E,hr rfl M hM H E w a hC hT,⟨rfl,hs⟩,hC,bF.refl _ _ _ _⟩
 | false =>
   cases h
   exact bL fun H E w a hC hT=>⟨v,w,H,E,hr (ho (b=true) (by simp)) M hM H E w a hC hT,⟨rfl,hs⟩,hC,bF.refl _ _ _ _⟩
def ibV (op:BinOp) (k:IntKind) (a b:Int):Option (Bool×Int):=match op with
 | .quo=>some (decide (b≠0),k.wrap (a.tdiv b))
 | .rem=>some (decide (b≠0),a.tmod b)
 | .and=>some (true,k.wrap (BitVec.ofInt k.bits a &&& BitVec.ofInt k.bits b).toNat)
 | .or=>some (true,k.wrap (BitVec.ofInt k.bits a ||| BitVec.ofInt k.bits b).toNat)
 | .xor=>some (true,k.wrap (BitVec.ofInt k.bits a ^^^ BitVec.ofInt k.bits b).toNat)
 | _=>none
def shV (op:BinOp) (k:IntKind) (a b:Int):Option (Bool×Int):=match op with
 | .shl=>some (decide (0<=b),k.wrap (a*2 ^ (min b.toNat k.bits)))
 | .shr=>some (decide (0<=b),a.fdiv (2 ^ (min b.toNat k.bits)))
 | _=>none
def acN (o:Oper) (t:Nat->AV):Option CE :=
 match o.op with
 | .binOp op _ x y _=>(match Am (ev t x),Am (ev t y) with
   | some (.int k a),some (.int k' b)=>(match shV op k a b with
     | some (c,v)=>VN (DV (ev t x)&&DV (ev t y)) c (.int k v) []
     | none=>if k=k' then (match ibV op k a b with | some (c,v)=>VN (DV (ev t x)&&DV (ev t y)) c (.int k v) [] | none=>none) else none)
   | some (.string a),some (.string b)=>(match op with
     | .add=>VN (DV (ev t x)&&DV (ev t y)) (decide (a.size+b.size<=9223372036854775807)) (.string (a++b)) []
     | _=>none)
   | _,_=>none)
 | _=>none
theorem X6 {P:Program} {o:Oper} {t:Nat->AV} {rd:Nat->ay} {e:CE} (h:acN o t=some e) (ho:Hold e.ob):CE.Good P o t rd e:=by
 unfold acN at h
 split at h
 case h_2=>cases h
 rename_i op ty x y f hop
 split at h
 · rename_i k a k' b hx hy
   split at h
   · rename_i c v hv
     refine zw h rfl ho fun hc M _ H E w ac hC hT=>?_
     have h1:=eU hx (aM hT x)
     have h2:=eU hy (aM hT y)
     unfold shV at hv
     split at hv
     · obtain ⟨rfl,rfl⟩:=Prod.mk.inj (Option.some.inj hv)
       have hb:0<=b:=of_decide_eq_true hc
       simp [execOp,hop,h1,h2,eqGuard,binOp,Op.shift,Int.not_lt.2 hb]
     · obtain ⟨rfl,rfl⟩:=Prod.mk.inj (Option.some.inj hv)
       have hb:0<=b:=of_decide_eq_true hc
       simp [execOp,hop,h1,h2,eqGuard,binOp,Op.shift,Int.not_lt.2 hb]
     · cases hv
   · split at h
     case isFalse=>cases h
     rename_i hk
     subst hk
     split at h
     case h_2=>cases h
     rename_i c v hv
     refine zw h rfl ho fun hc M _ H E w ac hC hT=>?_
     have h1:=eU hx (aM hT x)
     have h2:=eU hy (aM hT y)
     unfold ibV at hv
     split at hv
     · obtain ⟨rfl,rfl⟩:=Prod.mk.inj (Option.some.inj hv)
       have hb:b≠0:=of_decide_eq_true hc
       simp [execOp,hop,h1,h2,eqGuard,binOp,Op.intDiv,hb]
     · obtain ⟨rfl,rfl⟩:=Prod.mk.inj (Option.some.inj hv)
       have hb:b≠0:=of_decide_eq_true hc
       simp [execOp,hop,h1,h2,eqGuard,binOp,Op.intDiv,hb]
     · cases hv
       simp [execOp,hop,h1,h2,eqGuard,binOp,Op.intBits]
     · cases hv
       simp [execOp,hop,h1,h2,eqGuard,binOp,Op.intBits]
     · cases hv
       simp [execOp,hop,h1,h2,eqGuard,binOp,Op.intBits]
     · cases hv
 · rename_i a b hx hy
   split at h
   case h_2=>cases h
   refine zw h rfl ho fun hc M _ H E w ac hC hT=>?_
   have h1:=eU hx (aM hT x)
   have h2:=eU hy (aM hT y)
   have hb:=of_decide_eq_true hc
   have hm:IntKind.i64.max=9223372036854775807:=by decide
   have hn:¬ (9223372036854775807<((a.size:Int)+(b.size:Int))):=by omega
   simp [execOp,hop,h1,h2,eqGuard,binOp,Op.stringOp,hm,hn]
 · cases h
def KF (s:ByteArray) (q:Int):Int:=((s.data.toList.getD q.toNat 0).toNat:Nat)
def gM (P:Program) (o:Oper) (t:Nat->AV):Option CE :=
 match o.op with
 | .index ty x i=>(match P.underlying ty,Am (ev t x),Am (ev t i) with
   | some .string,some (.string s),some (.int _ q)=>VN (DV (ev t x)&&DV (ev t i)) (decide (0<=q)&&decide (q<(s.size:Nat))) (.int .u8 (KF s q)) []
   | _,_,_=>none)
 | _=>none
theorem Zm {P:Program} {o:Oper} {t:Nat->AV} {rd:Nat->ay} {e:CE} (h:gM P o t=some e) (ho:Hold e.ob):CE.Good P o t rd e:=by
 unfold gM at h
 split at h
 case h_2=>cases h
 rename_i ty x i hop
 split at h
 case h_2=>cases h
 rename_i s k q hu hx hi
 refine zw h rfl ho fun hc M _ H E w ac hC hT=>?_
 have h1:=eU hx (aM hT x)
 have h2:=eU hi (aM hT i)
 simp only [Bool.and_eq_true,decide_eq_true_eq] at hc
 have hlt:q.toNat<s.size:=by omega
 have hb:s[q.toNat]? = some (s[q.toNat]'hlt):=getElem?_pos s q.toNat hlt
 have hv:KF s q=(s[q.toNat]'hlt).toNat:=by
  unfold KF
  rw [List.getD,Array.getElem?_toList,Array.getElem?_eq_getElem (by simpa using hlt)]
  rfl
 simp [execOp,hop,h1,h2,Instr.index,run_underlying hu,asIntOf,hc.1,hb,hv]
def Om:AV->Option Int
 | .s (.int .u8 n)=>some n
 | .y (.int .u8 n)=>some n
 | _=>none
def RV (a:AV):Bool:=match Om a with | some _=>true | none=>false
def byteOf (a:AV):UInt8:=match Om a with | some n=>UInt8.ofNat n.toNat | none=>0
def Cx (l:List AV):ByteArray:=⟨(l.map byteOf).toArray⟩
def x9:List AV->Bool
 | []=>true
 | a::l=>RV a&&x9 l
def ag8:List AV->Bool
 | []=>true
 | a::l=>DV a&&ag8 l
def Fp (n:Nat) (d:Nat->Nat->AV):List AV:=(List.range n).map fun k=>d k 0
def Ig (n:Nat) (d:Nat->Nat->AV):ByteArray:=Cx (Fp n d)
def Cw (d:Nat->Nat->AV):Nat->Nat->List AV
 | _,0=>[]
 | k,n+1=>d k 0::Cw d (k+1) n
def W_ (known:Bool) (l:List AV) (rd:List Nat):Option CE:=match x9 l with
 | true=>(match known&&ag8 l with | true=>some ⟨.s (.string (Cx l)),rd,[],[],[]⟩ | false=>some ⟨.y (.string (Cx l)),rd,[],[],[]⟩)
 | false=>none
def Yj (rd:Nat->ay):AV->Bool
 | .sl ..=>true
 | .own i _ _ _=>(match rd i with | .lst ..=>true | _=>false)
 | .s _=>true
 | _=>false
def toStr (P:Program) (rd:Nat->ay) (o:Oper) (t:Nat->AV):Option CE :=
 match o.op with
 | .convert src dst x=>(match P.underlying src,P.underlying dst with
   | some (.slice el),some .string=>(match P.underlying el,oD rd 1 (sv (ev t x)) with
     | some (.int .u8),some (n,some l,_)=>(match Nat.beq (len l) n with | true=>W_ true l (gN (sv (ev t x))) | false=>none)
     | some (.int .u8),some (n,none,d)=>(match Yj rd (ev t x) with
       | true=>W_ true (Cw d 0 n) (gN (sv (ev t x)))
       | false=>some ⟨.y (.string (Ig n d)),gN (sv (ev t x)),[],[],[∀ k,k<n->RV (d k 0)=true]⟩)
     | _,_=>none)
   | _,_=>none)
 | _=>none
theorem aau {a:AV} {n:Int} (h:Om a=some n) {H:HH} {E:Env} {v:Value} (hr:Rel a H E v):v=.int .u8 n:=by
 unfold Om at h
 split at h
 · cases h;exact hr.1
 · cases h;exact hr.1
 · cases h
theorem Ot {P:Program} {w:World} {A:Option Addr} {m c:Nat} {news:List Value} {L:List AV} {H:HH} {E:Env} (hl:news.length=m) (hA:A=none->m=0) (hcell:∀ ad,A=some ad->∀ j u,news[j]? = some u->w.cell? (ad.add j)=some u)
 (hr:aA L H E news) (hu:x9 L=true):(Conv.bytesToString (.slice A m c)).run P w=.ok (.string (Cx L)) w:=by
 have key:∀ (L:List AV) (news:List Value),aA L H E news->x9 L=true->∃ ns:List Int,news=ns.map (Value.int .u8)/\ns.map (fun n=>UInt8.ofNat n.toNat)=L.map byteOf:=by
  intro L
  induction L with
  | nil=>intro news h _;have h:news=[]:=h;subst h;exact ⟨[],rfl,rfl⟩
  | cons a L ih =>
    intro news h hu
    obtain ⟨v,r,rfl,h1,h2⟩:=h
    simp only [x9,Bool.and_eq_true] at hu
    obtain ⟨ns,rfl,hns⟩:=ih r h2 hu.2
    obtain ⟨n,hn⟩:∃ n,Om a=some n:=by
     have:=hu.1
     unfold RV at this
     cases hq:Om a with
     | some n=>exact ⟨n,rfl⟩
     | none=>rw [hq] at this;cases this
    exact ⟨n::ns,by rw [aau hn h1];rfl,by simp [hns,byteOf,hn]⟩
 obtain ⟨ns,rfl,hns⟩:=key L news hr hu
 have fold:∀ (ns:List Int) (s:ByteArray),ns.foldl (fun r n=>r.push (UInt8.ofNat n.toNat)) s=⟨s.data++(ns.map fun n=>UInt8.ofNat n.toNat).toArray⟩:=by
  intro ns
  induction ns with
  | nil=>intro s;simp
  | cons n ns ih =>
    intro s
    rw [List.foldl_cons,ih]
    simp [ByteArray.push]
 cases A with
 | none =>
   have hm:=hA rfl
   subst hm
   have:ns=[]:=by simpa using hl
   subst this
   simp only [List.map_nil] at hns
   simp only [Cx,<- hns]
   simp [Conv.bytesToString,Sem.run_pure]
   rfl
 | some ad =>
   have hload:(loadCells ad m).run P w=.ok (ns.map (Value.int .u8)).toArray w:=by
    have:=run_loadCells_list (P:=P) w ad (ns.map (Value.int .u8)) fun j u hj=>hcell ad rfl j u hj
    rw [hl] at this
    exact this
   rw [run_bytesToString w ad m c ns hload,fold]
   simp only [Cx,hns]
   simp
theorem L8 (d:Nat->Nat->AV):∀ (n q:Nat),Cw d q n=(List.range' q n).map fun k=>d k 0
 | 0,_=>rfl
 | n+1,q=>by rw [Cw,L8 d n (q+1),List.range'_succ];rfl
theorem O_ (n:Nat) (d:Nat->Nat->AV):Fp n d=Cw d 0 n:=by rw [Fp,L8,List.range_eq_range']
theorem Da {H:HH} {E:Env} {d:Nat->Nat->AV}:∀ (n q:Nat) (news:List Value),news.length=n->(∀ k,k<n->∃ u,news[k]? = some u/\Rel (d (q+k) 0) H E u)->aA (Cw d q n) H E news
 | 0,_,news,hl,_=>by
   have:news=[]:=by simpa using hl
   exact this
 | n+1,q,news,hl,h=>by
   obtain ⟨v,r,rfl⟩:∃ v r,news=v::r:=by
    cases news with
    | nil=>simp at hl
    | cons v r=>exact ⟨v,r,rfl⟩
   refine ⟨v,r,rfl,?_,Da n (q+1) r (by simpa using hl) fun k hk=>?_⟩
   · obtain ⟨u,hu,hr⟩:=h 0 (by omega)
     simp at hu
     subst hu
     exact hr
   · obtain ⟨u,hu,hr⟩:=h (k+1) (by omega)
     refine ⟨u,by simpa using hu,?_⟩
     rw [show q+1+k=q+(k+1) by omega];exact hr
theorem Ak (d:Nat->Nat->AV):∀ (n q:Nat),(∀ k,k<n->RV (d (q+k) 0)=true)->x9 (Cw d q n)=true
 | 0,_,_=>rfl
 | n+1,q,h=>by
   simp only [Cw,x9,Bool.and_eq_true]
   exact ⟨h 0 (by omega),Ak d n (q+1) fun k hk=>by rw [show q+1+k=q+(k+1) by omega];exact h (k+1) (by omega)⟩
theorem SB {P:Program} {o:Oper} {t:Nat->AV} {rd:Nat->ay} {e:CE} (h:toStr P rd o t=some e) (ho:Hold e.ob):CE.Good P o t rd e:=by
 unfold toStr at h
 split at h
 case h_2=>cases h
 rename_i src dst x hop
 split at h
 case h_2=>cases h
 rename_i el hsrc hdst
 have go:∀ (L:List AV) (v:AV) (rds:List Nat),P.underlying el=some (.int .u8)->x9 L=true->(v=.s (.string (Cx L))∨v=.y (.string (Cx L))) ->
  (∀ M,(∀ i∈rds,getM M i=rd i)->∀ H E w a,Conc H E w M->ji t H E a->∃ A m c,∃ news:List Value,a.eval x=.slice A m c/\news.length=m/\(A=none->m=0)/\(∀ ad,A=some ad->∀ j u,news[j]? = some u->w.cell? (ad.add j)=some u)/\∃ E',aA L H E' news) ->
  ∀ ob,CE.Good P o t rd ⟨v,rds,[],[],ob⟩:=by
  intro L v rds hel hu hv hsrc2 ob M hM
  refine bL fun H E w a hC hT=>?_
  obtain ⟨A,m,c,news,hx,hl,hA,hcell,E',hr⟩:=hsrc2 M hM H E w a hC hT
  have hrun:=Ot (P:=P) (c:=c) hl hA hcell hr hu
  refine ⟨.string (Cx L),w,H,E,?_,?_,hC,bF.refl _ _ _ _⟩
  · simp [execOp,hop,hx,run_convert_bytes_string w src dst el A m c hsrc hel hdst,hrun]
  · rcases hv with rfl | rfl<;>exact ⟨rfl,rfl⟩
 have hcong:∀ M,(∀ i∈gN (sv (ev t x)),getM M i=rd i)->oD (getM M) 1 (sv (ev t x))=oD rd 1 (sv (ev t x)):=fun M hM=>rz hM
 split at h
 · rename_i n l d hel hs
   split at h
   case h_2=>cases h
   rename_i hn
   unfold W_ at h
   split at h
   case h_2=>cases h
   rename_i hu
   have hsrc2:∀ M,(∀ i∈gN (sv (ev t x)),getM M i=rd i)->∀ H E w a,Conc H E w M->ji t H E a->∃ A m c,∃ news:List Value,a.eval x=.slice A m c/\news.length=m/\(A=none->m=0)/\(∀ ad,A=some ad->∀ j u,news[j]? = some u->w.cell? (ad.add j)=some u)/\∃ E',aA l H E' news:=by
    intro M hM H E w a hC hT
    obtain ⟨A,c,news,h1,h2,h3,h4,h5,h6,h7⟩:=qK hC (rO (aM hT x)) (Nat.zero_lt_one) ((hcong M hM).trans hs)
    exact ⟨A,n,c,news,h1,by simpa using h2,h3,h4,E,h6 l rfl⟩
   split at h
   · cases h;exact go l _ _ hel hu (.inl rfl) hsrc2 _
   · cases h;exact go l _ _ hel hu (.inr rfl) hsrc2 _
 · rename_i n d hel hs
   have hsrc2:∀ M,(∀ i∈gN (sv (ev t x)),getM M i=rd i)->∀ H E w a,Conc H E w M->ji t H E a->∃ A m c,∃ news:List Value,a.eval x=.slice A m c/\news.length=m/\(A=none->m=0)/\(∀ ad,A=some ad->∀ j u,news[j]? = some u->w.cell? (ad.add j)=some u)/\∃ E',aA (Cw d 0 n) H E' news:=by
    intro M hM H E w a hC hT
    obtain ⟨A,c,news,h1,h2,h3,h4,h5,h6,h7⟩:=qK hC (rO (aM hT x)) (Nat.zero_lt_one) ((hcong M hM).trans hs)
    refine ⟨A,n,c,news,h1,by simpa using h2,h3,h4,E0,Da n 0 news (by simpa using h2) fun k hk=>?_⟩
    obtain ⟨u,hu,hr⟩:=h7 rfl k hk 0 (by omega)
    refine ⟨u,by simpa using hu,?_⟩
    rw [Nat.zero_add];exact hr
   split at h
   · unfold W_ at h
     split at h
     case h_2=>cases h
     rename_i hu
     split at h
     · cases h;exact go _ _ _ hel hu (.inl rfl) hsrc2 _
     · cases h;exact go _ _ _ hel hu (.inr rfl) hsrc2 _
   · cases h
     have hob:=ho _ (List.mem_singleton.2 rfl)
     refine go (Cw d 0 n) _ _ hel (Ak d n 0 fun k hk=>by rw [Nat.zero_add];exact hob k hk) (.inr ?_) hsrc2 _
     rw [Ig,O_]
 · cases h
def mkZ (P:Program) (nid:Nat) (o:Oper) (t:Nat->AV):Option CE :=
 match o.op with
 | .makeSlice ty l c=>(match P.underlying ty,Am (ev t l),Am (ev t c) with
   | some (.slice el),some (.int _ a),some (.int _ b)=>(match P.info? el,oo P el with
     | some i,some z=>(match Nat.ble 1 i.size&&Nat.beq (len z) i.size&&dS z with
       | true=>(match DV (ev t l)&&DV (ev t c) with
         | true=>(match decide (0<=a)&&decide (a<=b)&&decide ((i.bytes:Int)*b<=281474976710656)&&decide (b<=9223372036854775807) with
           | true=>some ⟨.own nid i.size 0 a.toNat,[nid],[(nid,.lst el i.size a.toNat (some b.toNat) (rep z a.toNat))],[],[]⟩
           | false=>none)
         | false=>some ⟨.own nid i.size 0 a.toNat,[nid],[(nid,.row el i.size a.toNat (some b.toNat) fun _ j=>get z j)],[],[0<=a,a<=b,(i.bytes:Int)*b<=281474976710656,b<=9223372036854775807]⟩)
       | false=>none)
     | _,_=>none)
   | _,_,_=>none)
 | _=>none
theorem NY {zc:Array Value} {m n sz:Nat} (h:m<=n):(madeCells zc (n*sz)).toList.take (m*sz)=(madeCells zc (m*sz)).toList:=by
 have hle:m*sz<=n*sz:=Nat.mul_le_mul_right _ h
 apply List.ext_getElem?
 intro j
 rw [List.getElem?_take]
 by_cases hj:j<m*sz
 · rw [if_pos hj]
   simp [madeCells,hj,Nat.lt_of_lt_of_le hj hle]
 · rw [if_neg hj]
   simp [madeCells,Nat.le_of_not_lt hj]
theorem ab7 {P:Program} {rd:Nat->ay} {nid:Nat} {o:Oper} {t:Nat->AV} {e:CE} (hd:∀ k,nid<=k->rd k=.dead) (h:mkZ P nid o t=some e) (ho:Hold e.ob):CE.Good P o t rd e:=by
 unfold mkZ at h
 split at h
 case h_2=>cases h
 rename_i ty l c hop
 split at h
 case h_2=>cases h
 rename_i el k1 a k2 b hu hl hc
 split at h
 case h_2=>cases h
 rename_i i z hi hz
 split at h
 case h_2=>cases h
 rename_i hb
 simp only [Bool.and_eq_true,Nat.ble_eq,Nat.beq_eq,len_eq] at hb
 obtain ⟨⟨hs1,hzl⟩,hnz⟩:=hb
 have go:∀ (B:ay),0<=a->a<=b->(i.bytes:Int)*b<=281474976710656->b<=9223372036854775807 ->
  (B=.lst el i.size a.toNat (some b.toNat) (rep z a.toNat)∨B=.row el i.size a.toNat (some b.toNat) fun _ j=>get z j)->∀ ob,CE.Good P o t rd ⟨.own nid i.size 0 a.toNat,[nid],[(nid,B)],[],ob⟩:=by
  intro B h0 h1 h2 h3 hB ob M hM
  refine bL fun H E w ac hC hT=>?_
  have hdn:getM M nid=.dead:=(hM nid (by simp)).trans (hd nid (Nat.le_refl _))
  have e1:=eU hl (aM hT l)
  have e2:=eU hc (aM hT c)
  obtain ⟨i',zv,hi',hz',hrz,hoz⟩:=iK H E hz
  rw [hi] at hi'
  cases hi'
  have hzs:zv.cells.size=i.size:=by have:=aA.length hrz;simp at this;omega
  have hrun:=run_make (P:=P) w ty el i zv hu hi hz' k1 k2 a b h0 h1 h2 h3
  have hle:a.toNat<=b.toNat:=by omega
  have hmul:a.toNat*i.size<=b.toNat*i.size:=Nat.mul_le_mul_right _ hle
  obtain ⟨s1,s2,s3,s4⟩:=E.eO nid (some w.heap.size) b.toNat a.toNat
  have hones:ones (madeCells zv.cells (b.toNat*i.size)).toList:=uY hoz (by omega) _
  have hBok:bV H (E.set nid (some w.heap.size) b.toNat a.toNat) (w.alloc (.cells (madeCells zv.cells (b.toNat*i.size)) el)) nid B:=by
   rcases hB with rfl | rfl
   · refine ⟨s1,by rw [s3,s4];exact ⟨rfl,hle⟩,by rw [s3];unfold maxLen;omega,fun q hq=>by cases hq;exact s3,?_⟩
     rw [s2]
     refine ⟨_,heap_alloc_new w _,fun x hx=>hones x (List.mem_of_mem_take hx),by rw [s3];exact size_madeCells _ _,?_⟩
     rw [NY hle]
     exact aA.env (pF hC hdn) (Kv hrz hzs hs1 a.toNat)
   · refine ⟨s1,by rw [s3,s4];exact ⟨rfl,hle⟩,by rw [s3];unfold maxLen;omega,fun q hq=>by cases hq;exact s3,?_⟩
     rw [s2]
     refine ⟨_,heap_alloc_new w _,fun x hx=>hones x (List.mem_of_mem_take hx),by rw [s3];exact size_madeCells _ _,fun k hk j hj=>?_⟩
     have hlt:k*i.size+j<b.toNat*i.size:=by
      have:(k+1)*i.size<=b.toNat*i.size:=Nat.mul_le_mul_right _ (by omega)
      rw [Nat.add_mul] at this;omega
     have hjz:j<zv.cells.size:=by omega
     have hmod:(k*i.size+j) % zv.cells.size=j:=by
      rw [hzs,Nat.mul_comm,Nat.mul_add_mod];exact Nat.mod_eq_of_lt hj
     refine ⟨zv.cells[j],?_,?_⟩
     · simp only [madeCells,Array.getElem?_map,Array.getElem?_range,hlt,if_pos,Option.map_some]
       rw [hmod]
       simp [hjz]
     · have hz2:aA z H E0 zv.cells.toList:=aA.dR _ hnz hrz
       exact bn hz2 j _ (by simp [hjz])
  have hconc:=oP (κ:=b.toNat) (η:=a.toNat) (B:=B) hC hdn (madeCells zv.cells (b.toNat*i.size)) el hBok
  refine ⟨.slice (some ⟨w.heap.size,0,none⟩) a.toNat b.toNat,_,H,_,by simp [execOp,hop,e1,e2,hrun],⟨s1,by rw [s3,s4];omega,?_⟩,hconc.1,hconc.2⟩
  rw [s2]
  exact ⟨some ⟨w.heap.size,0,none⟩,by rw [s3];simp,by simp⟩
 split at h
 · split at h
   case h_2=>cases h
   rename_i hcond
   cases h
   simp only [Bool.and_eq_true,decide_eq_true_eq] at hcond
   exact go _ hcond.1.1.1 hcond.1.1.2 hcond.1.2 hcond.2 (.inl rfl) _
 · cases h
   exact go _ (ho _ (by simp)) (ho _ (by simp)) (ho _ (by simp)) (ho _ (by simp)) (.inr rfl) _
def adh (P:Program) (rd:Nat->ay) (o:Oper) (t:Nat->AV):Option CE :=
 match o.op with
 | .call { callee:=.builtin .cap,args,argTypes }=>(match args.toList,argTypes.toList with
   | [x],[ty]=>(match P.underlying ty,ev t x with
     | some (.slice _),.own i _ lo _=>(match rd i with
       | .lst _ _ _ (some q) _=>some ⟨.s (.int .i64 ((q - lo:Nat):Int)),[i],[],[],[]⟩
       | .row _ _ _ (some q) _=>some ⟨.y (.int .i64 ((q - lo:Nat):Int)),[i],[],[],[]⟩
       | .trow _ _ _ (some q) _ _ _=>some ⟨.y (.int .i64 ((q - lo:Nat):Int)),[i],[],[],[]⟩
       | _=>none)
     | some (.slice _),.s (.slice none 0 0)=>some ⟨.s (.int .i64 0),[],[],[],[]⟩
     | _,_=>none)
   | _,_=>none)
 | _=>none
theorem WH {P:Program} {rd:Nat->ay} {o:Oper} {t:Nat->AV} {e:CE} (h:adh P rd o t=some e):CE.Good P o t rd e:=by
 unfold adh at h
 split at h
 case h_2=>cases h
 rename_i args ats hop
 split at h
 case h_2=>cases h
 rename_i x ty hx hty
 have h1:args=#[x]:=Array.ext' hx
 have h2:ats=#[ty]:=Array.ext' hty
 subst h1;subst h2
 have run:∀ (a:Act) (w:World) (A:Option Addr) (n c:Nat) (el:TypeId),P.underlying ty=some (.slice el)->a.eval x=.slice A n c->(execOp a.eval o).run P w=.ok (.value (.int .i64 (c:Int))) w:=by
  intro a w A n c el hu hv
  simp [execOp,hop,resolve,invoke,builtin,hv,Builtin.cap_,run_underlying hu,goInt]
 split at h
 · rename_i el i sz lo n hu he
   have go:∀ (q:Nat) (r:AV),(r=.s (.int .i64 ((q - lo:Nat):Int))∨r=.y (.int .i64 ((q - lo:Nat):Int)))->(∀ H E w,bV H E w i (rd i)->E.κ i=q)->CE.Good P o t rd ⟨r,[i],[],[],[]⟩:=by
    intro q r hr hq M hM
    refine bL fun H E w a hC hT=>?_
    have hv:=aM hT x
    rw [he] at hv
    obtain ⟨hl,hη,hm⟩:=hv
    have hκ:=hq H E w (by have:=hC.blk i;rwa [hM i (by simp)] at this)
    have hv2:∃ A,a.eval x=.slice A n (q - lo):=by
     rw [hκ] at hm hη
     split at hm
     · obtain ⟨A,h,_⟩:=hm;exact ⟨A,h⟩
     · rename_i hι
       obtain ⟨h0,h1,h⟩:=hm
       have hb:=hC.blk i
       rw [hM i (by simp)] at hb
       refine ⟨none,?_⟩
       rw [h,h1]
       have hq0:q=0:=by
        cases hB:rd i with
        | dead=>rw [hB] at hb;simp [bV,hl] at hb
        | box ty' cs=>rw [hB] at hb;obtain ⟨_,b,vs,hb1,_⟩:=hb;rw [hι] at hb1;cases hb1
        | mp es ck=>rw [hB] at hb;obtain ⟨_,b,vs,hb1,_⟩:=hb;rw [hι] at hb1;cases hb1
        | mi kk vk has c=>rw [hB] at hb;obtain ⟨_,b,vs,ck,hb1,_⟩:=hb;rw [hι] at hb1;cases hb1
        | mit m since seen last=>rw [hB] at hb;obtain ⟨_,_,b,bm,hb1,_⟩:=hb;rw [hι] at hb1;cases hb1
        | any=>rw [hB] at hb;obtain ⟨_,b,o,hb1,_⟩:=hb;rw [hι] at hb1;cases hb1
        | tmap q has c n kn=>rw [hB] at hb;obtain ⟨_,b,_,_,_,hb1,_⟩:=hb;rw [hι] at hb1;cases hb1
        | trow ty' s2 n' cap c op zs=>rw [hB] at hb;obtain ⟨_,_,_,_,hb1⟩:=hb;rw [hι] at hb1;rw [<- hκ];exact hb1.1
        | lst ty' s2 n' cap cs=>rw [hB] at hb;obtain ⟨_,_,_,_,hb1⟩:=hb;rw [hι] at hb1;rw [<- hκ];exact hb1.1
        | row ty' s2 n' cap cs=>rw [hB] at hb;obtain ⟨_,_,_,_,hb1⟩:=hb;rw [hι] at hb1;rw [<- hκ];exact hb1
       rw [hq0];simp
    obtain ⟨A,hv2⟩:=hv2
    refine ⟨_,w,H,E,run a w A n (q - lo) el hu hv2,?_,hC,bF.refl _ _ _ _⟩
    rcases hr with rfl | rfl<;>exact ⟨rfl,rfl⟩
   split at h
   · rename_i q cs hg
     cases h
     exact go q _ (.inl rfl) fun H E w hb=>by rw [hg] at hb;exact hb.2.2.2.1 q rfl
   · rename_i q cs hg
     cases h
     exact go q _ (.inr rfl) fun H E w hb=>by rw [hg] at hb;exact hb.2.2.2.1 q rfl
   · rename_i q c op zs hg
     cases h
     exact go q _ (.inr rfl) fun H E w hb=>by rw [hg] at hb;exact hb.2.2.2.1 q rfl
   · cases h
 · rename_i el hu he
   cases h
   intro M hM
   refine bL fun H E w a hC hT=>?_
   have hv:=aM hT x
   rw [he] at hv
   exact ⟨_,w,H,E,run a w none 0 0 el hu hv.1,⟨rfl,rfl⟩,hC,bF.refl _ _ _ _⟩
 · cases h
def Qs (P:Program):Nat->TypeId->Nat->Option TypeId
 | 0,_,_=>none
 | n+1,ty,k=>(match P.underlying ty with
   | some (.struct fs)=>(fs.toList.foldl (fun r f=>match r with
     | some x=>some x
     | none=>(match sizeT P f.type with
       | some s=>(match Nat.ble f.offset k&&Nat.ble (k+1) (f.offset+s) with | true=>Qs P n f.type (k - f.offset) | false=>none)
       | none=>none)) none)
   | some (.slice el)=>(match k with | 0=>some el | _+1=>none)
   | _=>none)
def Ei (P:Program) (ty:TypeId) (mask:Nat):List AV->Nat->Nat->Option (List AV×List (Nat×ay))
 | [],_,_=>some ([],[])
 | a::r,k,nid=>(match mask.testBit k with
   | false=>(match Ei P ty mask r (k+1) nid with | some (l,wr)=>some (a::l,wr) | none=>none)
   | true=>(match a,Qs P 8 ty k with
     | .s (.slice none 0 0),some el=>(match P.info? el,Ei P ty mask r (k+1) (nid+1) with
       | some i,some (l,wr)=>some (.own nid i.size 0 0::l,(nid,.row el i.size 0 none (fun _ _=>.junk))::wr)
       | _,_=>none)
     | _,_=>none))
def news (nid:Nat):Nat->List Nat
 | 0=>[]
 | n+1=>nid::news (nid+1) n
def ac2 (P:Program) (rd:Nat->ay) (nid:Nat) (o:Oper) (t:Nat->AV) (mask:Nat):Option CE :=
 match o.op with
 | .build ty _=>(match yop P rd nid o t with
   | some e=>(match e.r,e.wr,e.kl with
     | .agg cs,[],[]=>(match Ei P ty mask cs 0 nid with
       | some (l,wr)=>some ⟨.agg l,e.rd++news nid (len wr),wr,[],e.ob⟩
       | none=>none)
     | _,_,_=>none)
   | none=>none)
 | _=>none
theorem Jy:∀ {n nid j:Nat},nid<=j->j<nid+n->j∈news nid n
 | 0,_,_,h1,h2=>by omega
 | n+1,nid,j,h1,h2=>by
   rw [news]
   rcases Nat.eq_or_lt_of_le h1 with e | e
   · subst e;exact List.mem_cons_self
   · exact List.mem_cons_of_mem _ (Jy (n:=n) e (by omega))
theorem uw {P:Program} {ty:TypeId} {mask:Nat}:∀ {cells:List AV} {k nid:Nat} {l:List AV} {wr:List (Nat×ay)} {H:HH} {E:Env} {w:World} {M:List ay} {vs:List Value},Ei P ty mask cells k nid=some (l,wr)->Conc H E w M->aA cells H E vs->(∀ j,nid<=j->j<nid+wr.length->getM M j=.dead) ->
 ∃ E',aA l H E' vs/\Conc H E' w (dx wr M)/\bF [] H E w H E' w
 | [],_,_,l,wr,H,E,w,M,vs,h,hC,hr,_=>by
   simp only [Ei] at h
   cases h
   exact ⟨E,hr,hC,bF.refl _ _ _ _⟩
 | a::r,k,nid,l,wr,H,E,w,M,vs,h,hC,hr,hd=>by
   obtain ⟨v,q,rfl,h1,h2⟩:=hr
   simp only [Ei] at h
   split at h
   · split at h
     case h_2=>cases h
     rename_i l' wr' hg
     cases h
     obtain ⟨E',g1,g2,g3⟩:=uw hg hC h2 hd
     refine ⟨E',⟨v,q,rfl,?_,g1⟩,g2,g3⟩
     have:=g3.rel h1
     rwa [kill] at this
   · split at h
     case h_2=>cases h
     rename_i el hel
     split at h
     case h_2=>cases h
     rename_i i l' wr' hi hg
     cases h
     have hdn:=hd nid (Nat.le_refl _) (by simp)
     obtain ⟨e1,e2,e3,e4⟩:=E.eO nid none 0 0
     have hvia:=pF (bo:=none) (κ:=0) (η:=0) hC hdn
     obtain ⟨hc,hev⟩:=hC.new (w':=w) (i:=nid) (κ:=0) (η:=0) (bo:=none) (B:=.row el i.size 0 none (fun _ _=>.junk)) hdn rfl rfl rfl (Nat.le_refl _) (fun _ _=>rfl) (fun b hb=>by cases hb)
      ⟨e1,by rw [e3,e4];exact ⟨rfl,Nat.le_refl _⟩,by rw [e3];exact Nat.zero_le _,(fun q hq=>by cases hq),by rw [e2];exact e3⟩
     obtain ⟨E',g1,g2,g3⟩:=uw hg hc (aA.env hvia h2) fun j hj hl=>by
      rw [aW _ _ _ _ (by omega)]
      exact hd j (by omega) (by simp;omega)
     refine ⟨E',⟨v,q,rfl,?_,g1⟩,g2,hev.trans g3 fun _ h=>h⟩
     have hv:v=.slice none 0 0:=h1.1
     have:Rel (.own nid i.size 0 0) H (E.set nid none 0 0) v:=by
      rw [hv]
      exact ⟨e1,by rw [e3,e4];exact ⟨Nat.le_refl _,Nat.le_refl _⟩,by rw [e2];exact ⟨rfl,rfl,rfl⟩⟩
     have:=g3.rel this
     rwa [kill] at this
theorem Wx {P:Program} {rd:Nat->ay} {nid:Nat} {o:Oper} {t:Nat->AV} {mask:Nat} {e:CE} (hd:∀ k,nid<=k->rd k=.dead) (h:ac2 P rd nid o t mask=some e) (ho:Hold e.ob):CE.Good P o t rd e:=by
 intro M hM H E w a K Q hC hT hdf hkk
 unfold ac2 at h
 split at h
 case h_2=>cases h
 rename_i ty parts hop
 split at h
 case h_2=>cases h
 rename_i g hg
 split at h
 case h_2=>cases h
 rename_i cs hr hw hk
 split at h
 case h_2=>cases h
 rename_i l wr hag
 cases h
 have hs:=KZ hg ho hd (M:=M) (fun i hi=>hM i (List.mem_append_left _ hi))
 refine hs H E w a K Q hC hT hdf fun v w' H' E' hr' hc hev=>?_
 rw [hw,hk] at hc
 rw [hk] at hev
 rw [hr] at hr'
 have hc:Conc H' E' w' M:=hc
 obtain ⟨vs,rfl,hrl⟩:=hr'
 obtain ⟨E2,q1,q2,q3⟩:=uw hag hc hrl fun j h1 h2=>(hM j (List.mem_append_right _ (Jy h1 (by rw [len_eq wr];exact h2)))).trans (hd j h1)
 exact hkk (.agg vs) w' H' E2 ⟨vs,rfl,q1⟩ q2 (hev.trans q3 fun _ h=>h)
def R8 (P:Program) (rd:Nat->ay) (nid:Nat) (o:Oper) (t:Nat->AV):Option CE :=
 match o.op with
 | .binOp ..=>acN o t
 | .index ..=>gM P o t
 | .convert ..=>toStr P rd o t
 | .makeSlice ..=>mkZ P nid o t
 | .call _=>adh P rd o t
 | _=>none
theorem QV {P:Program} {rd:Nat->ay} {nid:Nat} {o:Oper} {t:Nat->AV} {e:CE} (hd:∀ k,nid<=k->rd k=.dead) (h:R8 P rd nid o t=some e) (ho:Hold e.ob):CE.Good P o t rd e:=by
 unfold R8 at h
 split at h
 · exact X6 h ho
 · exact Zm h ho
 · exact SB h ho
 · exact ab7 hd h ho
 · exact WH h
 · cases h
theorem xR {P:Program} (w:World) (t tx ty e:TypeId) (i:TypeInfo) (z:Value) (k kx:IntKind) (ht:P.underlying t=some (.slice e)) (hx:P.underlying tx=some (.int kx)) (hi:P.info? e=some i) (hz:i.zero=some z) (hs:1<=i.size)
 (n:Nat) (h0:0<n) (h63:(n:Int)<=9223372036854775807) (h48:n*i.bytes<=281474976710656) :
 (Builtin.append_ #[t,tx] ty #[.slice none 0 0,.int k n]).run P w =
   .ok (.slice (some ⟨w.heap.size,0,none⟩) n (grownCap w n 0 e)) (w.drew.alloc (.cells (Builtin.zeroCells z.cells n++Builtin.zeroCells z.cells (grownCap w n 0 e - n)) e)):=by
 have hn:n≠0:=by omega
 have hn2:¬ (n*i.size=0):=by
  have:1*1<=n*i.size:=Nat.mul_le_mul h0 hs
  omega
 have h63':¬ (9223372036854775807<(n:Int)):=by omega
 have h48':¬ (281474976710656<Builtin.nextslicecap n 0*i.bytes):=by rw [nextslicecap_zero h0];omega
 have hw:IntKind.i64.wrap (n:Int)=n:=by rw [IntKind.wrap_i64];omega
 have hneg:¬ ((n:Int)<0):=by omega
 have hbig:¬ (281474976710656<(n:Int)*(i.bytes:Int)):=by
  have:((n*i.bytes:Nat):Int)<=281474976710656:=by omega
  rw [Int.natCast_mul] at this;omega
 have hs1:¬ (i.size=0):=by omega
 simp [Builtin.append_,run_underlying ht,run_underlying hx,sizeOf,typeInfo,zeroValue,hi,hz,asInt,asIntOf,hw,hneg,hbig,hn,hs1,h63',h48',Question.forced,run_firstCells_none,newRow,grownCap]
 exact fun e=>absurd e hn2
def BA (P:Program) (nid:Nat) (o:Oper) (t:Nat->AV):Option CE :=
 match o.op with
 | .call { callee:=.builtin .append,args,argTypes }=>(match args.toList,argTypes.toList with
   | [s,x],[ty,tx]=>(match ev t s,Am (ev t x),P.underlying ty,P.underlying tx with
     | .s (.slice none 0 0),some (.int _ n),some (.slice el),some (.int _)=>(match P.info? el,oo P el with
       | some i,some z=>(match Nat.ble 1 i.size&&Nat.beq (len z) i.size&&dS z with
         | true=>some ⟨.own nid i.size 0 n.toNat,[nid],[(nid,.row el i.size n.toNat none fun _ j=>get z j)],[],[0<n,n<=9223372036854775807,n*(i.bytes:Int)<=281474976710656]⟩
         | false=>none)
       | _,_=>none)
     | _,_,_,_=>none)
   | _,_=>none)
 | .slice ty x lo hi mx=>(match P.underlying ty,ev t x,lo,mx,hi.map fun q=>Am (ev t q) with
   | some (.slice el),.s (.slice none 0 0),none,none,some (some (.int _ 0))=>(match sizeT P el with | some _=>some ⟨.s (.slice none 0 0),[],[],[],[]⟩ | none=>none)
   | _,_,_,_,_=>none)
 | _=>none
theorem J2 (zc:Array Value) (n m k j:Nat) (h:0<zc.size) (hk:k<n) (hj:j<zc.size):(Builtin.zeroCells zc n++Builtin.zeroCells zc m)[k*zc.size+j]? = zc[j]?:=by
 have hlt:k*zc.size+j<n*zc.size:=by
  have:(k+1)*zc.size<=n*zc.size:=Nat.mul_le_mul_right _ hk
  rw [Nat.add_mul] at this;omega
 have hmod:(k*zc.size+j) % zc.size=j:=by rw [Nat.mul_comm,Nat.mul_add_mod];exact Nat.mod_eq_of_lt hj
 rw [Array.getElem?_append_left (by simpa [Builtin.zeroCells] using hlt)]
 simp [Builtin.zeroCells,hlt,hmod,hj]
theorem Dm {P:Program} {rd:Nat->ay} {nid:Nat} {o:Oper} {t:Nat->AV} {e:CE} (hd:∀ k,nid<=k->rd k=.dead) (h:BA P nid o t=some e) (ho:Hold e.ob):CE.Good P o t rd e:=by
 unfold BA at h
 split at h
 · rename_i args ats hop
   split at h
   case h_2=>cases h
   rename_i s x ty tx hargs hats
   have h1:args=#[s,x]:=Array.ext' hargs
   have h2:ats=#[ty,tx]:=Array.ext' hats
   subst h1;subst h2
   split at h
   case h_2=>cases h
   rename_i k n el kx hs hx hu hux
   split at h
   case h_2=>cases h
   rename_i i z hi hz
   split at h
   case h_2=>cases h
   rename_i hb
   cases h
   simp only [Bool.and_eq_true,Nat.ble_eq,Nat.beq_eq,len_eq] at hb
   obtain ⟨⟨hs1,hzl⟩,hnz⟩:=hb
   have o1:=ho (0<n) (by simp)
   have o2:=ho (n<=9223372036854775807) (by simp)
   have o3:=ho (n*(i.bytes:Int)<=281474976710656) (by simp)
   intro M hM
   refine bL fun H E w ac hC hT=>?_
   have hdn:getM M nid=.dead:=(hM nid (by simp)).trans (hd nid (Nat.le_refl _))
   have e1:=aM hT s
   rw [hs] at e1
   have e1:=e1.1
   have e2:=eU hx (aM hT x)
   obtain ⟨N,rfl⟩:=Int.eq_ofNat_of_zero_le (Int.le_of_lt o1)
   have hN0:0<N:=by omega
   obtain ⟨i',zv,hi',hz',hrz,hoz⟩:=iK H E hz
   rw [hi] at hi'
   cases hi'
   have hzs:zv.cells.size=i.size:=by have:=aA.length hrz;simp at this;omega
   have hb48:N*i.bytes<=281474976710656:=by
    rw [<- Int.natCast_mul] at o3;omega
   have hrun:=xR (P:=P) w ty tx o.type el i zv k kx hu hux hi hz' hs1 N hN0 o2 hb48
   have hge:=grownCap_ge w N 0 el
   have hle:=grownCap_le_maxLen w N 0 el (by unfold maxLen;omega)
   obtain ⟨s1,s2,s3,s4⟩:=E.eO nid (some w.heap.size) (grownCap w N 0 el) N
   let vs:=Builtin.zeroCells zv.cells N++Builtin.zeroCells zv.cells (grownCap w N 0 el - N)
   have hvs:vs.size=grownCap w N 0 el*i.size:=by
    show (Builtin.zeroCells zv.cells N++Builtin.zeroCells zv.cells (grownCap w N 0 el - N)).size=_
    simp only [Array.size_append,Builtin.zeroCells,Array.size_map,Array.size_range,hzs,<- Nat.add_mul]
    congr 1;omega
   have hones:ones vs.toList:=by
    intro y hy
    simp only [vs,Array.toList_append,List.mem_append] at hy
    rcases hy with hy | hy
    · exact uY hoz (by omega) _ y (by simpa [Builtin.zeroCells] using hy)
    · exact uY hoz (by omega) _ y (by simpa [Builtin.zeroCells] using hy)
   have hBok:bV H (E.set nid (some w.heap.size) (grownCap w N 0 el) N) (w.drew.alloc (.cells vs el)) nid (.row el i.size N none fun _ j=>get z j):=by
    refine ⟨s1,by rw [s3,s4];exact ⟨rfl,hge⟩,by rw [s3];exact hle,(fun q hq=>by cases hq),?_⟩
    rw [s2]
    refine ⟨vs,by have:=heap_alloc_new w.drew (.cells vs el);simpa using this,fun y hy=>hones y (List.mem_of_mem_take hy),by rw [s3];exact hvs,fun k hk j hj=>?_⟩
    refine ⟨zv.cells[j]'(by omega),?_,?_⟩
    · have:=J2 zv.cells N (grownCap w N 0 el - N) k j (by omega) hk (by omega)
      rw [hzs] at this
      rw [show vs=Builtin.zeroCells zv.cells N++Builtin.zeroCells zv.cells (grownCap w N 0 el - N) from rfl,this]
      exact Array.getElem?_eq_getElem (by omega)
    · have hz2:aA z H E0 zv.cells.toList:=aA.dR _ hnz hrz
      exact bn hz2 j _ (by simp;done)
   obtain ⟨hconc,hev⟩:=hC.new (w':=w.drew.alloc (.cells vs el)) (i:=nid) (κ:=grownCap w N 0 el) (η:=N) (bo:=some w.heap.size) (B:=.row el i.size N none fun _ j=>get z j) hdn rfl rfl rfl (by simp) (fun b hb=>Go.RowKit.Below.heap_alloc w.drew (.cells vs el) b hb) (fun b hb=>by cases hb;exact Nat.le_refl _) hBok
   refine ⟨.slice (some ⟨w.heap.size,0,none⟩) N (grownCap w N 0 el),_,H,_,by simp only [execOp,hop];simp [resolve,invoke,builtin,e1,e2,hrun];rfl,⟨s1,by rw [s3,s4];simp;omega,?_⟩,hconc,hev⟩
   rw [s2]
   exact ⟨some ⟨w.heap.size,0,none⟩,by rw [s3];simp,by simp⟩
 · rename_i ty x lo hi mx hop
   split at h
   case h_2=>cases h
   rename_i el k hu hx hhi
   split at h
   case h_2=>cases h
   rename_i sz hsz
   cases h
   intro M hM
   refine bL fun H E w ac hC hT=>?_
   have e1:=aM hT x
   rw [hx] at e1
   have e1:=e1.1
   cases hi with
   | none=>cases hhi
   | some q =>
     have hq:Am (ev t q)=some (.int k 0):=by simpa using hhi
     have e2:=eU hq (aM hT q)
     refine ⟨.slice none 0 0,w,H,E,?_,⟨rfl,rfl⟩,hC,bF.refl _ _ _ _⟩
     simp [execOp,hop,e1,e2,Instr.sliceAt,Instr.slice,Instr.sliceBounds,Instr.sliceBound,run_underlying hu,asIntOf,dz w hsz]
 · cases h
theorem CE.Good.blk {P:Program} {o:Oper} {t:Nat->AV} {rd:Nat->ay} {r:AV} {l:List Nat} {i:Nat} {B B':ay} (hB:∀ H E w,bV H E w i B->bV H E w i B') (h:CE.Good P o t rd ⟨r,l,[(i,B)],[],[]⟩):CE.Good P o t rd ⟨r,l,[(i,B')],[],[]⟩:=by
 intro M hM H E w a K Q hC hT hd hk
 refine h M hM H E w a K Q hC hT hd fun v w' H' E' hr hc hev=>hk v w' H' E' hr ?_ hev
 have hc:Conc H' E' w' (iH M i B):=hc
 show Conc H' E' w' (iH M i B')
 refine ⟨hc.imm,hc.tf,fun k=>?_,hc.injH,hc.sepH,hc.ltS⟩
 by_cases hk:i=k
 · subst hk
   have:=hc.blk i
   rw [aT] at this ⊢
   exact hB _ _ _ this
 · have:=hc.blk k
   rw [aW _ _ _ _ hk] at this ⊢
   exact this
theorem Dj:∀ (l r:List AV) (j:Nat),j<l.length->get (l++r) j=get l j
 | [],_,_,h=>absurd h (Nat.not_lt_zero _)
 | _::_,_,0,_=>rfl
 | _::l,r,j+1,h=>by simp only [List.cons_append,get];exact Dj l r j (by simpa using h)
theorem CU:∀ (l r:List AV) (j:Nat),get (l++r) (l.length+j)=get r j
 | [],r,j=>by simp
 | _::l,r,j=>by
   simp only [List.cons_append,List.length_cons]
   rw [show l.length+1+j=(l.length+j)+1 by omega]
   simp only [get]
   exact CU l r j
theorem NJ (z:List AV):∀ n,(rep z n).length=n*z.length
 | 0=>by simp [rep]
 | n+1=>by simp only [rep,List.length_append,NJ z n,Nat.add_mul];omega
theorem LD (z:List AV):∀ (n k j:Nat),k<n->j<z.length->get (rep z n) (k*z.length+j)=get z j
 | 0,_,_,h,_=>absurd h (Nat.not_lt_zero _)
 | n+1,0,j,_,hj=>by
   simp only [rep,Nat.zero_mul,Nat.zero_add]
   exact Dj _ _ _ hj
 | n+1,k+1,j,hk,hj=>by
   simp only [rep]
   rw [show (k+1)*z.length+j=z.length+(k*z.length+j) by rw [Nat.add_mul];omega,CU z]
   exact LD z n k j (by omega) hj
theorem WI {H:HH} {E:Env} {w:World} {i ty sz n:Nat} {z:List AV} (hz:z.length=sz) (hs:1<=sz) (hn:dS z=true) (h:bV H E w i (.row ty sz n none fun _ j=>get z j)) (h0:0<n):bV H E w i (.lst ty sz n none (rep z n)):=by
 obtain ⟨h1,h2,h3,h4,h5⟩:=h
 refine ⟨h1,h2,h3,h4,?_⟩
 cases hι:E.ι i with
 | none=>rw [hι] at h5;omega
 | some b =>
   rw [hι] at h5
   obtain ⟨vs,g1,g2,g3,g4⟩:=h5
   refine ⟨vs,g1,g2,g3,?_⟩
   have hlen:(rep z n).length=n*sz:=by rw [<- hz];exact NJ z n
   have hle:n*sz<=E.κ i*sz:=Nat.mul_le_mul_right _ h2.2
   refine gB (by rw [hlen,List.length_take,Array.length_toList];omega) fun q u hu=>?_
   rw [List.getElem?_take] at hu
   split at hu
   case isFalse=>cases hu
   rename_i hq
   have hdm:=Nat.div_add_mod q sz
   have hmod:q % sz<sz:=Nat.mod_lt _ (by omega)
   have hdiv:q / sz<n:=by rw [Nat.div_lt_iff_lt_mul (by omega)];exact hq
   obtain ⟨x,hx,hr⟩:=g4 (q / sz) hdiv (q % sz) hmod
   have he:q / sz*sz+q % sz=q:=by rw [Nat.mul_comm];exact hdm
   rw [he] at hx
   have hux:u=x:=by
    have:vs.toList[q]? = some x:=by simpa using hx
    rw [this] at hu
    exact (Option.some.inj hu).symm
   subst hux
   have hg:get (rep z n) q=get z (q % sz):=by
    have:=LD z n (q / sz) (q % sz) hdiv (by omega)
    rw [hz,he] at this
    exact this
   rw [hg]
   exact Rel.dR _ (jT hn _) hr
def JZ (P:Program) (nid:Nat) (o:Oper) (t:Nat->AV):Option CE :=
 match o.op with
 | .call { callee:=.builtin .append,args,argTypes }=>(match args.toList,argTypes.toList with
   | [s,x],[ty,tx]=>(match ev t s,ev t x,P.underlying ty,P.underlying tx with
     | .s (.slice none 0 0),.s (.int _ n),some (.slice el),some (.int _)=>(match P.info? el,oo P el with
       | some i,some z=>(match Nat.ble 1 i.size&&Nat.beq (len z) i.size&&dS z&&decide (0<n)&&decide (n<=9223372036854775807)&&decide (n*(i.bytes:Int)<=281474976710656) with
         | true=>some ⟨.own nid i.size 0 n.toNat,[nid],[(nid,.lst el i.size n.toNat none (rep z n.toNat))],[],[]⟩
         | false=>none)
       | _,_=>none)
     | _,_,_,_=>none)
   | _,_=>none)
 | _=>none
theorem Pj {P:Program} {rd:Nat->ay} {nid:Nat} {o:Oper} {t:Nat->AV} {e:CE} (hd:∀ k,nid<=k->rd k=.dead) (h:JZ P nid o t=some e):CE.Good P o t rd e:=by
 unfold JZ at h
 split at h
 case h_2=>cases h
 rename_i args ats hop
 split at h
 case h_2=>cases h
 rename_i s x ty tx hargs hats
 split at h
 case h_2=>cases h
 rename_i k n el kx hs hx hu hux
 split at h
 case h_2=>cases h
 rename_i i z hi hz
 split at h
 case h_2=>cases h
 rename_i hb
 cases h
 simp only [Bool.and_eq_true,decide_eq_true_eq] at hb
 obtain ⟨⟨⟨⟨⟨b1,b2⟩,b3⟩,b4⟩,b5⟩,b6⟩:=hb
 have hzl:z.length=i.size:=by simpa [len_eq] using b2
 have hE:BA P nid o t=some ⟨.own nid i.size 0 n.toNat,[nid],[(nid,.row el i.size n.toNat none fun _ j=>get z j)],[],[0<n,n<=9223372036854775807,n*(i.bytes:Int)<=281474976710656]⟩:=by
  unfold BA
  simp [hop,hargs,hats,hs,hx,hu,hux,hi,hz,b1,b2,b3,Am]
 have hg:=Dm hd hE (fun p hp=>by
  simp only [List.mem_cons,List.mem_nil_iff,or_false] at hp
  rcases hp with rfl | rfl | rfl
  · exact b4
  · exact b5
  · exact b6)
 refine CE.Good.blk (B:=.row el i.size n.toNat none fun _ j=>get z j) (fun H E w hB=>WI hzl (by simpa using b1) b3 hB (by omega)) ?_
 intro M hM
 exact hg M hM
open Go.MapKept (IsKey findNow_spec run_checkKey run_findKey run_keyThatStays heap_set sameNow_of_keys)
theorem zG {P:Program} {o:Oper} {t:Nat->AV} {M:List ay} {e:CE}
 (h:∀ H E w a,Conc H E w M->ji t H E a->∃ n v w' H' E',(execOp a.eval o).run P w=.ok n w'/\(n=.value v∨(n=.skip/\v=undef))/\Rel e.r H' E' v/\Conc H' E' w' (dx e.wr (dN e.kl M))/\bF e.kl H E w H' E' w'):StepT P o t M e:=by
 intro H E w a K Q hC hT hd hk
 obtain ⟨n,v,w',H',E',hv,hn,h1,h2,h3⟩:=h H E w a hC hT
 unfold Oper.wp
 rw [hv]
 rcases hn with rfl | ⟨rfl,rfl⟩<;>exact hk _ w' H' E' h1 h2 h3
def SN (P:Program) (t:TypeId):Option (TypeDesc×TypeId×TypeId):=match P.underlying t with
 | some (.map k e)=>(match P.underlying k with
   | some (.int q)=>some (.int q,k,e)
   | some .string=>some (.string,k,e)
   | some .bool=>some (.bool,k,e)
   | _=>none)
 | _=>none
theorem Fe {P:Program} {t:TypeId} {d:TypeDesc} {k e:TypeId} (h:SN P t=some (d,k,e)):P.underlying t=some (.map k e)/\P.underlying k=some d:=by
 unfold SN at h
 split at h
 case h_2=>cases h
 rename_i k' e' hu
 split at h<;>(try (cases h;done))<;>(rename_i hk;cases h;exact ⟨hu,hk⟩)
def DT:TypeDesc->Value->Bool
 | .int k,.int k' _=>decide (k'=k)
 | .string,.string _=>true
 | .bool,.bool _=>true
 | _,_=>false
theorem uN {d:TypeDesc} {v:Value} (h:DT d v=true):IsKey d v:=by
 unfold DT at h
 split at h
 · exact (of_decide_eq_true h:_=_)
 · trivial
 · trivial
 · cases h
def Fu:Value->Value->Bool
 | .int _ a,.int _ b=>decide (a=b)
 | .string a,.string b=>a.data.toList==b.data.toList
 | .bool a,.bool b=>a==b
 | _,_=>false
theorem Gn {d:TypeDesc} {a b:Value} (ha:IsKey d a) (hb:IsKey d b):Fu a b=true↔a=b:=by
 cases d<;>cases a<;>cases b<;>simp_all [IsKey,Fu]
 rename_i x y
 obtain ⟨⟨x⟩⟩:=x
 obtain ⟨⟨y⟩⟩:=y
 simp
def nI (k:Value):List (Value×AV×Nat)->Nat->Option (Nat×AV)
 | [],_=>none
 | e::r,i=>match Fu k e.1 with | true=>some (i,e.2.1) | false=>nI k r (i+1)
def sJ (d:TypeDesc):List (Value×AV×Nat)->Bool
 | []=>true
 | e::r=>DT d e.1&&sJ d r
def wD:List (Value×AV×Nat)->Nat->AV->List (Value×AV×Nat)
 | [],_,_=>[]
 | e::r,0,a=>(e.1,a,e.2.2)::r
 | e::r,i+1,a=>e::wD r i a
abbrev ents (es:List (Value×AV×Nat)):List (Value×Nat):=es.map fun e=>(e.1,e.2.2)
abbrev vals (es:List (Value×AV×Nat)):List AV:=es.map fun e=>e.2.1
abbrev tC (l:List MapEntry):List (Value×Nat):=l.map fun e=>(e.key,e.born)
abbrev xX (l:List MapEntry):List Value:=l.map fun e=>e.val
theorem find_ok {d:TypeDesc} {k:Value} {H:HH} {E:Env} (hk:IsKey d k):∀ {es:List (Value×AV×Nat)} {l:List MapEntry} (i:Nat),tC l=ents es->aA (vals es) H E (xX l)->sJ d es=true ->
 (nI k es i=none/\Instr.findNow d k l i=some none)∨∃ j e a,nI k es i=some (i+j,a)/\Instr.findNow d k l i=some (some (i+j,e.val))/\l[j]? = some e/\e.key=k/\Rel a H E e.val
 | [],l,i,h,_,_=>by
   have:l=[]:=by simpa using h
   subst this
   exact .inl ⟨rfl,rfl⟩
 | e::r,l,i,h,hr,ha=>by
   cases l with
   | nil=>simp at h
   | cons y l =>
     simp only [tC,ents,List.map_cons,List.cons.injEq,Prod.mk.injEq] at h
     simp only [sJ,Bool.and_eq_true] at ha
     obtain ⟨v,q,hv,h1,h2⟩:=hr
     simp only [xX,List.map_cons,List.cons.injEq] at hv
     obtain ⟨rfl,rfl⟩:=hv
     have hyk:IsKey d y.key:=by rw [h.1.1];exact uN ha.1
     obtain ⟨b,hb,hiff⟩:=sameNow_of_keys hk hyk
     cases b with
     | true =>
       have hke:k=y.key:=hiff.1 rfl
       refine .inr ⟨0,y,e.2.1,?_,by simp [Instr.findNow,hb],rfl,hke.symm,h1⟩
       have:Fu k e.1=true:=by rw [<- h.1.1];exact (Gn hk hyk).2 hke
       simp [nI,this]
     | false =>
       have hke:k≠y.key:=fun q=>by have:=hiff.2 q;cases this
       have hkb:Fu k e.1=false:=by
        rw [<- h.1.1]
        cases hq:Fu k y.key with
        | false=>rfl
        | true=>exact absurd ((Gn hk hyk).1 hq) hke
       rcases find_ok hk (i+1) h.2 h2 ha.2 with ⟨g1,g2⟩ | ⟨j,e',a,g1,g2,g3,g4,g5⟩
       · exact .inl ⟨by simp [nI,hkb,g1],by simp [Instr.findNow,hb,g2]⟩
       · exact .inr ⟨j+1,e',a,by simp [nI,hkb,g1];omega,by simp [Instr.findNow,hb,g2];omega,by simpa using g3,g4,g5⟩
def qH (ok:Bool) (a b:AV):AV:=match ok with | true=>.tup [a,b] | false=>a
theorem lJ {ok:Bool} {a:AV} {b:Bool} {H:HH} {E:Env} {v:Value} {x:AV} (h:Rel a H E v) (hx:x=.s (.bool b)∨x=.y (.bool b)):Rel (qH ok a x) H E (if ok then .tuple #[v,.bool b] else v):=by
 cases ok with
 | true=>exact ⟨#[v,.bool b],rfl,v,[.bool b],rfl,h,.bool b,[],rfl,(by rcases hx with rfl | rfl<;>exact ⟨rfl,rfl⟩),rfl⟩
 | false=>exact h
def o_ (P:Program) (t:TypeId):Option AV:=match P.info? t with | some i=>(match i.zero with | some z=>some (ZE z) | none=>none) | none=>none
theorem jV {P:Program} {t:TypeId} {a:AV} (H:HH) (E:Env) (w:World) (h:o_ P t=some a):∃ z,(zeroValue t).run P w=.ok z w/\Rel a H E z:=by
 unfold o_ at h
 split at h
 case h_2=>cases h
 rename_i i hi
 split at h
 case h_2=>cases h
 rename_i z hz
 cases h
 refine ⟨z,?_,zS z H E⟩
 have:(typeInfo t).run P w=.ok i w:=by simp [typeInfo,hi,Result.andThen]
 simp [zeroValue,this,hz,Result.andThen]
def zL (b:Bool) (v:Int):Int:=match b with | true=>v | false=>0
def Qd (P:Program) (rd:Nat->ay) (o:Oper) (t:Nat->AV):Option CE :=
 match o.op with
 | .lookup xt x idx ok=>(match SN P xt,Am (ev t idx) with
   | some (d,_,et),some kv=>(match DT d kv with
     | true=>(match ev t x with
       | .mref i=>(match rd i with
         | .mp es _=>(match sJ d es&&DV (ev t idx) with
           | true=>(match nI kv es 0 with
             | some (_,a)=>some ⟨qH ok a (.s (.bool true)),[i],[],[],[]⟩
             | none=>(match o_ P et with | some z=>some ⟨qH ok z (.s (.bool false)),[i],[],[],[]⟩ | none=>none))
           | false=>none)
         | .mi kk vk has c=>(match d,kv,o_ P et with
           | .int k0,.int _ n,some (.s (.int zk z))=>(match decide (k0=kk)&&decide (zk=vk)&&decide (z=0) with
             | true=>some ⟨qH ok (.y (.int vk (zL (has n) (c n)))) (.y (.bool (has n))),[i],[],[],[]⟩
             | false=>none)
           | _,_,_=>none)
         | _=>none)
       | .s (.map none)=>(match o_ P et with | some z=>some ⟨qH ok z (.s (.bool false)),[],[],[],[]⟩ | none=>none)
       | _=>none)
     | false=>none)
   | _,_=>none)
 | _=>none
theorem isK {kk:IntKind} {v:Value}:IsKey (.int kk) v↔∃ x,v=.int kk x:=by
 constructor
 · intro h
   cases v<;>simp [IsKey] at h
   subst h
   exact ⟨_,rfl⟩
 · rintro ⟨x,rfl⟩
   rfl
theorem xq {kk:IntKind} {n:Int}:∀ {l:List MapEntry} (i:Nat),(∀ e∈l,∃ x,e.key=.int kk x) ->
 (jc n l=none/\Instr.findNow (.int kk) (.int kk n) l i=some none)∨∃ j e,jc n l=some e.val/\Instr.findNow (.int kk) (.int kk n) l i=some (some (i+j,e.val))/\l[j]? = some e/\e.key=.int kk n /\
   ∀ v y,jc y (l.modify j fun e=>{ e with key:=.int kk n,val:=v })=if n=y then some v else jc y l
 | [],_,_=>.inl ⟨rfl,rfl⟩
 | e::r,i,h=>by
   obtain ⟨x,hx⟩:=h e (.head _)
   by_cases hn:n=x
   · subst hn
     refine .inr ⟨0,e,by simp [jc,hx],by simp [Instr.findNow,hx,Instr.sameNow],rfl,hx,fun v y=>?_⟩
     by_cases hy:y=n
     · subst hy;simp [jc]
     · have hy2:¬ n=y:=fun q=>hy q.symm
       simp [jc,hx,hy,hy2]
   · have hb:(n==x)=false:=by simpa using hn
     rcases xq (n:=n) (i+1) (fun y hy=>h y (.tail _ hy)) with ⟨h1,h2⟩ | ⟨j,e',h1,h2,h3,h4,h5⟩
     · exact .inl ⟨by simp [jc,hx,hn,h1],by simp [Instr.findNow,hx,Instr.sameNow,hb,h2]⟩
     · refine .inr ⟨j+1,e',by simp [jc,hx,hn,h1],by simp [Instr.findNow,hx,Instr.sameNow,hb,h2];omega,by simpa using h3,h4,fun v y=>?_⟩
       simp only [List.modify_succ_cons,jc,hx,h5 v y]
       by_cases hy:y=x
       · subst hy;simp [hn]
       · simp [hy]
theorem mE {P:Program} {w:World} {xt kt et:TypeId} {d:TypeDesc} {b:Nat} {es:Array MapEntry} {ck:Nat} {k z:Value} {r:Option (Nat×Value)} {ok:Bool} (hm:P.underlying xt=some (.map kt et)) (hk:P.underlying kt=some d) (hb:w.heap[b]? = some (.map es ck)) (hkey:IsKey d k) (hf:Instr.findNow d k es.toList 0=some r) (hz:r=none->(zeroValue et).run P w=.ok z w) :
 (Instr.lookup xt (.map (some b)) k ok).run P w=.ok (match r with | some (_,v)=>(if ok then .tuple #[v,.bool true] else v) | none=>(if ok then .tuple #[z,.bool false] else z)) w:=by
 cases r with
 | none=>simp [Instr.lookup,run_underlying hm,Go.MapKept.run_getObj_map hb,run_checkKey hk hkey,run_findKey hk hf,hz rfl,Result.andThen]
 | some r=>simp [Instr.lookup,run_underlying hm,Go.MapKept.run_getObj_map hb,run_checkKey hk hkey,run_findKey hk hf,Result.andThen]
theorem Vb {P:Program} {rd:Nat->ay} {o:Oper} {t:Nat->AV} {e:CE} (h:Qd P rd o t=some e):CE.Good P o t rd e:=by
 unfold Qd at h
 split at h
 case h_2=>cases h
 rename_i xt x idx ok hop
 split at h
 case h_2=>cases h
 rename_i d kt et kv hkd hkv
 obtain ⟨hm,hk⟩:=Fe hkd
 split at h
 case h_2=>cases h
 rename_i hkis
 have hkey:=uN hkis
 split at h
 · rename_i i hx
   split at h
   · rename_i es ck hg
     split at h
     case h_2=>cases h
     rename_i hall
     simp only [Bool.and_eq_true] at hall
     have go:∀ r,(∀ H E w b ms,Conc H E w (dx [] (dN [] []))∨True->w.heap[b]? = some (.map ms ck)->tC ms.toList=ents es->aA (vals es) H E (xX ms.toList)->∃ v,(Instr.lookup xt (.map (some b)) kv ok).run P w=.ok v w/\Rel r H E v)->CE.Good P o t rd ⟨r,[i],[],[],[]⟩:=by
      intro r hr M hM
      refine bL fun H E w a hC hT=>?_
      have h1:=aM hT x
      rw [hx] at h1
      obtain ⟨hl,b,hb,hv⟩:=h1
      have h2:=eU hkv (aM hT idx)
      have hB:=hC.blk i
      rw [hM i (by simp),hg] at hB
      obtain ⟨_,b',ms,g1,g2,g3,g4⟩:=hB
      rw [hb] at g1;cases g1
      obtain ⟨v,q1,q2⟩:=hr H E w b ms (.inr trivial) g2 g3 g4
      exact ⟨v,w,H,E,by simp [execOp,hop,hv,h2,q1],q2,hC,bF.refl _ _ _ _⟩
     split at h
     · rename_i j a hf
       cases h
       refine go _ fun H E w b ms _ g2 g3 g4=>?_
       rcases find_ok hkey 0 g3 g4 hall.1 with ⟨q1,_⟩ | ⟨j',e',a',q1,q2,q3,q4,q5⟩
       · rw [hf] at q1;cases q1
       · rw [hf] at q1
         obtain ⟨_,rfl⟩:=Prod.mk.inj (Option.some.inj q1)
         exact ⟨_,mE (z:=undef) hm hk g2 hkey q2 (fun h=>by cases h),lJ q5 (.inl rfl)⟩
     · rename_i hf
       split at h
       case h_2=>cases h
       rename_i z hz
       cases h
       refine go _ fun H E w b ms _ g2 g3 g4=>?_
       rcases find_ok hkey 0 g3 g4 hall.1 with ⟨_,q2⟩ | ⟨j',e',a',q1,q2,q3,q4,q5⟩
       · obtain ⟨zv,hz1,hz2⟩:=jV H E w hz
         exact ⟨_,mE hm hk g2 hkey q2 (fun _=>hz1),lJ hz2 (.inl rfl)⟩
       · rw [hf] at q1;cases q1
   · rename_i kk vk has c hg
     split at h
     case h_2=>cases h
     rename_i k0 k1 n zk z hz
     split at h
     case h_2=>cases h
     rename_i hc
     simp only [Bool.and_eq_true,decide_eq_true_eq] at hc
     obtain ⟨⟨rfl,rfl⟩,rfl⟩:=hc
     cases h
     have:k1=k0:=hkey
     subst this
     intro M hM
     refine bL fun H E w a hC hT=>?_
     have h1:=aM hT x
     rw [hx] at h1
     obtain ⟨hl,b,hb,hv⟩:=h1
     have h2:=eU hkv (aM hT idx)
     have hB:=hC.blk i
     rw [hM i (by simp),hg] at hB
     obtain ⟨_,b',ms,ck,g1,g2,g3,g4⟩:=hB
     rw [hb] at g1;cases g1
     obtain ⟨zv,hz1,hz2⟩:=jV H E w hz
     have hz2:zv=.int zk 0:=hz2.1
     subst hz2
     have g4:=g4 n
     rcases xq (n:=n) 0 g3 with ⟨q1,q2⟩ | ⟨j,e',q1,q2,q3,q4,_⟩
     · rw [q1] at g4
       have hn:has n=false:=by cases hh:has n with | false=>rfl | true=>rw [hh] at g4;cases g4
       refine ⟨_,w,H,E,by simp [execOp,hop,hv,h2,mE hm hk g2 hkey q2 (fun _=>hz1)];rfl,?_,hC,bF.refl _ _ _ _⟩
       rw [hn]
       exact lJ (v:=.int zk 0) ⟨rfl,rfl⟩ (.inr rfl)
     · rw [q1] at g4
       have hn:has n=true:=by cases hh:has n with | true=>rfl | false=>rw [hh] at g4;cases g4
       rw [hn] at g4
       have g4:=Option.some.inj g4
       refine ⟨_,w,H,E,by simp [execOp,hop,hv,h2,mE (z:=undef) hm hk g2 hkey q2 (fun h=>by cases h)];rfl,?_,hC,bF.refl _ _ _ _⟩
       rw [hn,g4]
       exact lJ (v:=.int zk (c n)) ⟨rfl,rfl⟩ (.inr rfl)
   · cases h
 · rename_i hx
   split at h
   case h_2=>cases h
   rename_i z hz
   cases h
   intro M hM
   refine bL fun H E w a hC hT=>?_
   have h1:=aM hT x
   rw [hx] at h1
   have hv:a.eval x=.map none:=h1.1
   have h2:=eU hkv (aM hT idx)
   obtain ⟨zv,hz1,hz2⟩:=jV H E w hz
   refine ⟨if ok then .tuple #[zv,.bool false] else zv,w,H,E,?_,lJ hz2 (.inl rfl),hC,bF.refl _ _ _ _⟩
   have hf:Instr.findNow d kv [] 0=some none:=rfl
   simp [execOp,hop,hv,h2,Instr.lookup,run_underlying hm,run_checkKey hk hkey,run_findKey hk hf,hz1,Result.andThen]
 · cases h
def jI (has:Int->Bool) (n:Int):Int->Bool:=fun y=>decide (n=y)||has y
def yL (c:Int->Int) (n u:Int):Int->Int:=fun y=>match decide (n=y) with | true=>u | false=>c y
def Ms (P:Program) (rd:Nat->ay) (mt:TypeId) (m k v:AV):Option CE:=match SN P mt,Am k with
 | some (d,_,_),some kv=>(match DT d kv with
   | true=>(match m with
     | .mref i=>(match rd i with
       | .mp es ck=>(match sJ d es&&DV k with
         | true=>some ⟨.junk,[i],[(i,match nI kv es 0 with | some (j,_)=>.mp (wD es j v) ck | none=>.mp (es++[(kv,v,ck)]) (ck+1))],[],[]⟩
         | false=>none)
       | .mi kk vk has c=>(match d,kv,Am v with
         | .int k0,.int _ n,some (.int vk' u)=>(match decide (k0=kk)&&decide (vk'=vk) with
           | true=>some ⟨.junk,[i],[(i,.mi kk vk (jI has n) (yL c n u))],[],[]⟩
           | false=>none)
         | _,_,_=>none)
       | _=>none)
     | _=>none)
   | false=>none)
 | _,_=>none
def WX (P:Program) (rd:Nat->ay) (o:Oper) (t:Nat->AV):Option CE :=
 match o.op with
 | .mapUpdate mt m k v=>Ms P rd mt (ev t m) (ev t k) (ev t v)
 | .insert mt m k v=>Ms P rd mt (ev t m) (ev t k) (ev t v)
 | _=>none
def World.FD (w:World) (b:Nat) (o:Obj):World:={ w with heap:=w.heap.setIfInBounds b o }
theorem vC {w:World} {b:Nat} {o o':Obj} (hb:w.heap[b]? = some o):Upd w (World.FD w b o') b o' :=
 ⟨rfl,rfl,rfl,by simp [World.FD],(heap_set hb).1,fun k hk=>(heap_set hb).2 k hk⟩
section
variable {P:Program} {w:World} {mt kt et:TypeId} {d:TypeDesc} {b:Nat} {es:Array MapEntry} {ck:Nat} {k v:Value}
theorem qZ (hm:P.underlying mt=some (.map kt et)) (hk:P.underlying kt=some d) (hb:w.heap[b]? = some (.map es ck)) (hkey:IsKey d k) (hf:Instr.findNow d k es.toList 0=some none) :
 (Instr.mapUpdate mt (.map (some b)) k v).run P w=.ok () (World.FD w b (.map (es.push ⟨k,v,ck⟩) (ck+1))):=by
 simp [Instr.mapUpdate,run_underlying hm,Go.MapKept.run_getObj_map hb,run_checkKey hk hkey,run_findKey hk hf,Go.MapKept.run_setObj_map _ hb,Result.andThen,World.FD]
theorem qI {j:Nat} {e:MapEntry} (hm:P.underlying mt=some (.map kt et)) (hk:P.underlying kt=some d) (hb:w.heap[b]? = some (.map es ck)) (hkey:IsKey d k) (hf:Instr.findNow d k es.toList 0=some (some (j,e.val))) (hj:es.toList[j]? = some e) (hke:e.key=k) :
 (Instr.mapUpdate mt (.map (some b)) k v).run P w=.ok () (World.FD w b (.map (es.modify j fun e=>{ e with key:=k,val:=v }) ck)):=by
 have hj:es[j]? = some e:=by simpa using hj
 simp [Instr.mapUpdate,run_underlying hm,Go.MapKept.run_getObj_map hb,run_checkKey hk hkey,run_findKey hk hf,hj,hke,run_keyThatStays hkey,Go.MapKept.run_setObj_map _ hb,Result.andThen,World.FD]
end
theorem CY {k v:Value} {a:AV} {H:HH} {E:Env} (hv:Rel a H E v):∀ {es:List (Value×AV×Nat)} {l:List MapEntry} {j:Nat} {e:MapEntry},tC l=ents es->aA (vals es) H E (xX l)->l[j]? = some e->e.key=k ->
 tC (l.modify j fun e=>{ e with key:=k,val:=v })=ents (wD es j a)/\aA (vals (wD es j a)) H E (xX (l.modify j fun e=>{ e with key:=k,val:=v }))
 | [],l,j,e,h,_,hj,_=>by
   have:l=[]:=by simpa using h
   subst this;simp at hj
 | x::r,l,j,e,h,hr,hj,hk=>by
   cases l with
   | nil=>simp at h
   | cons y l =>
     simp only [tC,ents,List.map_cons,List.cons.injEq,Prod.mk.injEq] at h
     obtain ⟨u,q,hu,h1,h2⟩:=hr
     simp only [xX,List.map_cons,List.cons.injEq] at hu
     obtain ⟨rfl,rfl⟩:=hu
     cases j with
     | zero =>
       simp at hj
       subst hj
       have h1e:x.1=k:=by rw [<- h.1.1];exact hk
       refine ⟨?_,?_⟩
       · simp only [List.modify_zero_cons,tC,ents,wD,List.map_cons,h1e,h.1.2]
         have:=h.2
         rw [this]
       · simp only [List.modify_zero_cons,xX,vals,wD,List.map_cons]
         exact ⟨v,_,rfl,hv,h2⟩
     | succ j =>
       simp only [List.getElem?_cons_succ] at hj
       obtain ⟨g1,g2⟩:=CY hv h.2 h2 hj hk
       refine ⟨?_,?_⟩
       · simp only [List.modify_succ_cons,tC,ents,wD,List.map_cons,h.1.1,h.1.2]
         have:tC _=_:=g1
         simp only [tC,ents] at this
         rw [this]
       · simp only [List.modify_succ_cons,xX,vals,wD,List.map_cons]
         exact ⟨_,_,rfl,h1,g2⟩
theorem Dy {n:Int} {kk:IntKind} {v:Value} {ck:Nat}:∀ {l:List MapEntry} (_:∀ e∈l,∃ x,e.key=.int kk x) (_:jc n l=none) (y:Int),jc y (l++[⟨.int kk n,v,ck⟩])=if n=y then some v else jc y l
 | [],_,_,y=>by
   by_cases hy:n=y
   · subst hy;simp [jc]
   · have:¬ y=n:=fun q=>hy q.symm
     simp [jc,hy,this]
 | e::r,h,hn,y=>by
   obtain ⟨x,hx⟩:=h e (.head _)
   simp only [jc,hx] at hn
   by_cases hnx:n=x
   · rw [if_pos hnx] at hn;cases hn
   · rw [if_neg hnx] at hn
     have:=Dy (v:=v) (ck:=ck) (fun y hy=>h y (.tail _ hy)) hn y
     simp only [List.cons_append,jc,hx,this]
     by_cases hy:y=x
     · subst hy;simp [hnx]
     · simp [hy]
theorem Ia {P:Program} {rd:Nat->ay} {o:Oper} {t:Nat->AV} {mt:TypeId} {m k v:Operand} {e:CE} (hop:o.op=.mapUpdate mt m k v∨o.op=.insert mt m k v) (h:Ms P rd mt (ev t m) (ev t k) (ev t v)=some e):CE.Good P o t rd e:=by
 unfold Ms at h
 split at h
 case h_2=>cases h
 rename_i d kt et kv hkd hkv
 obtain ⟨hm,hk⟩:=Fe hkd
 split at h
 case h_2=>cases h
 rename_i hkis
 have hkey:=uN hkis
 split at h
 case h_2=>cases h
 rename_i i hx
 have hexec:∀ (a:Act) (w w':World),(Instr.mapUpdate mt (a.eval m) (a.eval k) (a.eval v)).run P w=.ok () w'->(execOp a.eval o).run P w=.ok .skip w':=fun a w w' hr=>by
  rcases hop with hop | hop<;>simp [execOp,hop,hr]
 split at h
 · rename_i es ck hg
   split at h
   case h_2=>cases h
   rename_i hall
   simp only [Bool.and_eq_true] at hall
   cases h
   intro M hM
   refine zG fun H E w a hC hT=>?_
   have h1:=aM hT m
   rw [hx] at h1
   obtain ⟨hl,b,hb,hv⟩:=h1
   have h2:=eU hkv (aM hT k)
   have h3:=aM hT v
   have hB:=hC.blk i
   rw [hM i (by simp),hg] at hB
   obtain ⟨_,b',ms,g1,g2,g3,g4⟩:=hB
   rw [hb] at g1;cases g1
   rcases find_ok hkey 0 g3 g4 hall.1 with ⟨q1,q2⟩ | ⟨j,e',a',q1,q2,q3,q4,q5⟩
   · have hrun:=qZ (v:=a.eval v) hm hk g2 hkey q2
     have hBk:bV H E (World.FD w b (.map (ms.push ⟨kv,a.eval v,ck⟩) (ck+1))) i (.mp (es++[(kv,ev t v,ck)]) (ck+1)):=by
      refine ⟨hl,b,ms.push ⟨kv,a.eval v,ck⟩,hb,(heap_set g2).1,?_,?_⟩
      · rw [Array.toList_push,List.map_append,List.map_append,g3];rfl
      · have:=fG g4 (show aA [ev t v] H E [a.eval v] from ⟨_,_,rfl,h3,rfl⟩)
        simpa using this
     obtain ⟨hc,hev⟩:=hC.upd hl hb (vC g2) hBk
     refine ⟨_,undef,_,H,E,hexec a w _ (by rw [hv,h2];exact hrun),.inr ⟨rfl,rfl⟩,trivial,?_,hev⟩
     simp only [dN,dx]
     rw [q1]
     exact hc
   · have hrun:=qI (v:=a.eval v) hm hk g2 hkey (by simpa using q2) q3 q4
     simp only [Nat.zero_add] at q1
     obtain ⟨m1,m2⟩:=CY h3 g3 g4 q3 q4
     obtain ⟨hc,hev⟩:=hC.upd hl hb (vC g2) (B:=.mp (wD es j (ev t v)) ck) ⟨hl,b,_,hb,(heap_set g2).1,(by rw [Array.toList_modify];exact m1),(by rw [Array.toList_modify];exact m2)⟩
     refine ⟨_,undef,_,H,E,hexec a w _ (by rw [hv,h2];exact hrun),.inr ⟨rfl,rfl⟩,trivial,?_,hev⟩
     simp only [dN,dx]
     rw [q1]
     exact hc
 · rename_i kk vk has c hg
   split at h
   case h_2=>cases h
   rename_i k0 k1 n vk' u hu
   split at h
   case h_2=>cases h
   rename_i hc
   simp only [Bool.and_eq_true,decide_eq_true_eq] at hc
   obtain ⟨rfl,rfl⟩:=hc
   cases h
   have:k1=k0:=hkey
   subst this
   intro M hM
   refine zG fun H E w a hC hT=>?_
   have h1:=aM hT m
   rw [hx] at h1
   obtain ⟨hl,b,hb,hv⟩:=h1
   have h2:=eU hkv (aM hT k)
   have h3:=eU hu (aM hT v)
   have hB:=hC.blk i
   rw [hM i (by simp),hg] at hB
   obtain ⟨_,b',ms,ck,g1,g2,g3,g4⟩:=hB
   rw [hb] at g1;cases g1
   have hg4:∀ y,(if n=y then some (Value.int vk' u) else jc y ms.toList)=(match jI has n y with | true=>some (.int vk' (yL c n u y)) | false=>none):=by
    intro y
    by_cases hy:n=y
    · simp [jI,yL,hy]
    · rw [if_neg hy,g4 y]
      have h1:jI has n y=has y:=by simp [jI,hy]
      have h2:yL c n u y=c y:=by simp [yL,hy]
      rw [h1,h2]
      rfl
   rcases xq (n:=n) 0 g3 with ⟨q1,q2⟩ | ⟨j,e',q1,q2,q3,q4,q5⟩
   · have hrun:=qZ (v:=.int vk' u) hm hk g2 hkey q2
     have hBk:bV H E (World.FD w b (.map (ms.push ⟨.int k1 n,.int vk' u,ck⟩) (ck+1))) i (.mi k1 vk' (jI has n) (yL c n u)):=by
      refine ⟨hl,b,ms.push ⟨.int k1 n,.int vk' u,ck⟩,ck+1,hb,(heap_set g2).1,fun e he=>?_,fun y=>?_⟩
      · rw [Array.toList_push,List.mem_append] at he
        rcases he with he | he
        · exact g3 e he
        · simp at he;subst he;exact ⟨n,rfl⟩
      · rw [Array.toList_push];exact (Dy g3 q1 y).trans (hg4 y)
     obtain ⟨hc,hev⟩:=hC.upd hl hb (vC g2) hBk
     exact ⟨_,undef,_,H,E,hexec a w _ (by rw [hv,h2,h3];exact hrun),.inr ⟨rfl,rfl⟩,trivial,hc,hev⟩
   · have hrun:=qI (v:=.int vk' u) hm hk g2 hkey (by simpa using q2) q3 q4
     have q3':ms[j]? = some e':=by simpa using q3
     have hBk:bV H E (World.FD w b (.map (ms.modify j fun e=>{ e with key:=.int k1 n,val:=.int vk' u }) ck)) i (.mi k1 vk' (jI has n) (yL c n u)):=by
      refine ⟨hl,b,ms.modify j fun e=>{ e with key:=.int k1 n,val:=.int vk' u },ck,hb,(heap_set g2).1,fun e he=>?_,fun y=>?_⟩
      · exact isK.1 (Go.MapKept.isKey_modify (d:=.int k1) (fun x hx=>isK.2 (g3 x hx)) j _ (fun e'' he''=>by rw [q3'] at he'';cases he'';exact q4.symm) e he)
      · rw [Array.toList_modify];exact (q5 _ y).trans (hg4 y)
     obtain ⟨hc,hev⟩:=hC.upd hl hb (vC g2) hBk
     exact ⟨_,undef,_,H,E,hexec a w _ (by rw [hv,h2,h3];exact hrun),.inr ⟨rfl,rfl⟩,trivial,hc,hev⟩
 · cases h
theorem MO {P:Program} {rd:Nat->ay} {o:Oper} {t:Nat->AV} {e:CE} (h:WX P rd o t=some e):CE.Good P o t rd e:=by
 unfold WX at h
 split at h
 · rename_i mt m k v hop;exact Ia (.inl hop) h
 · rename_i mt m k v hop;exact Ia (.inr hop) h
 · cases h
def mkM (P:Program) (rd:Nat->ay) (nid:Nat) (o:Oper) (t:Nat->AV):Option CE :=
 match o.op with
 | .makeMap _ none=>some ⟨.mref nid,[nid],[(nid,.mp [] 0)],[],[]⟩
 | .makeMap ty (some r)=>(match P.underlying ty,Am (ev t r) with
   | some (.map _ _),some (.int _ _)=>some ⟨.mref nid,[nid],[(nid,.mp [] 0)],[],[]⟩
   | _,_=>none)
 | _=>none
theorem acv {P:Program} {rd:Nat->ay} {nid:Nat} {o:Oper} {t:Nat->AV} {e:CE} (hd:∀ k,nid<=k->rd k=.dead) (h:mkM P rd nid o t=some e):CE.Good P o t rd e:=by
 have go:(∀ H E w a,ji t H E a->(execOp a.eval o).run P w=.ok (.value (.map (some w.heap.size))) (w.alloc (.map #[] 0)))->CE.Good P o t rd ⟨.mref nid,[nid],[(nid,.mp [] 0)],[],[]⟩:=by
  intro hrun M hM
  refine bL fun H E w a hC hT=>?_
  have hdn:getM M nid=.dead:=(hM nid (by simp)).trans (hd nid (Nat.le_refl _))
  obtain ⟨s1,s2,_⟩:=E.eO nid (some w.heap.size) 0 0
  obtain ⟨hc,hev⟩:=hC.new (w':=w.alloc (.map #[] 0)) (i:=nid) (κ:=0) (η:=0) (bo:=some w.heap.size) (B:=.mp [] 0) hdn rfl rfl rfl (by simp) (fun b hb=>Go.RowKit.Below.heap_alloc w _ b hb) (fun b hb=>by cases hb;exact Nat.le_refl _)
   ⟨s1,w.heap.size,#[],s2,heap_alloc_new w _,rfl,rfl⟩
  exact ⟨_,_,H,_,hrun H E w a hT,⟨s1,_,s2,rfl⟩,hc,hev⟩
 unfold mkM at h
 split at h
 · rename_i ty hop
   cases h
   exact go fun H E w a _=>by simp [execOp,hop,Instr.makeMap,Result.andThen]
 · rename_i ty r hop
   split at h
   case h_2=>cases h
   rename_i kt et ik n hu hr
   cases h
   refine go fun H E w a hT=>?_
   have h2:=eU hr (aM hT r)
   simp [execOp,hop,Instr.makeMap,run_underlying hu,h2,asInt,asIntOf,Result.andThen]
 · cases h
def ado (P:Program) (rd:Nat->ay) (o:Oper) (t:Nat->AV):Option CE :=
 match o.op with
 | .call { callee:=.builtin .len,args,argTypes }=>(match args.toList,argTypes.toList with
   | [x],[ty]=>(match P.underlying ty,ev t x with
     | some (.map _ _),.mref i=>(match rd i with
       | .mp es _=>some ⟨.s (.int .i64 (len es:Nat)),[i],[],[],[]⟩
       | _=>none)
     | some (.map _ _),.s (.map none)=>some ⟨.s (.int .i64 0),[],[],[],[]⟩
     | _,_=>none)
   | _,_=>none)
 | _=>none
theorem XE {P:Program} {rd:Nat->ay} {o:Oper} {t:Nat->AV} {e:CE} (h:ado P rd o t=some e):CE.Good P o t rd e:=by
 unfold ado at h
 split at h
 case h_2=>cases h
 rename_i args ats hop
 split at h
 case h_2=>cases h
 rename_i x ty hx hty
 have h1:args=#[x]:=Array.ext' hx
 have h2:ats=#[ty]:=Array.ext' hty
 subst h1;subst h2
 split at h
 · rename_i kt et i hu he
   split at h
   case h_2=>cases h
   rename_i es ck hg
   cases h
   intro M hM
   refine bL fun H E w a hC hT=>?_
   have h1:=aM hT x
   rw [he] at h1
   obtain ⟨hl,b,hb,hv⟩:=h1
   have hB:=hC.blk i
   rw [hM i (by simp),hg] at hB
   obtain ⟨_,b',ms,g1,g2,g3,g4⟩:=hB
   rw [hb] at g1;cases g1
   have hlen:ms.size=len es:=by
    have:=congrArg List.length g3
    simpa [len_eq] using this
   refine ⟨_,w,H,E,?_,⟨rfl,rfl⟩,hC,bF.refl _ _ _ _⟩
   simp [execOp,hop,resolve,invoke,builtin,hv,Builtin.len_,run_underlying hu,Go.MapKept.run_getObj_map g2,goInt,hlen,Result.andThen]
 · rename_i kt et hu he
   cases h
   intro M hM
   refine bL fun H E w a hC hT=>?_
   have h1:=aM hT x
   rw [he] at h1
   have hv:a.eval x=.map none:=h1.1
   refine ⟨_,w,H,E,?_,⟨rfl,rfl⟩,hC,bF.refl _ _ _ _⟩
   simp [execOp,hop,resolve,invoke,builtin,hv,Builtin.len_,run_underlying hu,goInt,Result.andThen]
 · cases h
end Go.Ax

namespace Go.Ax
open Go
variable [Inhabited jZ]
def Uz (P:Program) (o:Oper) (t:Nat->AV):Option CE:=match o.op with
 | .slice ty x lo (some hi) (some mx)=>(match P.underlying ty,sv (ev t x),bnd 0 (lo.map (ev fun i=>sv (t i))),bnd 0 (some (ev (fun i=>sv (t i)) hi)),bnd 0 (some (ev (fun i=>sv (t i)) mx)) with
   | some (.slice e),.own _ sz _ n,some l,some u,some m=>(match sizeT P e with
     | some sz'=>(match Nat.beq sz' sz with
       | true=>some ⟨.junk,[],[],[],[0<=l,l<=u,u<=m,m<=(n:Int)]⟩
       | false=>none)
     | none=>none)
   | _,_,_,_,_=>none)
 | _=>none
theorem IK {P:Program} (w:World) {n cap:Nat} {lo:Option Value} {l u m:Int} {ku km:IntKind} (hlo:(lo=none/\l=0)∨∃ k,lo=some (.int k l))
 (h0:0<=l) (h1:l<=u) (h2:u<=m) (h3:m<=(cap:Int)):(Instr.sliceBounds true n cap lo (some (.int ku u)) (some (.int km m))).run P w=.ok (l.toNat,u.toNat,m.toNat) w:=by
 have hm:=run_sliceBound (P:=P) w km m cap .slice3Acap (by omega) (by omega)
 have hu:=run_sliceBound (P:=P) w ku u m.toNat .slice3B (by omega) (by omega)
 rcases hlo with ⟨rfl,rfl⟩ | ⟨kl,rfl⟩
 · simp [Instr.sliceBounds,hm,hu]
 · have hl:=run_sliceBound (P:=P) w kl l u.toNat .slice3C h0 (by omega)
   simp [Instr.sliceBounds,hm,hu,hl]
theorem Nf {t:Nat->AV} {a:Act} {H:HH} {E:Env} (hT:ji t H E a) {d:Nat} {x:Operand} {q:Int} (h:bnd d (some (ev t x))=some q):∃ k,a.eval x=.int k q:=by
 rcases nG hT (x:=some x) (d:=d) (q:=q) (by simpa using h) with ⟨h,_⟩ | ⟨k,h⟩
 · cases h
 · exact ⟨k,by simpa using h⟩
theorem Tf {P:Program} {o:Oper} {t:Nat->AV} {rd:Nat->ay} {e:CE} (h:Uz P o t=some e) (ho:Hold e.ob):CE.Good P o t rd e:=by
 unfold Uz at h
 split at h
 case h_2=>cases h
 rename_i ty x lo hi mx hop
 split at h
 case h_2=>cases h
 rename_i el i sz z n l u m hu hx0 hl hu' hm
 split at h
 case h_2=>cases h
 rename_i sz' hsz
 split at h
 case h_2=>cases h
 rename_i hs
 have hs:sz'=sz:=by simpa using hs
 subst hs
 cases h
 have b0:=ho (0<=l) (by simp)
 have b1:=ho (l<=u) (by simp)
 have b2:=ho (u<=m) (by simp)
 have b3:=ho (m<=(n:Int)) (by simp)
 intro M hM
 refine bL fun H E w a hC hT=>?_
 have hx:=rO (aM hT x)
 rw [hx0] at hx
 obtain ⟨ku,hku⟩:=Nf (yU hT) hu'
 obtain ⟨km,hkm⟩:=Nf (yU hT) hm
 have hlo:=nG (yU hT) hl
 have key:∀ A cap,n<=cap->a.eval x=.slice A n cap->∃ v,(execOp a.eval o).run P w=.ok (.value v) w:=by
  intro A cap hc hv
  have hrun:=IK (P:=P) (n:=n) w (cap:=cap) (ku:=ku) (km:=km) hlo b0 b1 b2 (by omega)
  exact ⟨.slice (if m.toNat=l.toNat then A else A.map (·.add (l.toNat*sz'))) (u.toNat - l.toNat) (m.toNat - l.toNat),by
   simp [execOp,hop,hv,Instr.sliceAt,run_underlying hu,Instr.slice,hku,hkm,hrun,dz w hsz]⟩
 obtain ⟨hlv,hκ,hm2⟩:=hx
 have hv:∃ v,(execOp a.eval o).run P w=.ok (.value v) w:=by
  cases hι:E.ι i with
  | none =>
    rw [hι] at hm2
    obtain ⟨rfl,rfl,hv⟩:=hm2
    exact key none 0 (Nat.le_refl _) hv
  | some b =>
    rw [hι] at hm2
    obtain ⟨ad,hv,_⟩:=hm2
    exact key ad _ (by omega) hv
 obtain ⟨v,hv⟩:=hv
 exact ⟨v,w,H,E,hv,trivial,hC,bF.refl _ _ _ _⟩
def dA (B:ay) (sz n:Nat):Option (TypeId×ay):=match B with
 | .lst ty s2 m _ cs=>(match Nat.beq s2 sz&&Nat.ble n m with | true=>some (ty,.lst ty sz n none (cs.take (n*sz))) | false=>none)
 | .row ty s2 _ _ c=>(match Nat.beq s2 sz with | true=>some (ty,.row ty sz n none c) | false=>none)
 | _=>none
def Ap (P:Program) (rd:Nat->ay) (o:Oper) (t:Nat->AV):Option CE:=none
theorem Bh {H:HH} {E:Env}:∀ {l:List AV} {vs:List Value} (n:Nat),aA l H E vs->aA (l.take n) H E (vs.take n)
 | _,_,0,_=>by simp [aA]
 | [],_,n+1,h=>by
   have h:_=[]:=h
   subst h;simp [aA]
 | _::_,_,n+1,h=>by
   obtain ⟨v,r,rfl,h1,h2⟩:=h
   exact ⟨v,_,rfl,h1,Bh n h2⟩
theorem QO {H:HH} {E:Env} {w:World} {a sz n:Nat} {B B1:ay} {ty:TypeId} (hB:bV H E w a B) (h:dA B sz n=some (ty,B1)) (hn:n<=E.η a) :
 E.κ a<=maxLen/\n<=E.κ a/\(match E.ι a with
  | none=>n=0->Cont H E sz n ty B1 []
  | some b=>∃ vs,w.heap[b]? = some (.cells vs ty (0,0))/\vs.size=E.κ a*sz/\ones (vs.toList.take (n*sz))/\Cont H E sz n ty B1 (vs.toList.take (n*sz))):=by
 unfold dA at h
 split at h
 · rename_i ty' s2 m cap cs
   split at h
   case h_2=>cases h
   rename_i hb
   simp only [Bool.and_eq_true,Nat.beq_eq,Nat.ble_eq] at hb
   obtain ⟨rfl,hnm⟩:=hb
   cases h
   obtain ⟨_,hm,hκ,_,hc⟩:=hB
   refine ⟨hκ,by omega,?_⟩
   cases hι:E.ι a with
   | none =>
     rw [hι] at hc
     obtain ⟨_,rfl⟩:=hc
     intro h0
     subst h0
     exact ⟨rfl,rfl,rfl,by simp [aA]⟩
   | some b =>
     rw [hι] at hc
     obtain ⟨vs,g1,g2,g3,g4⟩:=hc
     have hle:n*s2<=m*s2:=Nat.mul_le_mul_right _ hnm
     refine ⟨vs,g1,g3,fun x hx=>g2 x (List.take_subset_take_left _ hle hx),rfl,rfl,rfl,?_⟩
     have:=Bh (n*s2) g4
     rwa [List.take_take,Nat.min_eq_left hle] at this
 · rename_i ty' s2 m cap c
   split at h
   case h_2=>cases h
   rename_i hb
   have hb:s2=sz:=by simpa using hb
   subst hb
   cases h
   obtain ⟨_,hm,hκ,_,hc⟩:=hB
   refine ⟨hκ,by omega,?_⟩
   cases hι:E.ι a with
   | none =>
     intro h0
     subst h0
     exact ⟨rfl,rfl,rfl,fun k hk=>by omega⟩
   | some b =>
     rw [hι] at hc
     obtain ⟨vs,g1,g2,g3,g4⟩:=hc
     have hle:n*s2<=m*s2:=Nat.mul_le_mul_right _ (by omega)
     refine ⟨vs,g1,g3,fun x hx=>g2 x (List.take_subset_take_left _ hle hx),rfl,rfl,rfl,fun k hk j hj=>?_⟩
     obtain ⟨x,hx,hr⟩:=g4 k (by omega) j hj
     refine ⟨x,?_,hr⟩
     have hlt:k*s2+j<n*s2:=by
      have:(k+1)*s2<=n*s2:=Nat.mul_le_mul_right _ hk
      rw [Nat.add_mul,Nat.one_mul] at this;omega
     rw [List.getElem?_take_of_lt hlt,Array.getElem?_toList]
     exact hx
 · cases h
theorem H9 {P:Program} {o:Oper} {t:Nat->AV} {rd:Nat->ay} {e:CE} (h:Ap P rd o t=some e) (ho:Hold e.ob):CE.Good P o t rd e:=by
 simp [Ap] at h
def adY:Value->Value->Prop
 | .int _ a,.int _ b=>¬ a=b
 | a,b=>Fu a b=false
theorem Zr {a b:Value} (h:adY a b):Fu a b=false:=by
 unfold adY at h
 split at h
 · simpa [Fu] using h
 · exact h
def acf (k:Value):List (Value×AV×Nat)->List Prop
 | []=>[]
 | e::r=>adY k e.1::acf k r
theorem NI {k:Value}:∀ {es:List (Value×AV×Nat)} (i:Nat),Hold (acf k es)->nI k es i=none
 | [],_,_=>rfl
 | e::r,i,h=>by
   have h1:=Zr (h _ (.head _))
   unfold nI
   rw [h1]
   exact NI (i+1) fun p hp=>h p (.tail _ hp)
def Qg (P:Program) (rd:Nat->ay) (o:Oper) (t:Nat->AV):Option CE :=
 match o.op with
 | .lookup xt x idx ok=>(match SN P xt,Am (ev t idx) with
   | some (d,_,et),some kv=>(match DT d kv,ev t x with
     | true,.mref i=>(match rd i,o_ P et with
       | .mp es _,some z=>(match sJ d es with
         | true=>some ⟨qH ok z (.s (.bool false)),[i],[],[],acf kv es⟩
         | false=>none)
       | _,_=>none)
     | _,_=>none)
   | _,_=>none)
 | _=>none
theorem Vl {P:Program} {rd:Nat->ay} {o:Oper} {t:Nat->AV} {e:CE} (h:Qg P rd o t=some e) (ho:Hold e.ob):CE.Good P o t rd e:=by
 unfold Qg at h
 split at h
 case h_2=>cases h
 rename_i xt x idx ok hop
 split at h
 case h_2=>cases h
 rename_i d kt et kv hkd hkv
 obtain ⟨hm,hk⟩:=Fe hkd
 split at h
 case h_2=>cases h
 rename_i i hkis hx
 have hkey:=uN hkis
 split at h
 case h_2=>cases h
 rename_i es ck z hg hz
 split at h
 case h_2=>cases h
 rename_i hall
 cases h
 have hf:=NI 0 ho
 intro M hM
 refine bL fun H E w a hC hT=>?_
 have h1:=aM hT x
 rw [hx] at h1
 obtain ⟨hl,b,hb,hv⟩:=h1
 have h2:=eU hkv (aM hT idx)
 have hB:=hC.blk i
 rw [hM i (by simp),hg] at hB
 obtain ⟨_,b',ms,g1,g2,g3,g4⟩:=hB
 rw [hb] at g1;cases g1
 rcases find_ok hkey 0 g3 g4 hall with ⟨_,q2⟩ | ⟨j',e',a',q1,q2,q3,q4,q5⟩
 · obtain ⟨zv,hz1,hz2⟩:=jV H E w hz
   exact ⟨_,w,H,E,by simp [execOp,hop,hv,h2,mE hm hk g2 hkey q2 (fun _=>hz1)],lJ hz2 (.inl rfl),hC,bF.refl _ _ _ _⟩
 · rw [hf] at q1;cases q1
end Go.Ax
