import Derived.Laws.MakeOwn
import Derived.Laws.BytesString
import Derived.Laws.AppendOwn
import Derived.MapKept
import Derived.Laws.CopyRow
import Derived.Lib.AppendStr
import Derived.Lib.ConvBytes
import Derived.Stop.Asserts
import Derived.Laws.Externs
import Derived.Test.YtnbhdjadlbhknaaGreatDoorE8
set_option linter.unusedVariables false
set_option linter.unusedSimpArgs false
set_option linter.unusedSectionVars false
namespace Go.Ax
open Go
variable [Inhabited kT]
theorem fJ {P:Program} {o:Oper} {t:Nat->AV} {M:List aH} {e:CE}
 (h:∀ H E w a,Conc H E w M->jQ t H E a->∃ v w' H' E',(execOp a.eval o).run P w=.ok (.value v) w'/\Rel e.r H' E' v/\Conc H' E' w' (eF e.wr (fF e.kl M))/\cO e.kl H E w H' E' w'):StepT P o t M e:=by
 intro H E w a K Q hC hT hd hk
 obtain ⟨v,w',H',E',hv,h1,h2,h3⟩:=h H E w a hC hT
 unfold Oper.wp
 rw [hv]
 exact hk v w' H' E' h1 h2 h3
def JO:AV->Option Value
 | .s v=>some v
 | .y v=>some v
 | _=>none
theorem iA {x:AV} {v:Value} (h:JO x=some v) {H:HH} {E:Env} {u:Value} (hr:Rel x H E u):u=v:=by
 cases x<;>simp only [JO] at h<;>first | (cases h;exact hr.1) | cases h
def Ct:AV->Bool
 | .s _=>true
 | _=>false
def SI (known:Bool) (b:Bool) (v:Value) (rd:List Nat):Option CE:=match known with
 | true=>(match b with | true=>some ⟨.s v,rd,[],[],[]⟩ | false=>none)
 | false=>some ⟨.y v,rd,[],[],[b=true]⟩
theorem zx {P:Program} {o:Oper} {t:Nat->AV} {rdf:Nat->aH} {known b:Bool} {v:Value} {rd:List Nat} {e:CE} (h:SI known b v rd=some e) (hs:scalar v=true) (ho:Hold e.ob)
 (hr:b=true->∀ M,(∀ i∈rd,getM M i=rdf i)->∀ H E w a,Conc H E w M->jQ t H E a->(execOp a.eval o).run P w=.ok (.value v) w):CE.Good P o t rdf e:=by
 intro M hM
 cases known with
 | true =>
   cases b with
   | false=>cases h
   | true =>
     cases h
     exact fJ fun H E w a hC hT=>⟨v,w,H,E,hr rfl M hM H E w a hC hT,⟨rfl,hs⟩,hC,cO.refl _ _ _ _⟩
 | false =>
   cases h
   exact fJ fun H E w a hC hT=>⟨v,w,H,E,hr (ho (b=true) (by simp)) M hM H E w a hC hT,⟨rfl,hs⟩,hC,cO.refl _ _ _ _⟩
def ibV (op:BinOp) (k:IntKind) (a b:Int):Option (Bool×Int):=match op with
 | .quo=>some (decide (b≠0),k.wrap (a.tdiv b))
 | .rem=>some (decide (b≠0),a.tmod b)
 | .and=>some (true,k.wrap (BitVec.ofInt k.bits a &&& BitVec.ofInt k.bits b).toNat)
 | .or=>some (true,k.wrap (BitVec.ofInt k.bits a ||| BitVec.ofInt k.bits b).toNat)
 | .xor=>some (true,k.wrap (BitVec.ofInt k.bits a ^^^ BitVec.ofInt k.bits b).toNat)
 | _=>none
def shV (op:BinOp) (k:IntKind) (a b:Int):Option (Bool×Int):=match op with
 | .shl=>some (decide (0<=b),k.wrap (a*2 ^ (min b.toNat k.bits)))
 | .shr=>some (decide (0<=b),a.fdiv (2 ^ (min b.toNat k.bits)))
 | _=>none
def aaA (o:Oper) (t:Nat->AV):Option CE :=
 match o.op with
 | .binOp op _ x y _=>(match JO (ev t x),JO (ev t y) with
   | some (.int k a),some (.int k' b)=>(match shV op k a b with
     | some (c,v)=>SI (Ct (ev t x)&&Ct (ev t y)) c (.int k v) []
     | none=>if k=k' then (match ibV op k a b with | some (c,v)=>SI (Ct (ev t x)&&Ct (ev t y)) c (.int k v) [] | none=>none) else none)
   | some (.string a),some (.string b)=>(match op with
     | .add=>SI (Ct (ev t x)&&Ct (ev t y)) (decide (a.size+b.size<=9223372036854775807)) (.string (a++b)) []
     | _=>none)
   | _,_=>none)
 | _=>none
theorem V9 {P:Program} {o:Oper} {t:Nat->AV} {rd:Nat->aH} {e:CE} (h:aaA o t=some e) (ho:Hold e.ob):CE.Good P o t rd e:=by
 unfold aaA at h
 split at h
 case h_2=>cases h
 rename_i op ty x y f hop
 split at h
 · rename_i k a k' b hx hy
   split at h
   · rename_i c v hv
     refine zx h rfl ho fun hc M _ H E w ac hC hT=>?_
     have h1:=iA hx (aT hT x)
     have h2:=iA hy (aT hT y)
     unfold shV at hv
     split at hv
     · obtain ⟨rfl,rfl⟩:=Prod.mk.inj (Option.some.inj hv)
       have hb:0<=b:=of_decide_eq_true hc
       simp [execOp,hop,h1,h2,eqGuard,binOp,Op.shift,Int.not_lt.2 hb]
     · obtain ⟨rfl,rfl⟩:=Prod.mk.inj (Option.some.inj hv)
       have hb:0<=b:=of_decide_eq_true hc
       simp [execOp,hop,h1,h2,eqGuard,binOp,Op.shift,Int.not_lt.2 hb]
     · cases hv
   · split at h
     case isFalse=>cases h
     rename_i hk
     subst hk
     split at h
     case h_2=>cases h
     rename_i c v hv
     refine zx h rfl ho fun hc M _ H E w ac hC hT=>?_
     have h1:=iA hx (aT hT x)
     have h2:=iA hy (aT hT y)
     unfold ibV at hv
     split at hv
     · obtain ⟨rfl,rfl⟩:=Prod.mk.inj (Option.some.inj hv)
       have hb:b≠0:=of_decide_eq_true hc
       simp [execOp,hop,h1,h2,eqGuard,binOp,Op.intDiv,hb]
     · obtain ⟨rfl,rfl⟩:=Prod.mk.inj (Option.some.inj hv)
       have hb:b≠0:=of_decide_eq_true hc
       simp [execOp,hop,h1,h2,eqGuard,binOp,Op.intDiv,hb]
     · cases hv
       simp [execOp,hop,h1,h2,eqGuard,binOp,Op.intBits]
     · cases hv
       simp [execOp,hop,h1,h2,eqGuard,binOp,Op.intBits]
     · cases hv
       simp [execOp,hop,h1,h2,eqGuard,binOp,Op.intBits]
     · cases hv
 · rename_i a b hx hy
   split at h
   case h_2=>cases h
   refine zx h rfl ho fun hc M _ H E w ac hC hT=>?_
   have h1:=iA hx (aT hT x)
   have h2:=iA hy (aT hT y)
   have hb:=of_decide_eq_true hc
   have hm:IntKind.i64.max=9223372036854775807:=by decide
   have hn:¬ (9223372036854775807<((a.size:Int)+(b.size:Int))):=by omega
   simp [execOp,hop,h1,h2,eqGuard,binOp,Op.stringOp,hm,hn]
 · cases h
def KW (s:ByteArray) (q:Int):Int:=((s.data.toList.getD q.toNat 0).toNat:Nat)
def ig (P:Program) (o:Oper) (t:Nat->AV):Option CE :=
 match o.op with
 | .index ty x i=>(match P.underlying ty,JO (ev t x),JO (ev t i) with
   | some .string,some (.string s),some (.int _ q)=>SI (Ct (ev t x)&&Ct (ev t i)) (decide (0<=q)&&decide (q<(s.size:Nat))) (.int .u8 (KW s q)) []
   | _,_,_=>none)
 | _=>none
theorem Uz {P:Program} {o:Oper} {t:Nat->AV} {rd:Nat->aH} {e:CE} (h:ig P o t=some e) (ho:Hold e.ob):CE.Good P o t rd e:=by
 unfold ig at h
 split at h
 case h_2=>cases h
 rename_i ty x i hop
 split at h
 case h_2=>cases h
 rename_i s k q hu hx hi
 refine zx h rfl ho fun hc M _ H E w ac hC hT=>?_
 have h1:=iA hx (aT hT x)
 have h2:=iA hi (aT hT i)
 simp only [Bool.and_eq_true,decide_eq_true_eq] at hc
 have hlt:q.toNat<s.size:=by omega
 have hb:s[q.toNat]? = some (s[q.toNat]'hlt):=getElem?_pos s q.toNat hlt
 have hv:KW s q=(s[q.toNat]'hlt).toNat:=by
  unfold KW
  rw [List.getD,Array.getElem?_toList,Array.getElem?_eq_getElem (by simpa using hlt)]
  rfl
 simp [execOp,hop,h1,h2,Instr.index,run_underlying hu,asIntOf,hc.1,hb,hv]
def Ov:AV->Option Int
 | .s (.int .u8 n)=>some n
 | .y (.int .u8 n)=>some n
 | _=>none
def VF (a:AV):Bool:=match Ov a with | some _=>true | none=>false
def byteOf (a:AV):UInt8:=match Ov a with | some n=>UInt8.ofNat n.toNat | none=>0
def E8 (l:List AV):ByteArray:=⟨(l.map byteOf).toArray⟩
def yc:List AV->Bool
 | []=>true
 | a::l=>VF a&&yc l
def afB:List AV->Bool
 | []=>true
 | a::l=>Ct a&&afB l
def Ju (n:Nat) (d:Nat->Nat->AV):List AV:=(List.range n).map fun k=>d k 0
def vw (n:Nat) (d:Nat->Nat->AV):ByteArray:=E8 (Ju n d)
def BX (d:Nat->Nat->AV):Nat->Nat->List AV
 | _,0=>[]
 | k,n+1=>d k 0::BX d (k+1) n
def VN (known:Bool) (l:List AV) (rd:List Nat):Option CE:=match yc l with
 | true=>(match known&&afB l with | true=>some ⟨.s (.string (E8 l)),rd,[],[],[]⟩ | false=>some ⟨.y (.string (E8 l)),rd,[],[],[]⟩)
 | false=>none
def XE (rd:Nat->aH):AV->Bool
 | .sl ..=>true
 | .own i _ _ _=>(match rd i with | .lst ..=>true | _=>false)
 | .s _=>true
 | _=>false
def toStr (P:Program) (rd:Nat->aH) (o:Oper) (t:Nat->AV):Option CE :=
 match o.op with
 | .convert src dst x=>(match P.underlying src,P.underlying dst with
   | some (.slice el),some .string=>(match P.underlying el,pO rd 1 (sv (ev t x)) with
     | some (.int .u8),some (n,some l,_)=>(match Nat.beq (len l) n with | true=>VN true l (iJ (sv (ev t x))) | false=>none)
     | some (.int .u8),some (n,none,d)=>(match XE rd (ev t x) with
       | true=>VN true (BX d 0 n) (iJ (sv (ev t x)))
       | false=>some ⟨.y (.string (vw n d)),iJ (sv (ev t x)),[],[],[∀ k,k<n->VF (d k 0)=true]⟩)
     | _,_=>none)
   | _,_=>none)
 | _=>none
theorem X_ {a:AV} {n:Int} (h:Ov a=some n) {H:HH} {E:Env} {v:Value} (hr:Rel a H E v):v=.int .u8 n:=by
 unfold Ov at h
 split at h
 · cases h;exact hr.1
 · cases h;exact hr.1
 · cases h
theorem Oy {P:Program} {w:World} {A:Option Addr} {m c:Nat} {news:List Value} {L:List AV} {H:HH} {E:Env} (hl:news.length=m) (hA:A=none->m=0) (hcell:∀ ad,A=some ad->∀ j u,news[j]? = some u->w.cell? (ad.add j)=some u)
 (hr:aI L H E news) (hu:yc L=true):(Conv.bytesToString (.slice A m c)).run P w=.ok (.string (E8 L)) w:=by
 have key:∀ (L:List AV) (news:List Value),aI L H E news->yc L=true->∃ ns:List Int,news=ns.map (Value.int .u8)/\ns.map (fun n=>UInt8.ofNat n.toNat)=L.map byteOf:=by
  intro L
  induction L with
  | nil=>intro news h _;have h:news=[]:=h;subst h;exact ⟨[],rfl,rfl⟩
  | cons a L ih =>
    intro news h hu
    obtain ⟨v,r,rfl,h1,h2⟩:=h
    simp only [yc,Bool.and_eq_true] at hu
    obtain ⟨ns,rfl,hns⟩:=ih r h2 hu.2
    obtain ⟨n,hn⟩:∃ n,Ov a=some n:=by
     have:=hu.1
     unfold VF at this
     cases hq:Ov a with
     | some n=>exact ⟨n,rfl⟩
     | none=>rw [hq] at this;cases this
    exact ⟨n::ns,by rw [X_ hn h1];rfl,by simp [hns,byteOf,hn]⟩
 obtain ⟨ns,rfl,hns⟩:=key L news hr hu
 have fold:∀ (ns:List Int) (s:ByteArray),ns.foldl (fun r n=>r.push (UInt8.ofNat n.toNat)) s=⟨s.data++(ns.map fun n=>UInt8.ofNat n.toNat).toArray⟩:=by
  intro ns
  induction ns with
  | nil=>intro s;simp
  | cons n ns ih =>
    intro s
    rw [List.foldl_cons,ih]
    simp [ByteArray.push]
 cases A with
 | none =>
   have hm:=hA rfl
   subst hm
   have:ns=[]:=by simpa using hl
   subst this
   simp only [List.map_nil] at hns
   simp only [E8,<- hns]
   simp [Conv.bytesToString,Sem.run_pure]
   rfl
 | some ad =>
   have hload:(loadCells ad m).run P w=.ok (ns.map (Value.int .u8)).toArray w:=by
    have:=run_loadCells_list (P:=P) w ad (ns.map (Value.int .u8)) fun j u hj=>hcell ad rfl j u hj
    rw [hl] at this
    exact this
   rw [run_bytesToString w ad m c ns hload,fold]
   simp only [E8,hns]
   simp
theorem Mw (d:Nat->Nat->AV):∀ (n q:Nat),BX d q n=(List.range' q n).map fun k=>d k 0
 | 0,_=>rfl
 | n+1,q=>by rw [BX,Mw d n (q+1),List.range'_succ];rfl
theorem Nb (n:Nat) (d:Nat->Nat->AV):Ju n d=BX d 0 n:=by rw [Ju,Mw,List.range_eq_range']
theorem Dm {H:HH} {E:Env} {d:Nat->Nat->AV}:∀ (n q:Nat) (news:List Value),news.length=n->(∀ k,k<n->∃ u,news[k]? = some u/\Rel (d (q+k) 0) H E u)->aI (BX d q n) H E news
 | 0,_,news,hl,_=>by
   have:news=[]:=by simpa using hl
   exact this
 | n+1,q,news,hl,h=>by
   obtain ⟨v,r,rfl⟩:∃ v r,news=v::r:=by
    cases news with
    | nil=>simp at hl
    | cons v r=>exact ⟨v,r,rfl⟩
   refine ⟨v,r,rfl,?_,Dm n (q+1) r (by simpa using hl) fun k hk=>?_⟩
   · obtain ⟨u,hu,hr⟩:=h 0 (by omega)
     simp at hu
     subst hu
     exact hr
   · obtain ⟨u,hu,hr⟩:=h (k+1) (by omega)
     refine ⟨u,by simpa using hu,?_⟩
     rw [show q+1+k=q+(k+1) by omega];exact hr
theorem zO (d:Nat->Nat->AV):∀ (n q:Nat),(∀ k,k<n->VF (d (q+k) 0)=true)->yc (BX d q n)=true
 | 0,_,_=>rfl
 | n+1,q,h=>by
   simp only [BX,yc,Bool.and_eq_true]
   exact ⟨h 0 (by omega),zO d n (q+1) fun k hk=>by rw [show q+1+k=q+(k+1) by omega];exact h (k+1) (by omega)⟩
theorem RZ {P:Program} {o:Oper} {t:Nat->AV} {rd:Nat->aH} {e:CE} (h:toStr P rd o t=some e) (ho:Hold e.ob):CE.Good P o t rd e:=by
 unfold toStr at h
 split at h
 case h_2=>cases h
 rename_i src dst x hop
 split at h
 case h_2=>cases h
 rename_i el hsrc hdst
 have go:∀ (L:List AV) (v:AV) (rds:List Nat),P.underlying el=some (.int .u8)->yc L=true->(v=.s (.string (E8 L))∨v=.y (.string (E8 L))) ->
  (∀ M,(∀ i∈rds,getM M i=rd i)->∀ H E w a,Conc H E w M->jQ t H E a->∃ A m c,∃ news:List Value,a.eval x=.slice A m c/\news.length=m/\(A=none->m=0)/\(∀ ad,A=some ad->∀ j u,news[j]? = some u->w.cell? (ad.add j)=some u)/\∃ E',aI L H E' news) ->
  ∀ ob,CE.Good P o t rd ⟨v,rds,[],[],ob⟩:=by
  intro L v rds hel hu hv hsrc2 ob M hM
  refine fJ fun H E w a hC hT=>?_
  obtain ⟨A,m,c,news,hx,hl,hA,hcell,E',hr⟩:=hsrc2 M hM H E w a hC hT
  have hrun:=Oy (P:=P) (c:=c) hl hA hcell hr hu
  refine ⟨.string (E8 L),w,H,E,?_,?_,hC,cO.refl _ _ _ _⟩
  · simp [execOp,hop,hx,run_convert_bytes_string w src dst el A m c hsrc hel hdst,hrun]
  · rcases hv with rfl | rfl<;>exact ⟨rfl,rfl⟩
 have hcong:∀ M,(∀ i∈iJ (sv (ev t x)),getM M i=rd i)->pO (getM M) 1 (sv (ev t x))=pO rd 1 (sv (ev t x)):=fun M hM=>xY hM
 split at h
 · rename_i n l d hel hs
   split at h
   case h_2=>cases h
   rename_i hn
   unfold VN at h
   split at h
   case h_2=>cases h
   rename_i hu
   have hsrc2:∀ M,(∀ i∈iJ (sv (ev t x)),getM M i=rd i)->∀ H E w a,Conc H E w M->jQ t H E a->∃ A m c,∃ news:List Value,a.eval x=.slice A m c/\news.length=m/\(A=none->m=0)/\(∀ ad,A=some ad->∀ j u,news[j]? = some u->w.cell? (ad.add j)=some u)/\∃ E',aI l H E' news:=by
    intro M hM H E w a hC hT
    obtain ⟨A,c,news,h1,h2,h3,h4,h5,h6,h7⟩:=vF hC (xI (aT hT x)) (Nat.zero_lt_one) ((hcong M hM).trans hs)
    exact ⟨A,n,c,news,h1,by simpa using h2,h3,h4,E,h6 l rfl⟩
   split at h
   · cases h;exact go l _ _ hel hu (.inl rfl) hsrc2 _
   · cases h;exact go l _ _ hel hu (.inr rfl) hsrc2 _
 · rename_i n d hel hs
   have hsrc2:∀ M,(∀ i∈iJ (sv (ev t x)),getM M i=rd i)->∀ H E w a,Conc H E w M->jQ t H E a->∃ A m c,∃ news:List Value,a.eval x=.slice A m c/\news.length=m/\(A=none->m=0)/\(∀ ad,A=some ad->∀ j u,news[j]? = some u->w.cell? (ad.add j)=some u)/\∃ E',aI (BX d 0 n) H E' news:=by
    intro M hM H E w a hC hT
    obtain ⟨A,c,news,h1,h2,h3,h4,h5,h6,h7⟩:=vF hC (xI (aT hT x)) (Nat.zero_lt_one) ((hcong M hM).trans hs)
    refine ⟨A,n,c,news,h1,by simpa using h2,h3,h4,E0,Dm n 0 news (by simpa using h2) fun k hk=>?_⟩
    obtain ⟨u,hu,hr⟩:=h7 rfl k hk 0 (by omega)
    refine ⟨u,by simpa using hu,?_⟩
    rw [Nat.zero_add];exact hr
   split at h
   · unfold VN at h
     split at h
     case h_2=>cases h
     rename_i hu
     split at h
     · cases h;exact go _ _ _ hel hu (.inl rfl) hsrc2 _
     · cases h;exact go _ _ _ hel hu (.inr rfl) hsrc2 _
   · cases h
     have hob:=ho _ (List.mem_singleton.2 rfl)
     refine go (BX d 0 n) _ _ hel (zO d n 0 fun k hk=>by rw [Nat.zero_add];exact hob k hk) (.inr ?_) hsrc2 _
     rw [vw,Nb]
 · cases h
def mkZ (P:Program) (nid:Nat) (o:Oper) (t:Nat->AV):Option CE :=
 match o.op with
 | .makeSlice ty l c=>(match P.underlying ty,JO (ev t l),JO (ev t c) with
   | some (.slice el),some (.int _ a),some (.int _ b)=>(match P.info? el,yG P el with
     | some i,some z=>(match Nat.ble 1 i.size&&Nat.beq (len z) i.size&&fH z with
       | true=>(match Ct (ev t l)&&Ct (ev t c) with
         | true=>(match decide (0<=a)&&decide (a<=b)&&decide ((i.bytes:Int)*b<=281474976710656)&&decide (b<=9223372036854775807) with
           | true=>some ⟨.own nid i.size 0 a.toNat,[nid],[(nid,.lst el i.size a.toNat (some b.toNat) (rep z a.toNat))],[],[]⟩
           | false=>none)
         | false=>some ⟨.own nid i.size 0 a.toNat,[nid],[(nid,.row el i.size a.toNat (some b.toNat) fun _ j=>get z j)],[],[0<=a,a<=b,(i.bytes:Int)*b<=281474976710656,b<=9223372036854775807]⟩)
       | false=>none)
     | _,_=>none)
   | _,_,_=>none)
 | _=>none
theorem NJ {zc:Array Value} {m n sz:Nat} (h:m<=n):(madeCells zc (n*sz)).toList.take (m*sz)=(madeCells zc (m*sz)).toList:=by
 have hle:m*sz<=n*sz:=Nat.mul_le_mul_right _ h
 apply List.ext_getElem?
 intro j
 rw [List.getElem?_take]
 by_cases hj:j<m*sz
 · rw [if_pos hj]
   simp [madeCells,hj,Nat.lt_of_lt_of_le hj hle]
 · rw [if_neg hj]
   simp [madeCells,Nat.le_of_not_lt hj]
theorem acy {P:Program} {rd:Nat->aH} {nid:Nat} {o:Oper} {t:Nat->AV} {e:CE} (hd:∀ k,nid<=k->rd k=.dead) (h:mkZ P nid o t=some e) (ho:Hold e.ob):CE.Good P o t rd e:=by
 unfold mkZ at h
 split at h
 case h_2=>cases h
 rename_i ty l c hop
 split at h
 case h_2=>cases h
 rename_i el k1 a k2 b hu hl hc
 split at h
 case h_2=>cases h
 rename_i i z hi hz
 split at h
 case h_2=>cases h
 rename_i hb
 simp only [Bool.and_eq_true,Nat.ble_eq,Nat.beq_eq,len_eq] at hb
 obtain ⟨⟨hs1,hzl⟩,hnz⟩:=hb
 have go:∀ (B:aH),0<=a->a<=b->(i.bytes:Int)*b<=281474976710656->b<=9223372036854775807 ->
  (B=.lst el i.size a.toNat (some b.toNat) (rep z a.toNat)∨B=.row el i.size a.toNat (some b.toNat) fun _ j=>get z j)->∀ ob,CE.Good P o t rd ⟨.own nid i.size 0 a.toNat,[nid],[(nid,B)],[],ob⟩:=by
  intro B h0 h1 h2 h3 hB ob M hM
  refine fJ fun H E w ac hC hT=>?_
  have hdn:getM M nid=.dead:=(hM nid (by simp)).trans (hd nid (Nat.le_refl _))
  have e1:=iA hl (aT hT l)
  have e2:=iA hc (aT hT c)
  obtain ⟨i',zv,hi',hz',hrz,hoz⟩:=m_ H E hz
  rw [hi] at hi'
  cases hi'
  have hzs:zv.cells.size=i.size:=by have:=aI.length hrz;simp at this;omega
  have hrun:=run_make (P:=P) w ty el i zv hu hi hz' k1 k2 a b h0 h1 h2 h3
  have hle:a.toNat<=b.toNat:=by omega
  have hmul:a.toNat*i.size<=b.toNat*i.size:=Nat.mul_le_mul_right _ hle
  obtain ⟨s1,s2,s3,s4⟩:=E.iI nid (some w.heap.size) b.toNat a.toNat
  have hones:ones (madeCells zv.cells (b.toNat*i.size)).toList:=IC hoz (by omega) _
  have hBok:dZ H (E.set nid (some w.heap.size) b.toNat a.toNat) (w.alloc (.cells (madeCells zv.cells (b.toNat*i.size)) el)) nid B:=by
   rcases hB with rfl | rfl
   · refine ⟨s1,by rw [s3,s4];exact ⟨rfl,hle⟩,by rw [s3];unfold maxLen;omega,fun q hq=>by cases hq;exact s3,?_⟩
     rw [s2]
     refine ⟨_,heap_alloc_new w _,fun x hx=>hones x (List.mem_of_mem_take hx),by rw [s3];exact size_madeCells _ _,?_⟩
     rw [NJ hle]
     exact aI.env (uX hC hdn) (Ku hrz hzs hs1 a.toNat)
   · refine ⟨s1,by rw [s3,s4];exact ⟨rfl,hle⟩,by rw [s3];unfold maxLen;omega,fun q hq=>by cases hq;exact s3,?_⟩
     rw [s2]
     refine ⟨_,heap_alloc_new w _,fun x hx=>hones x (List.mem_of_mem_take hx),by rw [s3];exact size_madeCells _ _,fun k hk j hj=>?_⟩
     have hlt:k*i.size+j<b.toNat*i.size:=by
      have:(k+1)*i.size<=b.toNat*i.size:=Nat.mul_le_mul_right _ (by omega)
      rw [Nat.add_mul] at this;omega
     have hjz:j<zv.cells.size:=by omega
     have hmod:(k*i.size+j) % zv.cells.size=j:=by
      rw [hzs,Nat.mul_comm,Nat.mul_add_mod];exact Nat.mod_eq_of_lt hj
     refine ⟨zv.cells[j],?_,?_⟩
     · simp only [madeCells,Array.getElem?_map,Array.getElem?_range,hlt,if_pos,Option.map_some]
       rw [hmod]
       simp [hjz]
     · have hz2:aI z H E0 zv.cells.toList:=aI.fK _ hnz hrz
       exact bK hz2 j _ (by simp [hjz])
  have hconc:=uD (κ:=b.toNat) (η:=a.toNat) (B:=B) hC hdn (madeCells zv.cells (b.toNat*i.size)) el hBok
  refine ⟨.slice (some ⟨w.heap.size,0,none⟩) a.toNat b.toNat,_,H,_,by simp [execOp,hop,e1,e2,hrun],⟨s1,by rw [s3,s4];omega,?_⟩,hconc.1,hconc.2⟩
  rw [s2]
  exact ⟨some ⟨w.heap.size,0,none⟩,by rw [s3];simp,by simp⟩
 split at h
 · split at h
   case h_2=>cases h
   rename_i hcond
   cases h
   simp only [Bool.and_eq_true,decide_eq_true_eq] at hcond
   exact go _ hcond.1.1.1 hcond.1.1.2 hcond.1.2 hcond.2 (.inl rfl) _
 · cases h
   exact go _ (ho _ (by simp)) (ho _ (by simp)) (ho _ (by simp)) (ho _ (by simp)) (.inr rfl) _
def acD (P:Program) (rd:Nat->aH) (o:Oper) (t:Nat->AV):Option CE:=none
theorem Wn {P:Program} {rd:Nat->aH} {o:Oper} {t:Nat->AV} {e:CE} (h:acD P rd o t=some e):CE.Good P o t rd e:=by
 simp [acD] at h
def TR (P:Program):Nat->TypeId->Nat->Option TypeId
 | 0,_,_=>none
 | n+1,ty,k=>(match P.underlying ty with
   | some (.struct fs)=>(fs.toList.foldl (fun r f=>match r with
     | some x=>some x
     | none=>(match sizeT P f.type with
       | some s=>(match Nat.ble f.offset k&&Nat.ble (k+1) (f.offset+s) with | true=>TR P n f.type (k - f.offset) | false=>none)
       | none=>none)) none)
   | some (.slice el)=>(match k with | 0=>some el | _+1=>none)
   | _=>none)
def Cg (P:Program) (ty:TypeId) (mask:Nat):List AV->Nat->Nat->Option (List AV×List (Nat×aH))
 | [],_,_=>some ([],[])
 | a::r,k,nid=>(match mask.testBit k with
   | false=>(match Cg P ty mask r (k+1) nid with | some (l,wr)=>some (a::l,wr) | none=>none)
   | true=>(match a,TR P 8 ty k with
     | .s (.slice none 0 0),some el=>(match P.info? el,Cg P ty mask r (k+1) (nid+1) with
       | some i,some (l,wr)=>some (.own nid i.size 0 0::l,(nid,.row el i.size 0 none (fun _ _=>.junk))::wr)
       | _,_=>none)
     | _,_=>none))
def news (nid:Nat):Nat->List Nat
 | 0=>[]
 | n+1=>nid::news (nid+1) n
def ab_ (P:Program) (rd:Nat->aH) (nid:Nat) (o:Oper) (t:Nat->AV) (mask:Nat):Option CE :=
 match o.op with
 | .build ty _=>(match yop P rd nid o t with
   | some e=>(match e.r,e.wr,e.kl with
     | .agg cs,[],[]=>(match Cg P ty mask cs 0 nid with
       | some (l,wr)=>some ⟨.agg l,e.rd++news nid (len wr),wr,[],e.ob⟩
       | none=>none)
     | _,_,_=>none)
   | none=>none)
 | _=>none
theorem FY:∀ {n nid j:Nat},nid<=j->j<nid+n->j∈news nid n
 | 0,_,_,h1,h2=>by omega
 | n+1,nid,j,h1,h2=>by
   rw [news]
   rcases Nat.eq_or_lt_of_le h1 with e | e
   · subst e;exact List.mem_cons_self
   · exact List.mem_cons_of_mem _ (FY (n:=n) e (by omega))
theorem uw {P:Program} {ty:TypeId} {mask:Nat}:∀ {cells:List AV} {k nid:Nat} {l:List AV} {wr:List (Nat×aH)} {H:HH} {E:Env} {w:World} {M:List aH} {vs:List Value},Cg P ty mask cells k nid=some (l,wr)->Conc H E w M->aI cells H E vs->(∀ j,nid<=j->j<nid+wr.length->getM M j=.dead) ->
 ∃ E',aI l H E' vs/\Conc H E' w (eF wr M)/\cO [] H E w H E' w
 | [],_,_,l,wr,H,E,w,M,vs,h,hC,hr,_=>by
   simp only [Cg] at h
   cases h
   exact ⟨E,hr,hC,cO.refl _ _ _ _⟩
 | a::r,k,nid,l,wr,H,E,w,M,vs,h,hC,hr,hd=>by
   obtain ⟨v,q,rfl,h1,h2⟩:=hr
   simp only [Cg] at h
   split at h
   · split at h
     case h_2=>cases h
     rename_i l' wr' hg
     cases h
     obtain ⟨E',g1,g2,g3⟩:=uw hg hC h2 hd
     refine ⟨E',⟨v,q,rfl,?_,g1⟩,g2,g3⟩
     have:=g3.rel h1
     rwa [kill] at this
   · split at h
     case h_2=>cases h
     rename_i el hel
     split at h
     case h_2=>cases h
     rename_i i l' wr' hi hg
     cases h
     have hdn:=hd nid (Nat.le_refl _) (by simp)
     obtain ⟨e1,e2,e3,e4⟩:=E.iI nid none 0 0
     have hvia:=uX (bo:=none) (κ:=0) (η:=0) hC hdn
     obtain ⟨hc,hev⟩:=hC.new (w':=w) (i:=nid) (κ:=0) (η:=0) (bo:=none) (B:=.row el i.size 0 none (fun _ _=>.junk)) hdn rfl rfl rfl (Nat.le_refl _) (fun _ _=>rfl) (fun b hb=>by cases hb)
      ⟨e1,by rw [e3,e4];exact ⟨rfl,Nat.le_refl _⟩,by rw [e3];exact Nat.zero_le _,(fun q hq=>by cases hq),by rw [e2];exact e3⟩
     obtain ⟨E',g1,g2,g3⟩:=uw hg hc (aI.env hvia h2) fun j hj hl=>by
      rw [dh _ _ _ _ (by omega)]
      exact hd j (by omega) (by simp;omega)
     refine ⟨E',⟨v,q,rfl,?_,g1⟩,g2,hev.trans g3 fun _ h=>h⟩
     have hv:v=.slice none 0 0:=h1.1
     have:Rel (.own nid i.size 0 0) H (E.set nid none 0 0) v:=by
      rw [hv]
      exact ⟨e1,by rw [e3,e4];exact ⟨Nat.le_refl _,Nat.le_refl _⟩,by rw [e2];exact ⟨rfl,rfl,rfl⟩⟩
     have:=g3.rel this
     rwa [kill] at this
theorem UL {P:Program} {rd:Nat->aH} {nid:Nat} {o:Oper} {t:Nat->AV} {mask:Nat} {e:CE} (hd:∀ k,nid<=k->rd k=.dead) (h:ab_ P rd nid o t mask=some e) (ho:Hold e.ob):CE.Good P o t rd e:=by
 intro M hM H E w a K Q hC hT hdf hkk
 unfold ab_ at h
 split at h
 case h_2=>cases h
 rename_i ty parts hop
 split at h
 case h_2=>cases h
 rename_i g hg
 split at h
 case h_2=>cases h
 rename_i cs hr hw hk
 split at h
 case h_2=>cases h
 rename_i l wr hag
 cases h
 have hs:=KU hg ho hd (M:=M) (fun i hi=>hM i (List.mem_append_left _ hi))
 refine hs H E w a K Q hC hT hdf fun v w' H' E' hr' hc hev=>?_
 rw [hw,hk] at hc
 rw [hk] at hev
 rw [hr] at hr'
 have hc:Conc H' E' w' M:=hc
 obtain ⟨vs,rfl,hrl⟩:=hr'
 obtain ⟨E2,q1,q2,q3⟩:=uw hag hc hrl fun j h1 h2=>(hM j (List.mem_append_right _ (FY h1 (by rw [len_eq wr];exact h2)))).trans (hd j h1)
 exact hkk (.agg vs) w' H' E2 ⟨vs,rfl,q1⟩ q2 (hev.trans q3 fun _ h=>h)
def Sb (P:Program) (rd:Nat->aH) (nid:Nat) (o:Oper) (t:Nat->AV):Option CE :=
 match o.op with
 | .binOp ..=>aaA o t
 | .index ..=>ig P o t
 | .convert ..=>toStr P rd o t
 | .makeSlice ..=>mkZ P nid o t
 | .call _=>acD P rd o t
 | _=>none
theorem PV {P:Program} {rd:Nat->aH} {nid:Nat} {o:Oper} {t:Nat->AV} {e:CE} (hd:∀ k,nid<=k->rd k=.dead) (h:Sb P rd nid o t=some e) (ho:Hold e.ob):CE.Good P o t rd e:=by
 unfold Sb at h
 split at h
 · exact V9 h ho
 · exact Uz h ho
 · exact RZ h ho
 · exact acy hd h ho
 · exact Wn h
 · cases h
def J9 (P:Program) (nid:Nat) (o:Oper) (t:Nat->AV):Option CE:=none
theorem Ng {P:Program} {rd:Nat->aH} {nid:Nat} {o:Oper} {t:Nat->AV} {e:CE} (hd:∀ k,nid<=k->rd k=.dead) (h:J9 P nid o t=some e) (ho:Hold e.ob):CE.Good P o t rd e:=by
 simp [J9] at h
theorem CE.Good.blk {P:Program} {o:Oper} {t:Nat->AV} {rd:Nat->aH} {r:AV} {l:List Nat} {i:Nat} {B B':aH} (hB:∀ H E w,dZ H E w i B->dZ H E w i B') (h:CE.Good P o t rd ⟨r,l,[(i,B)],[],[]⟩):CE.Good P o t rd ⟨r,l,[(i,B')],[],[]⟩:=by
 intro M hM H E w a K Q hC hT hd hk
 refine h M hM H E w a K Q hC hT hd fun v w' H' E' hr hc hev=>hk v w' H' E' hr ?_ hev
 have hc:Conc H' E' w' (kK M i B):=hc
 show Conc H' E' w' (kK M i B')
 refine ⟨hc.imm,hc.tf,fun k=>?_,hc.injH,hc.sepH,hc.ltS⟩
 by_cases hk:i=k
 · subst hk
   have:=hc.blk i
   rw [b_] at this ⊢
   exact hB _ _ _ this
 · have:=hc.blk k
   rw [dh _ _ _ _ hk] at this ⊢
   exact this
def Jq (P:Program) (nid:Nat) (o:Oper) (t:Nat->AV):Option CE:=none
theorem NC {P:Program} {rd:Nat->aH} {nid:Nat} {o:Oper} {t:Nat->AV} {e:CE} (hd:∀ k,nid<=k->rd k=.dead) (h:Jq P nid o t=some e):CE.Good P o t rd e:=by
 simp [Jq] at h
open Go.MapKept (IsKey findNow_spec run_checkKey run_findKey run_keyThatStays heap_set sameNow_of_keys)
theorem zP {P:Program} {o:Oper} {t:Nat->AV} {M:List aH} {e:CE}
 (h:∀ H E w a,Conc H E w M->jQ t H E a->∃ n v w' H' E',(execOp a.eval o).run P w=.ok n w'/\(n=.value v∨(n=.skip/\v=undef))/\Rel e.r H' E' v/\Conc H' E' w' (eF e.wr (fF e.kl M))/\cO e.kl H E w H' E' w'):StepT P o t M e:=by
 intro H E w a K Q hC hT hd hk
 obtain ⟨n,v,w',H',E',hv,hn,h1,h2,h3⟩:=h H E w a hC hT
 unfold Oper.wp
 rw [hv]
 rcases hn with rfl | ⟨rfl,rfl⟩<;>exact hk _ w' H' E' h1 h2 h3
def X7 (P:Program) (t:TypeId):Option (TypeDesc×TypeId×TypeId):=match P.underlying t with
 | some (.map k e)=>(match P.underlying k with
   | some (.int q)=>some (.int q,k,e)
   | some .string=>some (.string,k,e)
   | some .bool=>some (.bool,k,e)
   | _=>none)
 | _=>none
theorem LU {P:Program} {t:TypeId} {d:TypeDesc} {k e:TypeId} (h:X7 P t=some (d,k,e)):P.underlying t=some (.map k e)/\P.underlying k=some d:=by
 unfold X7 at h
 split at h
 case h_2=>cases h
 rename_i k' e' hu
 split at h<;>(try (cases h;done))<;>(rename_i hk;cases h;exact ⟨hu,hk⟩)
def Gm:TypeDesc->Value->Bool
 | .int k,.int k' _=>decide (k'=k)
 | .string,.string _=>true
 | .bool,.bool _=>true
 | _,_=>false
theorem Bo {d:TypeDesc} {v:Value} (h:Gm d v=true):IsKey d v:=by
 unfold Gm at h
 split at h
 · exact (of_decide_eq_true h:_=_)
 · trivial
 · trivial
 · cases h
def Nq:Value->Value->Bool
 | .int _ a,.int _ b=>decide (a=b)
 | .string a,.string b=>a.data.toList==b.data.toList
 | .bool a,.bool b=>a==b
 | _,_=>false
theorem Iw {d:TypeDesc} {a b:Value} (ha:IsKey d a) (hb:IsKey d b):Nq a b=true↔a=b:=by
 cases d<;>cases a<;>cases b<;>simp_all [IsKey,Nq]
 rename_i x y
 obtain ⟨⟨x⟩⟩:=x
 obtain ⟨⟨y⟩⟩:=y
 simp
def qZ (k:Value):List (Value×AV×Nat)->Nat->Option (Nat×AV)
 | [],_=>none
 | e::r,i=>match Nq k e.1 with | true=>some (i,e.2.1) | false=>qZ k r (i+1)
def u6 (d:TypeDesc):List (Value×AV×Nat)->Bool
 | []=>true
 | e::r=>Gm d e.1&&u6 d r
def wF:List (Value×AV×Nat)->Nat->AV->List (Value×AV×Nat)
 | [],_,_=>[]
 | e::r,0,a=>(e.1,a,e.2.2)::r
 | e::r,i+1,a=>e::wF r i a
abbrev ents (es:List (Value×AV×Nat)):List (Value×Nat):=es.map fun e=>(e.1,e.2.2)
abbrev vals (es:List (Value×AV×Nat)):List AV:=es.map fun e=>e.2.1
abbrev sW (l:List MapEntry):List (Value×Nat):=l.map fun e=>(e.key,e.born)
abbrev xX (l:List MapEntry):List Value:=l.map fun e=>e.val
theorem find_ok {d:TypeDesc} {k:Value} {H:HH} {E:Env} (hk:IsKey d k):∀ {es:List (Value×AV×Nat)} {l:List MapEntry} (i:Nat),sW l=ents es->aI (vals es) H E (xX l)->u6 d es=true ->
 (qZ k es i=none/\Instr.findNow d k l i=some none)∨∃ j e a,qZ k es i=some (i+j,a)/\Instr.findNow d k l i=some (some (i+j,e.val))/\l[j]? = some e/\e.key=k/\Rel a H E e.val
 | [],l,i,h,_,_=>by
   have:l=[]:=by simpa using h
   subst this
   exact .inl ⟨rfl,rfl⟩
 | e::r,l,i,h,hr,ha=>by
   cases l with
   | nil=>simp at h
   | cons y l =>
     simp only [sW,ents,List.map_cons,List.cons.injEq,Prod.mk.injEq] at h
     simp only [u6,Bool.and_eq_true] at ha
     obtain ⟨v,q,hv,h1,h2⟩:=hr
     simp only [xX,List.map_cons,List.cons.injEq] at hv
     obtain ⟨rfl,rfl⟩:=hv
     have hyk:IsKey d y.key:=by rw [h.1.1];exact Bo ha.1
     obtain ⟨b,hb,hiff⟩:=sameNow_of_keys hk hyk
     cases b with
     | true =>
       have hke:k=y.key:=hiff.1 rfl
       refine .inr ⟨0,y,e.2.1,?_,by simp [Instr.findNow,hb],rfl,hke.symm,h1⟩
       have:Nq k e.1=true:=by rw [<- h.1.1];exact (Iw hk hyk).2 hke
       simp [qZ,this]
     | false =>
       have hke:k≠y.key:=fun q=>by have:=hiff.2 q;cases this
       have hkb:Nq k e.1=false:=by
        rw [<- h.1.1]
        cases hq:Nq k y.key with
        | false=>rfl
        | true=>exact absurd ((Iw hk hyk).1 hq) hke
       rcases find_ok hk (i+1) h.2 h2 ha.2 with ⟨g1,g2⟩ | ⟨j,e',a,g1,g2,g3,g4,g5⟩
       · exact .inl ⟨by simp [qZ,hkb,g1],by simp [Instr.findNow,hb,g2]⟩
       · exact .inr ⟨j+1,e',a,by simp [qZ,hkb,g1];omega,by simp [Instr.findNow,hb,g2];omega,by simpa using g3,g4,g5⟩
def sS (ok:Bool) (a b:AV):AV:=match ok with | true=>.tup [a,b] | false=>a
theorem ou {ok:Bool} {a:AV} {b:Bool} {H:HH} {E:Env} {v:Value} {x:AV} (h:Rel a H E v) (hx:x=.s (.bool b)∨x=.y (.bool b)):Rel (sS ok a x) H E (if ok then .tuple #[v,.bool b] else v):=by
 cases ok with
 | true=>exact ⟨#[v,.bool b],rfl,v,[.bool b],rfl,h,.bool b,[],rfl,(by rcases hx with rfl | rfl<;>exact ⟨rfl,rfl⟩),rfl⟩
 | false=>exact h
def qo (P:Program) (t:TypeId):Option AV:=match P.info? t with | some i=>(match i.zero with | some z=>some (UC z) | none=>none) | none=>none
theorem mF {P:Program} {t:TypeId} {a:AV} (H:HH) (E:Env) (w:World) (h:qo P t=some a):∃ z,(zeroValue t).run P w=.ok z w/\Rel a H E z:=by
 unfold qo at h
 split at h
 case h_2=>cases h
 rename_i i hi
 split at h
 case h_2=>cases h
 rename_i z hz
 cases h
 refine ⟨z,?_,Ar z H E⟩
 have:(typeInfo t).run P w=.ok i w:=by simp [typeInfo,hi,Result.andThen]
 simp [zeroValue,this,hz,Result.andThen]
def Al (b:Bool) (v:Int):Int:=match b with | true=>v | false=>0
def Qh (P:Program) (rd:Nat->aH) (o:Oper) (t:Nat->AV):Option CE :=
 match o.op with
 | .lookup xt x idx ok=>(match X7 P xt,JO (ev t idx) with
   | some (d,_,et),some kv=>(match Gm d kv with
     | true=>(match ev t x with
       | .mref i=>(match rd i with
         | .mp es _=>(match u6 d es&&Ct (ev t idx) with
           | true=>(match qZ kv es 0 with
             | some (_,a)=>some ⟨sS ok a (.s (.bool true)),[i],[],[],[]⟩
             | none=>(match qo P et with | some z=>some ⟨sS ok z (.s (.bool false)),[i],[],[],[]⟩ | none=>none))
           | false=>none)
         | .mi kk vk has c=>(match d,kv,qo P et with
           | .int k0,.int _ n,some (.s (.int zk z))=>(match decide (k0=kk)&&decide (zk=vk)&&decide (z=0) with
             | true=>some ⟨sS ok (.y (.int vk (Al (has n) (c n)))) (.y (.bool (has n))),[i],[],[],[]⟩
             | false=>none)
           | _,_,_=>none)
         | _=>none)
       | .s (.map none)=>(match qo P et with | some z=>some ⟨sS ok z (.s (.bool false)),[],[],[],[]⟩ | none=>none)
       | _=>none)
     | false=>none)
   | _,_=>none)
 | _=>none
theorem isK {kk:IntKind} {v:Value}:IsKey (.int kk) v↔∃ x,v=.int kk x:=by
 constructor
 · intro h
   cases v<;>simp [IsKey] at h
   subst h
   exact ⟨_,rfl⟩
 · rintro ⟨x,rfl⟩
   rfl
theorem wX {kk:IntKind} {n:Int}:∀ {l:List MapEntry} (i:Nat),(∀ e∈l,∃ x,e.key=.int kk x) ->
 (jI n l=none/\Instr.findNow (.int kk) (.int kk n) l i=some none)∨∃ j e,jI n l=some e.val/\Instr.findNow (.int kk) (.int kk n) l i=some (some (i+j,e.val))/\l[j]? = some e/\e.key=.int kk n /\
   ∀ v y,jI y (l.modify j fun e=>{ e with key:=.int kk n,val:=v })=if n=y then some v else jI y l
 | [],_,_=>.inl ⟨rfl,rfl⟩
 | e::r,i,h=>by
   obtain ⟨x,hx⟩:=h e (.head _)
   by_cases hn:n=x
   · subst hn
     refine .inr ⟨0,e,by simp [jI,hx],by simp [Instr.findNow,hx,Instr.sameNow],rfl,hx,fun v y=>?_⟩
     by_cases hy:y=n
     · subst hy;simp [jI]
     · have hy2:¬ n=y:=fun q=>hy q.symm
       simp [jI,hx,hy,hy2]
   · have hb:(n==x)=false:=by simpa using hn
     rcases wX (n:=n) (i+1) (fun y hy=>h y (.tail _ hy)) with ⟨h1,h2⟩ | ⟨j,e',h1,h2,h3,h4,h5⟩
     · exact .inl ⟨by simp [jI,hx,hn,h1],by simp [Instr.findNow,hx,Instr.sameNow,hb,h2]⟩
     · refine .inr ⟨j+1,e',by simp [jI,hx,hn,h1],by simp [Instr.findNow,hx,Instr.sameNow,hb,h2];omega,by simpa using h3,h4,fun v y=>?_⟩
       simp only [List.modify_succ_cons,jI,hx,h5 v y]
       by_cases hy:y=x
       · subst hy;simp [hn]
       · simp [hy]
theorem oW {P:Program} {w:World} {xt kt et:TypeId} {d:TypeDesc} {b:Nat} {es:Array MapEntry} {ck:Nat} {k z:Value} {r:Option (Nat×Value)} {ok:Bool} (hm:P.underlying xt=some (.map kt et)) (hk:P.underlying kt=some d) (hb:w.heap[b]? = some (.map es ck)) (hkey:IsKey d k) (hf:Instr.findNow d k es.toList 0=some r) (hz:r=none->(zeroValue et).run P w=.ok z w) :
 (Instr.lookup xt (.map (some b)) k ok).run P w=.ok (match r with | some (_,v)=>(if ok then .tuple #[v,.bool true] else v) | none=>(if ok then .tuple #[z,.bool false] else z)) w:=by
 cases r with
 | none=>simp [Instr.lookup,run_underlying hm,Go.MapKept.run_getObj_map hb,run_checkKey hk hkey,run_findKey hk hf,hz rfl,Result.andThen]
 | some r=>simp [Instr.lookup,run_underlying hm,Go.MapKept.run_getObj_map hb,run_checkKey hk hkey,run_findKey hk hf,Result.andThen]
theorem O7 {P:Program} {rd:Nat->aH} {o:Oper} {t:Nat->AV} {e:CE} (h:Qh P rd o t=some e):CE.Good P o t rd e:=by
 unfold Qh at h
 split at h
 case h_2=>cases h
 rename_i xt x idx ok hop
 split at h
 case h_2=>cases h
 rename_i d kt et kv hkd hkv
 obtain ⟨hm,hk⟩:=LU hkd
 split at h
 case h_2=>cases h
 rename_i hkis
 have hkey:=Bo hkis
 split at h
 · rename_i i hx
   split at h
   · rename_i es ck hg
     split at h
     case h_2=>cases h
     rename_i hall
     simp only [Bool.and_eq_true] at hall
     have go:∀ r,(∀ H E w b ms,Conc H E w (eF [] (fF [] []))∨True->w.heap[b]? = some (.map ms ck)->sW ms.toList=ents es->aI (vals es) H E (xX ms.toList)->∃ v,(Instr.lookup xt (.map (some b)) kv ok).run P w=.ok v w/\Rel r H E v)->CE.Good P o t rd ⟨r,[i],[],[],[]⟩:=by
      intro r hr M hM
      refine fJ fun H E w a hC hT=>?_
      have h1:=aT hT x
      rw [hx] at h1
      obtain ⟨hl,b,hb,hv⟩:=h1
      have h2:=iA hkv (aT hT idx)
      have hB:=hC.blk i
      rw [hM i (by simp),hg] at hB
      obtain ⟨_,b',ms,g1,g2,g3,g4⟩:=hB
      rw [hb] at g1;cases g1
      obtain ⟨v,q1,q2⟩:=hr H E w b ms (.inr trivial) g2 g3 g4
      exact ⟨v,w,H,E,by simp [execOp,hop,hv,h2,q1],q2,hC,cO.refl _ _ _ _⟩
     split at h
     · rename_i j a hf
       cases h
       refine go _ fun H E w b ms _ g2 g3 g4=>?_
       rcases find_ok hkey 0 g3 g4 hall.1 with ⟨q1,_⟩ | ⟨j',e',a',q1,q2,q3,q4,q5⟩
       · rw [hf] at q1;cases q1
       · rw [hf] at q1
         obtain ⟨_,rfl⟩:=Prod.mk.inj (Option.some.inj q1)
         exact ⟨_,oW (z:=undef) hm hk g2 hkey q2 (fun h=>by cases h),ou q5 (.inl rfl)⟩
     · rename_i hf
       split at h
       case h_2=>cases h
       rename_i z hz
       cases h
       refine go _ fun H E w b ms _ g2 g3 g4=>?_
       rcases find_ok hkey 0 g3 g4 hall.1 with ⟨_,q2⟩ | ⟨j',e',a',q1,q2,q3,q4,q5⟩
       · obtain ⟨zv,hz1,hz2⟩:=mF H E w hz
         exact ⟨_,oW hm hk g2 hkey q2 (fun _=>hz1),ou hz2 (.inl rfl)⟩
       · rw [hf] at q1;cases q1
   · rename_i kk vk has c hg
     split at h
     case h_2=>cases h
     rename_i k0 k1 n zk z hz
     split at h
     case h_2=>cases h
     rename_i hc
     simp only [Bool.and_eq_true,decide_eq_true_eq] at hc
     obtain ⟨⟨rfl,rfl⟩,rfl⟩:=hc
     cases h
     have:k1=k0:=hkey
     subst this
     intro M hM
     refine fJ fun H E w a hC hT=>?_
     have h1:=aT hT x
     rw [hx] at h1
     obtain ⟨hl,b,hb,hv⟩:=h1
     have h2:=iA hkv (aT hT idx)
     have hB:=hC.blk i
     rw [hM i (by simp),hg] at hB
     obtain ⟨_,b',ms,ck,g1,g2,g3,g4⟩:=hB
     rw [hb] at g1;cases g1
     obtain ⟨zv,hz1,hz2⟩:=mF H E w hz
     have hz2:zv=.int zk 0:=hz2.1
     subst hz2
     have g4:=g4 n
     rcases wX (n:=n) 0 g3 with ⟨q1,q2⟩ | ⟨j,e',q1,q2,q3,q4,_⟩
     · rw [q1] at g4
       have hn:has n=false:=by cases hh:has n with | false=>rfl | true=>rw [hh] at g4;cases g4
       refine ⟨_,w,H,E,by simp [execOp,hop,hv,h2,oW hm hk g2 hkey q2 (fun _=>hz1)];rfl,?_,hC,cO.refl _ _ _ _⟩
       rw [hn]
       exact ou (v:=.int zk 0) ⟨rfl,rfl⟩ (.inr rfl)
     · rw [q1] at g4
       have hn:has n=true:=by cases hh:has n with | true=>rfl | false=>rw [hh] at g4;cases g4
       rw [hn] at g4
       have g4:=Option.some.inj g4
       refine ⟨_,w,H,E,by simp [execOp,hop,hv,h2,oW (z:=undef) hm hk g2 hkey q2 (fun h=>by cases h)];rfl,?_,hC,cO.refl _ _ _ _⟩
       rw [hn,g4]
       exact ou (v:=.int zk (c n)) ⟨rfl,rfl⟩ (.inr rfl)
   · cases h
 · rename_i hx
   split at h
   case h_2=>cases h
   rename_i z hz
   cases h
   intro M hM
   refine fJ fun H E w a hC hT=>?_
   have h1:=aT hT x
   rw [hx] at h1
   have hv:a.eval x=.map none:=h1.1
   have h2:=iA hkv (aT hT idx)
   obtain ⟨zv,hz1,hz2⟩:=mF H E w hz
   refine ⟨if ok then .tuple #[zv,.bool false] else zv,w,H,E,?_,ou hz2 (.inl rfl),hC,cO.refl _ _ _ _⟩
   have hf:Instr.findNow d kv [] 0=some none:=rfl
   simp [execOp,hop,hv,h2,Instr.lookup,run_underlying hm,run_checkKey hk hkey,run_findKey hk hf,hz1,Result.andThen]
 · cases h
def ko (has:Int->Bool) (n:Int):Int->Bool:=fun y=>decide (n=y)||has y
def yT (c:Int->Int) (n u:Int):Int->Int:=fun y=>match decide (n=y) with | true=>u | false=>c y
def LX (P:Program) (rd:Nat->aH) (mt:TypeId) (m k v:AV):Option CE:=match X7 P mt,JO k with
 | some (d,_,_),some kv=>(match Gm d kv with
   | true=>(match m with
     | .mref i=>(match rd i with
       | .mp es ck=>(match u6 d es&&Ct k with
         | true=>some ⟨.junk,[i],[(i,match qZ kv es 0 with | some (j,_)=>.mp (wF es j v) ck | none=>.mp (es++[(kv,v,ck)]) (ck+1))],[],[]⟩
         | false=>none)
       | .mi kk vk has c=>(match d,kv,JO v with
         | .int k0,.int _ n,some (.int vk' u)=>(match decide (k0=kk)&&decide (vk'=vk) with
           | true=>some ⟨.junk,[i],[(i,.mi kk vk (ko has n) (yT c n u))],[],[]⟩
           | false=>none)
         | _,_,_=>none)
       | _=>none)
     | _=>none)
   | false=>none)
 | _,_=>none
def WT (P:Program) (rd:Nat->aH) (o:Oper) (t:Nat->AV):Option CE :=
 match o.op with
 | .mapUpdate mt m k v=>LX P rd mt (ev t m) (ev t k) (ev t v)
 | .insert mt m k v=>LX P rd mt (ev t m) (ev t k) (ev t v)
 | _=>none
def World.FI (w:World) (b:Nat) (o:Obj):World:={ w with heap:=w.heap.setIfInBounds b o }
theorem wK {w:World} {b:Nat} {o o':Obj} (hb:w.heap[b]? = some o):Upd w (World.FI w b o') b o' :=
 ⟨rfl,rfl,rfl,by simp [World.FI],(heap_set hb).1,fun k hk=>(heap_set hb).2 k hk⟩
section
variable {P:Program} {w:World} {mt kt et:TypeId} {d:TypeDesc} {b:Nat} {es:Array MapEntry} {ck:Nat} {k v:Value}
theorem qX (hm:P.underlying mt=some (.map kt et)) (hk:P.underlying kt=some d) (hb:w.heap[b]? = some (.map es ck)) (hkey:IsKey d k) (hf:Instr.findNow d k es.toList 0=some none) :
 (Instr.mapUpdate mt (.map (some b)) k v).run P w=.ok () (World.FI w b (.map (es.push ⟨k,v,ck⟩) (ck+1))):=by
 simp [Instr.mapUpdate,run_underlying hm,Go.MapKept.run_getObj_map hb,run_checkKey hk hkey,run_findKey hk hf,Go.MapKept.run_setObj_map _ hb,Result.andThen,World.FI]
theorem rJ {j:Nat} {e:MapEntry} (hm:P.underlying mt=some (.map kt et)) (hk:P.underlying kt=some d) (hb:w.heap[b]? = some (.map es ck)) (hkey:IsKey d k) (hf:Instr.findNow d k es.toList 0=some (some (j,e.val))) (hj:es.toList[j]? = some e) (hke:e.key=k) :
 (Instr.mapUpdate mt (.map (some b)) k v).run P w=.ok () (World.FI w b (.map (es.modify j fun e=>{ e with key:=k,val:=v }) ck)):=by
 have hj:es[j]? = some e:=by simpa using hj
 simp [Instr.mapUpdate,run_underlying hm,Go.MapKept.run_getObj_map hb,run_checkKey hk hkey,run_findKey hk hf,hj,hke,run_keyThatStays hkey,Go.MapKept.run_setObj_map _ hb,Result.andThen,World.FI]
end
theorem Dc {k v:Value} {a:AV} {H:HH} {E:Env} (hv:Rel a H E v):∀ {es:List (Value×AV×Nat)} {l:List MapEntry} {j:Nat} {e:MapEntry},sW l=ents es->aI (vals es) H E (xX l)->l[j]? = some e->e.key=k ->
 sW (l.modify j fun e=>{ e with key:=k,val:=v })=ents (wF es j a)/\aI (vals (wF es j a)) H E (xX (l.modify j fun e=>{ e with key:=k,val:=v }))
 | [],l,j,e,h,_,hj,_=>by
   have:l=[]:=by simpa using h
   subst this;simp at hj
 | x::r,l,j,e,h,hr,hj,hk=>by
   cases l with
   | nil=>simp at h
   | cons y l =>
     simp only [sW,ents,List.map_cons,List.cons.injEq,Prod.mk.injEq] at h
     obtain ⟨u,q,hu,h1,h2⟩:=hr
     simp only [xX,List.map_cons,List.cons.injEq] at hu
     obtain ⟨rfl,rfl⟩:=hu
     cases j with
     | zero =>
       simp at hj
       subst hj
       have h1e:x.1=k:=by rw [<- h.1.1];exact hk
       refine ⟨?_,?_⟩
       · simp only [List.modify_zero_cons,sW,ents,wF,List.map_cons,h1e,h.1.2]
         have:=h.2
         rw [this]
       · simp only [List.modify_zero_cons,xX,vals,wF,List.map_cons]
         exact ⟨v,_,rfl,hv,h2⟩
     | succ j =>
       simp only [List.getElem?_cons_succ] at hj
       obtain ⟨g1,g2⟩:=Dc hv h.2 h2 hj hk
       refine ⟨?_,?_⟩
       · simp only [List.modify_succ_cons,sW,ents,wF,List.map_cons,h.1.1,h.1.2]
         have:sW _=_:=g1
         simp only [sW,ents] at this
         rw [this]
       · simp only [List.modify_succ_cons,xX,vals,wF,List.map_cons]
         exact ⟨_,_,rfl,h1,g2⟩
theorem CZ {n:Int} {kk:IntKind} {v:Value} {ck:Nat}:∀ {l:List MapEntry} (_:∀ e∈l,∃ x,e.key=.int kk x) (_:jI n l=none) (y:Int),jI y (l++[⟨.int kk n,v,ck⟩])=if n=y then some v else jI y l
 | [],_,_,y=>by
   by_cases hy:n=y
   · subst hy;simp [jI]
   · have:¬ y=n:=fun q=>hy q.symm
     simp [jI,hy,this]
 | e::r,h,hn,y=>by
   obtain ⟨x,hx⟩:=h e (.head _)
   simp only [jI,hx] at hn
   by_cases hnx:n=x
   · rw [if_pos hnx] at hn;cases hn
   · rw [if_neg hnx] at hn
     have:=CZ (v:=v) (ck:=ck) (fun y hy=>h y (.tail _ hy)) hn y
     simp only [List.cons_append,jI,hx,this]
     by_cases hy:y=x
     · subst hy;simp [hnx]
     · simp [hy]
theorem Ia {P:Program} {rd:Nat->aH} {o:Oper} {t:Nat->AV} {mt:TypeId} {m k v:Operand} {e:CE} (hop:o.op=.mapUpdate mt m k v∨o.op=.insert mt m k v) (h:LX P rd mt (ev t m) (ev t k) (ev t v)=some e):CE.Good P o t rd e:=by
 unfold LX at h
 split at h
 case h_2=>cases h
 rename_i d kt et kv hkd hkv
 obtain ⟨hm,hk⟩:=LU hkd
 split at h
 case h_2=>cases h
 rename_i hkis
 have hkey:=Bo hkis
 split at h
 case h_2=>cases h
 rename_i i hx
 have hexec:∀ (a:Act) (w w':World),(Instr.mapUpdate mt (a.eval m) (a.eval k) (a.eval v)).run P w=.ok () w'->(execOp a.eval o).run P w=.ok .skip w':=fun a w w' hr=>by
  rcases hop with hop | hop<;>simp [execOp,hop,hr]
 split at h
 · rename_i es ck hg
   split at h
   case h_2=>cases h
   rename_i hall
   simp only [Bool.and_eq_true] at hall
   cases h
   intro M hM
   refine zP fun H E w a hC hT=>?_
   have h1:=aT hT m
   rw [hx] at h1
   obtain ⟨hl,b,hb,hv⟩:=h1
   have h2:=iA hkv (aT hT k)
   have h3:=aT hT v
   have hB:=hC.blk i
   rw [hM i (by simp),hg] at hB
   obtain ⟨_,b',ms,g1,g2,g3,g4⟩:=hB
   rw [hb] at g1;cases g1
   rcases find_ok hkey 0 g3 g4 hall.1 with ⟨q1,q2⟩ | ⟨j,e',a',q1,q2,q3,q4,q5⟩
   · have hrun:=qX (v:=a.eval v) hm hk g2 hkey q2
     have hBk:dZ H E (World.FI w b (.map (ms.push ⟨kv,a.eval v,ck⟩) (ck+1))) i (.mp (es++[(kv,ev t v,ck)]) (ck+1)):=by
      refine ⟨hl,b,ms.push ⟨kv,a.eval v,ck⟩,hb,(heap_set g2).1,?_,?_⟩
      · rw [Array.toList_push,List.map_append,List.map_append,g3];rfl
      · have:=gV g4 (show aI [ev t v] H E [a.eval v] from ⟨_,_,rfl,h3,rfl⟩)
        simpa using this
     obtain ⟨hc,hev⟩:=hC.upd hl hb (wK g2) hBk
     refine ⟨_,undef,_,H,E,hexec a w _ (by rw [hv,h2];exact hrun),.inr ⟨rfl,rfl⟩,trivial,?_,hev⟩
     simp only [fF,eF]
     rw [q1]
     exact hc
   · have hrun:=rJ (v:=a.eval v) hm hk g2 hkey (by simpa using q2) q3 q4
     simp only [Nat.zero_add] at q1
     obtain ⟨m1,m2⟩:=Dc h3 g3 g4 q3 q4
     obtain ⟨hc,hev⟩:=hC.upd hl hb (wK g2) (B:=.mp (wF es j (ev t v)) ck) ⟨hl,b,_,hb,(heap_set g2).1,(by rw [Array.toList_modify];exact m1),(by rw [Array.toList_modify];exact m2)⟩
     refine ⟨_,undef,_,H,E,hexec a w _ (by rw [hv,h2];exact hrun),.inr ⟨rfl,rfl⟩,trivial,?_,hev⟩
     simp only [fF,eF]
     rw [q1]
     exact hc
 · rename_i kk vk has c hg
   split at h
   case h_2=>cases h
   rename_i k0 k1 n vk' u hu
   split at h
   case h_2=>cases h
   rename_i hc
   simp only [Bool.and_eq_true,decide_eq_true_eq] at hc
   obtain ⟨rfl,rfl⟩:=hc
   cases h
   have:k1=k0:=hkey
   subst this
   intro M hM
   refine zP fun H E w a hC hT=>?_
   have h1:=aT hT m
   rw [hx] at h1
   obtain ⟨hl,b,hb,hv⟩:=h1
   have h2:=iA hkv (aT hT k)
   have h3:=iA hu (aT hT v)
   have hB:=hC.blk i
   rw [hM i (by simp),hg] at hB
   obtain ⟨_,b',ms,ck,g1,g2,g3,g4⟩:=hB
   rw [hb] at g1;cases g1
   have hg4:∀ y,(if n=y then some (Value.int vk' u) else jI y ms.toList)=(match ko has n y with | true=>some (.int vk' (yT c n u y)) | false=>none):=by
    intro y
    by_cases hy:n=y
    · simp [ko,yT,hy]
    · rw [if_neg hy,g4 y]
      have h1:ko has n y=has y:=by simp [ko,hy]
      have h2:yT c n u y=c y:=by simp [yT,hy]
      rw [h1,h2]
      rfl
   rcases wX (n:=n) 0 g3 with ⟨q1,q2⟩ | ⟨j,e',q1,q2,q3,q4,q5⟩
   · have hrun:=qX (v:=.int vk' u) hm hk g2 hkey q2
     have hBk:dZ H E (World.FI w b (.map (ms.push ⟨.int k1 n,.int vk' u,ck⟩) (ck+1))) i (.mi k1 vk' (ko has n) (yT c n u)):=by
      refine ⟨hl,b,ms.push ⟨.int k1 n,.int vk' u,ck⟩,ck+1,hb,(heap_set g2).1,fun e he=>?_,fun y=>?_⟩
      · rw [Array.toList_push,List.mem_append] at he
        rcases he with he | he
        · exact g3 e he
        · simp at he;subst he;exact ⟨n,rfl⟩
      · rw [Array.toList_push];exact (CZ g3 q1 y).trans (hg4 y)
     obtain ⟨hc,hev⟩:=hC.upd hl hb (wK g2) hBk
     exact ⟨_,undef,_,H,E,hexec a w _ (by rw [hv,h2,h3];exact hrun),.inr ⟨rfl,rfl⟩,trivial,hc,hev⟩
   · have hrun:=rJ (v:=.int vk' u) hm hk g2 hkey (by simpa using q2) q3 q4
     have q3':ms[j]? = some e':=by simpa using q3
     have hBk:dZ H E (World.FI w b (.map (ms.modify j fun e=>{ e with key:=.int k1 n,val:=.int vk' u }) ck)) i (.mi k1 vk' (ko has n) (yT c n u)):=by
      refine ⟨hl,b,ms.modify j fun e=>{ e with key:=.int k1 n,val:=.int vk' u },ck,hb,(heap_set g2).1,fun e he=>?_,fun y=>?_⟩
      · exact isK.1 (Go.MapKept.isKey_modify (d:=.int k1) (fun x hx=>isK.2 (g3 x hx)) j _ (fun e'' he''=>by rw [q3'] at he'';cases he'';exact q4.symm) e he)
      · rw [Array.toList_modify];exact (q5 _ y).trans (hg4 y)
     obtain ⟨hc,hev⟩:=hC.upd hl hb (wK g2) hBk
     exact ⟨_,undef,_,H,E,hexec a w _ (by rw [hv,h2,h3];exact hrun),.inr ⟨rfl,rfl⟩,trivial,hc,hev⟩
 · cases h
theorem MK {P:Program} {rd:Nat->aH} {o:Oper} {t:Nat->AV} {e:CE} (h:WT P rd o t=some e):CE.Good P o t rd e:=by
 unfold WT at h
 split at h
 · rename_i mt m k v hop;exact Ia (.inl hop) h
 · rename_i mt m k v hop;exact Ia (.inr hop) h
 · cases h
def mkM (P:Program) (rd:Nat->aH) (nid:Nat) (o:Oper) (t:Nat->AV):Option CE :=
 match o.op with
 | .makeMap _ none=>some ⟨.mref nid,[nid],[(nid,.mp [] 0)],[],[]⟩
 | .makeMap ty (some r)=>(match P.underlying ty,JO (ev t r) with
   | some (.map _ _),some (.int _ _)=>some ⟨.mref nid,[nid],[(nid,.mp [] 0)],[],[]⟩
   | _,_=>none)
 | _=>none
theorem aaJ {P:Program} {rd:Nat->aH} {nid:Nat} {o:Oper} {t:Nat->AV} {e:CE} (hd:∀ k,nid<=k->rd k=.dead) (h:mkM P rd nid o t=some e):CE.Good P o t rd e:=by
 have go:(∀ H E w a,jQ t H E a->(execOp a.eval o).run P w=.ok (.value (.map (some w.heap.size))) (w.alloc (.map #[] 0)))->CE.Good P o t rd ⟨.mref nid,[nid],[(nid,.mp [] 0)],[],[]⟩:=by
  intro hrun M hM
  refine fJ fun H E w a hC hT=>?_
  have hdn:getM M nid=.dead:=(hM nid (by simp)).trans (hd nid (Nat.le_refl _))
  obtain ⟨s1,s2,_⟩:=E.iI nid (some w.heap.size) 0 0
  obtain ⟨hc,hev⟩:=hC.new (w':=w.alloc (.map #[] 0)) (i:=nid) (κ:=0) (η:=0) (bo:=some w.heap.size) (B:=.mp [] 0) hdn rfl rfl rfl (by simp) (fun b hb=>Go.RowKit.Below.heap_alloc w _ b hb) (fun b hb=>by cases hb;exact Nat.le_refl _)
   ⟨s1,w.heap.size,#[],s2,heap_alloc_new w _,rfl,rfl⟩
  exact ⟨_,_,H,_,hrun H E w a hT,⟨s1,_,s2,rfl⟩,hc,hev⟩
 unfold mkM at h
 split at h
 · rename_i ty hop
   cases h
   exact go fun H E w a _=>by simp [execOp,hop,Instr.makeMap,Result.andThen]
 · rename_i ty r hop
   split at h
   case h_2=>cases h
   rename_i kt et ik n hu hr
   cases h
   refine go fun H E w a hT=>?_
   have h2:=iA hr (aT hT r)
   simp [execOp,hop,Instr.makeMap,run_underlying hu,h2,asInt,asIntOf,Result.andThen]
 · cases h
def abS (P:Program) (rd:Nat->aH) (o:Oper) (t:Nat->AV):Option CE:=none
theorem V3 {P:Program} {rd:Nat->aH} {o:Oper} {t:Nat->AV} {e:CE} (h:abS P rd o t=some e):CE.Good P o t rd e:=by
 simp [abS] at h
end Go.Ax

namespace Go.Ax
open Go
variable [Inhabited kT]
def QL (P:Program) (o:Oper) (t:Nat->AV):Option CE:=none
theorem Rt {P:Program} {o:Oper} {t:Nat->AV} {rd:Nat->aH} {e:CE} (h:QL P o t=some e) (ho:Hold e.ob):CE.Good P o t rd e:=by
 simp [QL] at h
def fT (B:aH) (sz n:Nat):Option (TypeId×aH):=match B with
 | .lst ty s2 m _ cs=>(match Nat.beq s2 sz&&Nat.ble n m with | true=>some (ty,.lst ty sz n none (cs.take (n*sz))) | false=>none)
 | .row ty s2 _ _ c=>(match Nat.beq s2 sz with | true=>some (ty,.row ty sz n none c) | false=>none)
 | _=>none
def A8 (P:Program) (rd:Nat->aH) (o:Oper) (t:Nat->AV):Option CE:=none
theorem BH {H:HH} {E:Env}:∀ {l:List AV} {vs:List Value} (n:Nat),aI l H E vs->aI (l.take n) H E (vs.take n)
 | _,_,0,_=>by simp [aI]
 | [],_,n+1,h=>by
   have h:_=[]:=h
   subst h;simp [aI]
 | _::_,_,n+1,h=>by
   obtain ⟨v,r,rfl,h1,h2⟩:=h
   exact ⟨v,_,rfl,h1,BH n h2⟩
theorem Ti {H:HH} {E:Env} {w:World} {a sz n:Nat} {B B1:aH} {ty:TypeId} (hB:dZ H E w a B) (h:fT B sz n=some (ty,B1)) (hn:n<=E.η a) :
 E.κ a<=maxLen/\n<=E.κ a/\(match E.ι a with
  | none=>n=0->Cont H E sz n ty B1 []
  | some b=>∃ vs,w.heap[b]? = some (.cells vs ty (0,0))/\vs.size=E.κ a*sz/\ones (vs.toList.take (n*sz))/\Cont H E sz n ty B1 (vs.toList.take (n*sz))):=by
 unfold fT at h
 split at h
 · rename_i ty' s2 m cap cs
   split at h
   case h_2=>cases h
   rename_i hb
   simp only [Bool.and_eq_true,Nat.beq_eq,Nat.ble_eq] at hb
   obtain ⟨rfl,hnm⟩:=hb
   cases h
   obtain ⟨_,hm,hκ,_,hc⟩:=hB
   refine ⟨hκ,by omega,?_⟩
   cases hι:E.ι a with
   | none =>
     rw [hι] at hc
     obtain ⟨_,rfl⟩:=hc
     intro h0
     subst h0
     exact ⟨rfl,rfl,rfl,by simp [aI]⟩
   | some b =>
     rw [hι] at hc
     obtain ⟨vs,g1,g2,g3,g4⟩:=hc
     have hle:n*s2<=m*s2:=Nat.mul_le_mul_right _ hnm
     refine ⟨vs,g1,g3,fun x hx=>g2 x (List.take_subset_take_left _ hle hx),rfl,rfl,rfl,?_⟩
     have:=BH (n*s2) g4
     rwa [List.take_take,Nat.min_eq_left hle] at this
 · rename_i ty' s2 m cap c
   split at h
   case h_2=>cases h
   rename_i hb
   have hb:s2=sz:=by simpa using hb
   subst hb
   cases h
   obtain ⟨_,hm,hκ,_,hc⟩:=hB
   refine ⟨hκ,by omega,?_⟩
   cases hι:E.ι a with
   | none =>
     intro h0
     subst h0
     exact ⟨rfl,rfl,rfl,fun k hk=>by omega⟩
   | some b =>
     rw [hι] at hc
     obtain ⟨vs,g1,g2,g3,g4⟩:=hc
     have hle:n*s2<=m*s2:=Nat.mul_le_mul_right _ (by omega)
     refine ⟨vs,g1,g3,fun x hx=>g2 x (List.take_subset_take_left _ hle hx),rfl,rfl,rfl,fun k hk j hj=>?_⟩
     obtain ⟨x,hx,hr⟩:=g4 k (by omega) j hj
     refine ⟨x,?_,hr⟩
     have hlt:k*s2+j<n*s2:=by
      have:(k+1)*s2<=n*s2:=Nat.mul_le_mul_right _ hk
      rw [Nat.add_mul,Nat.one_mul] at this;omega
     rw [List.getElem?_take_of_lt hlt,Array.getElem?_toList]
     exact hx
 · cases h
theorem IY {P:Program} {o:Oper} {t:Nat->AV} {rd:Nat->aH} {e:CE} (h:A8 P rd o t=some e) (ho:Hold e.ob):CE.Good P o t rd e:=by
 simp [A8] at h
def PK (P:Program) (rd:Nat->aH) (o:Oper) (t:Nat->AV):Option CE:=none
theorem OW {P:Program} {rd:Nat->aH} {o:Oper} {t:Nat->AV} {e:CE} (h:PK P rd o t=some e) (ho:Hold e.ob):CE.Good P o t rd e:=by
 simp [PK] at h
def xM (s:ByteArray) (k:Nat) (_:Nat):AV:=.y (.int .u8 ((s.data.toList.getD k 0).toNat))
def HH.plus (H:HH) (b0:Nat) (o0:Obj):HH:=fun x b=>match Nat.beq b b0 with | true=>some o0 | false=>H x b
theorem HH.xk (H:HH) (b0:Nat) (o0:Obj) (x:Bool):H.plus b0 o0 x b0=some o0:=by simp [HH.plus]
theorem HH.EH (H:HH) {b0 b:Nat} (o0:Obj) (x:Bool) (h:b≠b0):H.plus b0 o0 x b=H x b:=by
 have:Nat.beq b b0=false:=by
  cases hb:Nat.beq b b0
  · rfl
  · exact absurd (Nat.eq_of_beq_eq_true hb) h
 simp [HH.plus,this]
theorem NM {H:HH} {E:Env} {w w':World} {M:List aH} {o0:Obj} (hC:Conc H E w M) (hos:w'.os=w.os) (ht:w'.tape=w.tape) (hout:w'.output=w.output) (hs:w.heap.size<=w'.heap.size)
 (hk:∀ b,b<w.heap.size->w'.heap[b]? = w.heap[b]?) (ho:w'.heap[w.heap.size]? = some o0) :
 Conc (H.plus w.heap.size o0) E w' M/\cO [] H E w (H.plus w.heap.size o0) E w':=by
 have hlt:∀ x b o,H x b=some o->b<w.heap.size:=by
  intro x b o hb
  refine IH.vU hC.imm (b:=b) (o:=o) ?_
  cases x
  · exact hb
  · exact hC.tf.1 b o hb
 have hle:H.le (H.plus w.heap.size o0):=by
  intro x b o hb
  rw [HH.EH H o0 x (by have:=hlt x b o hb;omega)]
  exact hb
 have hcase:∀ x b o,H.plus w.heap.size o0 x b=some o->(b=w.heap.size/\o=o0)∨H x b=some o:=by
  intro x b o hb
  by_cases h:b=w.heap.size
  · subst h
    rw [HH.xk] at hb
    cases hb
    exact .inl ⟨rfl,rfl⟩
  · rw [HH.EH H o0 x h] at hb
    exact .inr hb
 refine ⟨⟨fun b o hb=>?_,hC.tf.up hle (fun b o hb=>?_),fun i=>?_,hC.injH,fun i b hb=>?_,fun i b hl hb=>Nat.lt_of_lt_of_le (hC.ltS i b hl hb) hs⟩,⟨hos,ht,hout,hs,fun b hb _=>hk b hb,fun i b hb=>.inl ⟨i,hb⟩,hle,fun x b o hb=>?_,fun i hl _=>⟨hl,rfl,rfl,rfl⟩⟩⟩
 · rcases hcase false b o hb with ⟨rfl,rfl⟩ | h
   · exact ho
   · exact (hk b (hlt _ _ _ h)).trans (hC.imm b o h)
 · rcases hcase true b o hb with ⟨rfl,rfl⟩ | h
   · exact HH.xk _ _ _ _
   · exact hle false b o (hC.tf.1 b o h)
 · have:=(hC.blk i).move (f:=some) (H':=H.plus w.heap.size o0) (E':=E) (w':=w') (i':=i) hle (fun a c hc hl=>by cases hc;exact ⟨hl,rfl,rfl,rfl⟩) rfl rfl rfl rfl (fun _=>Iff.rfl) fun b hb=>hk b (hC.qy hb)
   rwa [fI] at this
 · rw [HH.EH H o0 false (by have:=hC.qy hb;omega)]
   exact hC.sepH i b hb
 · rcases hcase x b o hb with ⟨rfl,rfl⟩ | h
   · exact .inr (.inl (Nat.le_refl _))
   · exact .inl h
def aM (P:Program) (o:Oper) (t:Nat->AV):Option CE:=match o.op with
 | .convert src dst x=>(match P.underlying src,P.underlying dst with
   | some _,some (.slice el)=>(match P.underlying el,JO (ev t x) with
     | some (.int .u8),some (.string s)=>some ⟨.ys true 1 s.size (xM s),[],[],[],[]⟩
     | _,_=>none)
   | _,_=>none)
 | _=>none
theorem Wx {P:Program} {o:Oper} {t:Nat->AV} {rd:Nat->aH} {e:CE} (h:aM P o t=some e):CE.Good P o t rd e:=by
 unfold aM at h
 split at h
 case h_2=>cases h
 rename_i src dst x hop
 split at h
 case h_2=>cases h
 rename_i u el hsrc hdst
 split at h
 case h_2=>cases h
 rename_i s hel hs
 cases h
 intro M hM
 refine fJ fun H E w a hC hT=>?_
 have hx:=iA hs (aT hT x)
 have hrun:=Lib.run_convert_string_bytes (P:=P) w src dst el s hsrc hdst hel
 obtain ⟨hc,hev⟩:=NM (w':=Lib.bytesWorld w el s) hC (by rfl) (by rfl) (by rfl) (by rw [Lib.bytesWorld_size];omega) (fun b hb=>Lib.bytesWorld_at_old w el s b hb) (Lib.bytesWorld_at_new w el s)
 refine ⟨.slice (some ⟨w.heap.size,0,none⟩) s.size (grownCap w s.size 0 el),Lib.bytesWorld w el s,_,E,by simp [execOp,hop,hx,hrun],?_,hc,hev⟩
 refine ⟨_,_,rfl,⟨grownCap_ge w s.size 0 el,fun h=>by cases h⟩,fun _=>⟨_,rfl,fun k hk j hj=>?_⟩⟩
 obtain rfl:j=0:=by omega
 refine ⟨.int .u8 ((s.data.toList.getD k 0).toNat),?_,rfl,rfl,rfl⟩
 have hcell:=Lib.bytesWorld_cell w el s k hk
 have e1:(⟨w.heap.size,0,none⟩:Addr).add (k*1+0)=⟨w.heap.size,k,none⟩:=by simp only [Addr.add];split<;>simp_all
 rw [e1]
 unfold World.cell? at hcell
 unfold IH.cell?
 rw [HH.xk]
 rw [Lib.bytesWorld_at_new] at hcell
 simpa using hcell
def acL (o:Oper) (t:Nat->AV):Option CE:=match o.op with
 | .unOp .neg _ x=>(match JO (ev t x) with
   | some (.int k n)=>some ⟨.y (.int k (k.wrap (0 - n))),[],[],[],[]⟩
   | _=>none)
 | _=>none
theorem WA {P:Program} {o:Oper} {t:Nat->AV} {rd:Nat->aH} {e:CE} (h:acL o t=some e):CE.Good P o t rd e:=by
 unfold acL at h
 split at h
 case h_2=>cases h
 rename_i ty x hop
 split at h
 case h_2=>cases h
 rename_i k n hs
 cases h
 intro M hM
 refine fJ fun H E w a hC hT=>?_
 have hx:=iA hs (aT hT x)
 exact ⟨.int k (k.wrap (0 - n)),w,H,E,by simp [execOp,hop,hx,Op.unary,Op.intArith],⟨rfl,rfl⟩,hC,cO.refl _ _ _ _⟩
theorem Sm {H:HH} {E:Env} {w w':World} {M:List aH} {el:TypeId} {a n m sz:Nat} {B':aH} {v':Value} {xs news:List Value} (hC:Conc H E w M) (hl:E.lv a=true) (hxs:ones xs) (hones:ones news)
 (hown':w'.ownsRow 0 el sz v' (n+m) (xs++news)) (hgrow:w.grownBy w' (E.ι a)) (hat:∀ g,v'.ownBlock=some g->E.ι a=some g∨w.heap.size<=g) (hc2:Cont H E sz (n+m) el B' (xs++news)) (hcap:capOf B'=none) :
 ∃ E',Rel (.own a sz 0 (n+m)) H E' v'/\Conc H E' w' (fF [a] (kK M a B'))/\cO [a] H E w H E' w':=by
 obtain ⟨bo,κ,hbo,hnκ,hκm,hv',hblk,hbn⟩:=rX hown'
 obtain ⟨e1,e2,e3,e4⟩:=E.iI a bo κ (n+m)
 have hvia:E.via (E.set a bo κ (n+m)) (aV [a]):=by
  intro p q hpq hlp
  unfold aV at hpq
  split at hpq
  · cases hpq
  · rename_i hn
    cases hpq
    obtain ⟨f1,f2,f3⟩:=E.nP a p bo κ (n+m) (by simpa using hn)
    exact ⟨f1.trans hlp,f2,f3⟩
 have hB:dZ H (E.set a bo κ (n+m)) w' a (gG (aV [a]) B'):=by
  refine uO (wu hvia hc2) (by rw [Dn];exact hcap) e1 (by rw [e3,e4];exact ⟨rfl,hnκ⟩) (by rw [e3];exact hκm) (fun y hy=>?_) (by rw [e2,e3];exact hblk)
  rcases List.mem_append.1 hy with hy | hy
  · exact hxs y hy
  · exact hones y hy
 obtain ⟨hconc,hev⟩:=hC.move hl hgrow (bo':=bo) (κ':=κ) (η':=n+m) (fun g hg=>hat g (hbo.trans hg)) hB
 refine ⟨E.set a bo κ (n+m),⟨e1,by rw [e3,e4];omega,?_⟩,hconc,hev⟩
 rw [e2,e3]
 cases bo with
 | none=>exact ⟨rfl,by have:=hbn rfl;omega,hv'⟩
 | some b=>exact ⟨_,hv',⟨fun _=>by simp,by simp⟩⟩
theorem Pz {P:Program} {w:World} {t u ty e:TypeId} {i:TypeInfo} (ht:P.underlying t=some (.slice e)) (hu:P.underlying u=some .string) (hi:P.info? e=some i) (hz:i.zero=some (.int .u8 0)) (hsize:i.size=1) (hby:i.bytes=1)
 {v:Value} {n:Nat} {xs:List Value} (hown:w.ownsRow 0 e 1 v n xs) (s:ByteArray) (h63:n+s.size<=maxLen) (hbytes:n+s.size<=140737488355328) :
 ∃ v' w',(Builtin.append_ #[t,u] ty #[v,.string s]).run P w=.ok v' w'/\w'.ownsRow 0 e 1 v' (n+s.size) (xs++Lib.strCells s)/\w.grownBy w' v.ownBlock/\∀ g,v'.ownBlock=some g->v.ownBlock=some g∨w.heap.size<=g:=by
 have hsmall:n+s.size<=9223372036854775807:=by simp only [maxLen] at h63;omega
 have hxl:xs.length=n:=by simpa using hown.1
 rcases hown.2 with ⟨rfl,rfl⟩ | ⟨g,cap,cur,rfl,hbg,hg,hnc,hcm,hcs,htake⟩
 · have hx:xs=[]:=List.eq_nil_of_length_eq_zero hxl
   subst hx
   obtain ⟨v',w',h1,h2,h3,_⟩:=Lib.run_append_own_string (P:=P) w w.heap.size t u ty e i ht hu hi hz hsize hby (.slice none 0 0) 0 [] (World.ownsRow_nil w _ e 1) s h63 hbytes (Nat.le_refl _)
   refine ⟨v',w',h1,⟨h2.1,?_⟩,h3,fun g hg=>?_⟩
   · rcases h2.2 with h | ⟨g,cap,cur,a1,_,a3⟩
     · exact .inl h
     · exact .inr ⟨g,cap,cur,a1,Nat.zero_le _,a3⟩
   · rcases h2.2 with ⟨rfl,_⟩ | ⟨g',cap,cur,rfl,hb,_⟩
     · cases hg
     · have hg:some g'=some g:=hg
       cases hg
       exact .inr hb
 · obtain ⟨v',w',h1,h2,h3,_⟩:=Lib.run_append_own_string (P:=P) w 0 t u ty e i ht hu hi hz hsize hby (.slice (some ⟨g,0,none⟩) n cap) n xs hown s h63 hbytes (Nat.zero_le _)
   refine ⟨v',w',h1,h2,h3,fun g' hg'=>?_⟩
   by_cases hroom:n+s.size<=cap
   · have hcs':cur.size=cap:=by simpa using hcs
     have hr:=Lib.run_append_room_string (P:=P) w t u ty e i ht hu hi hsize g n cap cur hg s hroom (by omega)
     rw [hr] at h1
     cases h1
     exact .inl hg'
   · have holds:∀ j u,xs[j]? = some u->w.cell? ((⟨g,0,none⟩:Addr).add j)=some u:=hown.cells (g:=g) rfl
     have hr:=Lib.run_append_grow_string (P:=P) w t u ty e i (.int .u8 0) ht hu hi hz ⟨g,0,none⟩ n cap xs (by rw [hsize];simpa using hxl) holds s (by omega) (by omega) (by rw [hby];exact growslice_fits (by omega) (by omega))
     rw [hr] at h1
     cases h1
     have hg':some w.heap.size=some g':=hg'
     cases hg'
     exact .inr (Nat.le_refl _)
def JB (i:TypeInfo):Bool:=match i.zero with | some (.int .u8 z)=>decide (z=0) | _=>false
theorem Og {i:TypeInfo} (h:JB i=true):i.zero=some (.int .u8 0):=by
 unfold JB at h
 split at h
 · rename_i z hz
   have:z=0:=by simpa using h
   rw [hz,this]
 · cases h
def Px (P:Program) (rd:Nat->aH) (o:Oper) (t:Nat->AV):Option CE:=match o.op with
 | .call { callee:=.builtin .append,args,argTypes }=>(match argTypes.toList,args.toList with
   | [t1,t2],[s,x]=>(match P.underlying t1,P.underlying t2,sv (ev t s),JO (ev t x) with
     | some (.slice e),some .string,.own a 1 0 n,some (.string str)=>(match P.info? e,fT (rd a) 1 n with
       | some inf,some (ty,B)=>(match Nat.beq inf.size 1&&Nat.beq inf.bytes 1&&ty==e&&JB inf,tY B n 1 (str.size,none,xM str) with
         | true,some B'=>some ⟨.own a 1 0 (n+str.size),[a],vN [a] [(a,B')],[a],[n+str.size<=140737488355328]⟩
         | _,_=>none)
       | _,_=>none)
     | _,_,_,_=>none)
   | _,_=>none)
 | _=>none
theorem Qv {P:Program} {o:Oper} {t:Nat->AV} {rd:Nat->aH} {e:CE} (h:Px P rd o t=some e) (ho:Hold e.ob):CE.Good P o t rd e:=by
 unfold Px at h
 split at h
 case h_2=>cases h
 rename_i args ats hop
 split at h
 case h_2=>cases h
 rename_i t1 t2 s x hty hargs
 have h1:args=#[s,x]:=Array.ext' hargs
 have h2:ats=#[t1,t2]:=Array.ext' hty
 subst h1;subst h2
 split at h
 case h_2=>cases h
 rename_i el a n str hu hu2 hs0 hx0
 split at h
 case h_2=>cases h
 rename_i inf ty B hi hp
 split at h
 case h_2=>cases h
 rename_i B' hb happ
 cases h
 simp only [Bool.and_eq_true,beq_iff_eq,Nat.beq_eq] at hb
 obtain ⟨⟨⟨hsz,hby⟩,rfl⟩,hz⟩:=hb
 have hz:=Og hz
 have o1:=ho (n+str.size<=140737488355328) (by simp)
 intro M hM
 refine fJ fun H E w ac hC hT=>?_
 have hs:=xI (aT hT s)
 rw [hs0] at hs
 have hx:=iA hx0 (aT hT x)
 have hB:=hC.blk a
 rw [hM a (by simp)] at hB
 obtain ⟨hlv,hη,hm⟩:=hs
 obtain ⟨hκ,hnκ,hcont⟩:=Ti hB hp (by omega)
 have fin:∀ xs:List Value,w.ownsRow 0 ty 1 (ac.eval s) n xs->(ac.eval s).ownBlock=E.ι a->ones xs->Cont H E 1 n ty B xs ->
  ∃ v w' H' E',(execOp ac.eval o).run P w=.ok (.value v) w'/\Rel (.own a 1 0 (n+str.size)) H' E' v/\Conc H' E' w' (eF (vN [a] [(a,B')]) (fF [a] M))/\cO [a] H E w H' E' w':=by
  intro xs hown hob hxs hct
  obtain ⟨v',w',hrun,hown',hgrow,hat⟩:=Pz (ty:=o.type) hu hu2 hi hz hsz hby hown str (by unfold maxLen;omega) o1
  have hr2:∀ k,k<str.size->∀ j,j<1->∃ u,(Lib.strCells str)[k*1+j]? = some u/\Rel (xM str k j) H E0 u:=by
   intro k hk j hj
   obtain rfl:j=0:=by omega
   have hk2:k<str.data.toList.length:=by simpa using hk
   refine ⟨.int .u8 ((str.data.toList.getD k 0).toNat),?_,rfl,rfl⟩
   simp [Lib.strCells,List.getD,hk2,hk]
  obtain ⟨hc2,hcap⟩:=wW (src:=(str.size,none,xM str)) hct hown.1 (by rw [Lib.strCells_length];simp) (fun l hl=>by cases hl) (fun _=>hr2) happ
  rw [hob] at hgrow hat
  obtain ⟨E',hr,hc,hev⟩:=Sm hC hlv hxs (fun y hy=>Lib.strCells_oneCell str y hy) hown' hgrow hat hc2 hcap
  refine ⟨v',w',H,E',by simp [execOp,hop,resolve,invoke,builtin,hx,hrun],hr,hc.eqv fun k=>?_,hev⟩
  exact sJ [a] [(a,B')] M k
 cases hι:E.ι a with
 | none =>
   rw [hι] at hm hcont
   obtain ⟨_,rfl,hv⟩:=hm
   exact fin [] (by rw [hv];exact ⟨by simp,.inl ⟨rfl,rfl⟩⟩) (by rw [hv];exact hι.symm) (fun y hy=>by cases hy) (hcont rfl)
 | some b =>
   rw [hι] at hm hcont
   obtain ⟨ad,hv,had⟩:=hm
   obtain ⟨vs,g1,g2,g3,g4⟩:=hcont
   rw [had.1 (.inl rfl)] at hv
   have hle:n*1<=E.κ a*1:=Nat.mul_le_mul_right _ hnκ
   refine fin _ ?_ (by rw [hv];exact hι.symm) g3 g4
   rw [hv]
   exact ⟨by simp;omega,.inr ⟨b,E.κ a,vs,by simp,Nat.zero_le _,g1,by omega,hκ,g2,rfl⟩⟩
open Go.MapKept (IsKey run_checkKey run_findKey heap_set)
def taM (P:Program) (o:Oper) (t:Nat->AV):Option CE :=
 match o.op with
 | .typeAssert x _ asserted ok=>(match ev t x with
   | .ifc ty v=>(match P.underlying asserted with
     | some (.interface want)=>(match P.info? ty with
       | some i=>(match (lacking want i.methods).isEmpty with
         | true=>some ⟨sS ok (.ifc ty v) (.s (.bool true)),[],[],[],[]⟩
         | false=>(match ok,qo P asserted with
           | true,some z=>some ⟨sS true z (.s (.bool false)),[],[],[],[]⟩
           | _,_=>none))
       | none=>none)
     | some d=>(match Nat.beq ty asserted with
       | true=>some ⟨sS ok v (.s (.bool true)),[],[],[],[]⟩
       | false=>(match ok,qo P asserted with
          | true,some z=>some ⟨sS true z (.s (.bool false)),[],[],[],[]⟩
          | _,_=>none))
     | none=>none)
   | .s .nilIface=>(match ok,P.underlying asserted,qo P asserted with
     | true,some _,some z=>some ⟨sS true z (.s (.bool false)),[],[],[],[]⟩
     | _,_,_=>none)
   | _=>none)
 | _=>none
theorem aa8 {P:Program} {rd:Nat->aH} {o:Oper} {t:Nat->AV} {e:CE} (h:taM P o t=some e):CE.Good P o t rd e:=by
 unfold taM at h
 split at h
 case h_2=>cases h
 rename_i x xt asserted ok hop
 have go:∀ {r:AV},(∀ H E (w:World) (u:Value),Rel (ev t x) H E u->∃ v,(Instr.typeAssert u xt asserted ok).run P w=.ok v w/\Rel r H E v)->CE.Good P o t rd ⟨r,[],[],[],[]⟩:=by
  intro r hr M hM
  refine fJ fun H E w a hC hT=>?_
  obtain ⟨v,q1,q2⟩:=hr H E w (a.eval x) (aT hT x)
  exact ⟨v,w,H,E,by simp [execOp,hop,q1,Result.andThen],q2,hC,cO.refl _ _ _ _⟩
 split at h
 · rename_i ty v hx
   rw [hx] at go
   split at h
   · rename_i want hu
     split at h
     case h_2=>cases h
     rename_i i hi
     split at h
     · rename_i hl
       cases h
       refine go fun H E w u hr=>?_
       obtain ⟨x',rfl,hx'⟩:=hr
       have hl:lacking want i.methods=[]:=by simpa using hl
       cases ok with
       | true=>exact ⟨_,run_typeAssert_has hu hi hl,⟨#[.iface ty x',.bool true],rfl,_,[.bool true],rfl,⟨x',rfl,hx'⟩,.bool true,[],rfl,⟨rfl,rfl⟩,rfl⟩⟩
       | false=>exact ⟨.iface ty x',by simp [Instr.typeAssert,run_underlying hu,typeInfo,hi,missingMethod_none hl,Result.andThen],⟨x',rfl,hx'⟩⟩
     · rename_i hl
       split at h
       case h_2=>cases h
       rename_i z hz
       cases h
       refine go fun H E w u hr=>?_
       obtain ⟨x',rfl,hx'⟩:=hr
       have hl:lacking want i.methods≠[]:=by simpa using hl
       obtain ⟨m,hm⟩:=missingMethod_some hl
       obtain ⟨zv,hz1,hz2⟩:=mF H E w hz
       exact ⟨.tuple #[zv,.bool false],by simp [Instr.typeAssert,run_underlying hu,typeInfo,hi,hm,hz1,Result.andThen],⟨#[zv,.bool false],rfl,zv,[.bool false],rfl,hz2,.bool false,[],rfl,⟨rfl,rfl⟩,rfl⟩⟩
   · rename_i d hu hd
     split at h
     · rename_i ht
       have ht:=Nat.eq_of_beq_eq_true ht
       subst ht
       cases h
       refine go fun H E w u hr=>?_
       obtain ⟨x',rfl,hx'⟩:=hr
       have hne:∀ ms,d≠.interface ms:=fun ms e=>hu ms e
       cases ok with
       | true=>exact ⟨.tuple #[x',.bool true],by cases d<;>first | exact absurd rfl (hne _) | simp [Instr.typeAssert,run_underlying hd,Result.andThen],⟨#[x',.bool true],rfl,_,[.bool true],rfl,hx',.bool true,[],rfl,⟨rfl,rfl⟩,rfl⟩⟩
       | false=>exact ⟨x',by cases d<;>first | exact absurd rfl (hne _) | simp [Instr.typeAssert,run_underlying hd,Result.andThen],hx'⟩
     · rename_i ht
       have ht:ty≠asserted:=fun e=>by subst e;simp at ht
       split at h
       case h_2=>cases h
       rename_i z hz
       cases h
       refine go fun H E w u hr=>?_
       obtain ⟨x',rfl,hx'⟩:=hr
       have hne:∀ ms,d≠.interface ms:=fun ms e=>hu ms e
       obtain ⟨zv,hz1,hz2⟩:=mF H E w hz
       refine ⟨.tuple #[zv,.bool false],?_,⟨#[zv,.bool false],rfl,zv,[.bool false],rfl,hz2,.bool false,[],rfl,⟨rfl,rfl⟩,rfl⟩⟩
       cases d<;>first | exact absurd rfl (hne _) | simp [Instr.typeAssert,run_underlying hd,ht,hz1,Result.andThen]
   · cases h
 · rename_i hx
   rw [hx] at go
   split at h
   case h_2=>cases h
   rename_i d z hd hz
   cases h
   refine go fun H E w u hr=>?_
   have hu:u=.nilIface:=hr.1
   subst hu
   obtain ⟨zv,hz1,hz2⟩:=mF H E w hz
   refine ⟨.tuple #[zv,.bool false],?_,⟨#[zv,.bool false],rfl,zv,[.bool false],rfl,hz2,.bool false,[],rfl,⟨rfl,rfl⟩,rfl⟩⟩
   cases d<;>simp [Instr.typeAssert,run_underlying hd,hz1,Result.andThen]
 · cases h
def JX (P:Program) (rd:Nat->aH) (o:Oper) (t:Nat->AV):Option CE:=none
theorem U5 {P:Program} {rd:Nat->aH} {o:Oper} {t:Nat->AV} {e:CE} (h:JX P rd o t=some e):CE.Good P o t rd e:=by
 simp [JX] at h
def JJ (P:Program) (rd:Nat->aH) (nid:Nat) (o:Oper) (t:Nat->AV):Option CE:=none
theorem M5 {P:Program} {rd:Nat->aH} {nid:Nat} {o:Oper} {t:Nat->AV} {e:CE} (hd:∀ k,nid<=k->rd k=.dead) (h:JJ P rd nid o t=some e):CE.Good P o t rd e:=by
 simp [JJ] at h
def Pk (rd:Nat->aH) (o:Oper) (t:Nat->AV):Option CE:=none
theorem Ql {P:Program} {rd:Nat->aH} {o:Oper} {t:Nat->AV} {e:CE} (h:Pk rd o t=some e):CE.Good P o t rd e:=by
 simp [Pk] at h
def J4 (rd:Nat->aH) (o:Oper) (t:Nat->AV):Option CE:=none
theorem Nj {P:Program} {rd:Nat->aH} {o:Oper} {t:Nat->AV} {e:CE} (h:J4 rd o t=some e):CE.Good P o t rd e:=by
 simp [J4] at h
def glM (P:Program) (o:Oper):Option CE :=
 match o.op with
 | .load ty (.global g)=>(match isAgg P ty,P.underlying ty,(default:kT).hs.find? fun p=>Nat.beq p.1 g with
   | false,some _,some p=>some ⟨.ifc p.2.1 (.agg [.s p.2.2]),[],[],[],[]⟩
   | _,_,_=>none)
 | _=>none
theorem aat {P:Program} {rd:Nat->aH} {o:Oper} {t:Nat->AV} {e:CE} (h:glM P o=some e):CE.Good P o t rd e:=by
 unfold glM at h
 split at h
 case h_2=>cases h
 rename_i ty g hop
 split at h
 case h_2=>cases h
 rename_i d p hagg hu hp
 cases h
 have hmem:=List.mem_of_find?_eq_some hp
 have hg:=List.find?_some hp
 have hg:=Nat.eq_of_beq_eq_true hg
 intro M hM
 refine fJ fun H E w a hC hT=>?_
 obtain ⟨hs,hx⟩:=hC.tf.2 p hmem
 have hcell:=AB (b:=true) hC.imm hC.tf.1 hx
 rw [hg] at hcell
 refine ⟨_,w,H,E,?_,⟨_,rfl,_,rfl,_,[],rfl,⟨rfl,hs⟩,rfl⟩,hC,cO.refl _ _ _ _⟩
 have h1:=je w ⟨d,hu⟩
 rw [hagg] at h1
 simp [execOp,hop,Act.eval,Instr.loadAt,Instr.sureAddr,loadVar,h1,hcell,Result.andThen]
def QC (P:Program) (rd:Nat->aH) (nid:Nat) (o:Oper) (t:Nat->AV):Option CE :=
 match o.op with
 | .lookup ..=>Qh P rd o t
 | .mapUpdate ..=>WT P rd o t
 | .insert ..=>WT P rd o t
 | .makeMap ..=>mkM P rd nid o t
 | .typeAssert ..=>taM P o t
 | .range ..=>JJ P rd nid o t
 | .next ..=>Pk rd o t
 | .load ..=>glM P o
 | .entry ..=>J4 rd o t
 | .call { callee:=.builtin .len,.. }=>abS P rd o t
 | .call { callee:=.builtin .delete,.. }=>JX P rd o t
 | _=>none
theorem Ry {P:Program} {rd:Nat->aH} {nid:Nat} {o:Oper} {t:Nat->AV} {e:CE} (hd:∀ k,nid<=k->rd k=.dead) (h:QC P rd nid o t=some e):CE.Good P o t rd e:=by
 unfold QC at h
 split at h
 · exact O7 h
 · exact MK h
 · exact MK h
 · exact aaJ hd h
 · exact aa8 h
 · exact M5 hd h
 · exact Ql h
 · exact aat h
 · exact Nj h
 · exact V3 h
 · exact U5 h
 · cases h
end Go.Ax
