import Derived.Laws.MakeOwn
import Derived.Laws.BytesString
import Derived.Test.YtffkiommagljeaaGreatDoorE24
set_option linter.unusedVariables false
set_option linter.unusedSimpArgs false
set_option linter.unusedSectionVars false
namespace Go.Ax
open Go
variable [Inhabited Gl0]
theorem runs_stepZ {P:Program} {o:Oper} {t:Nat->AV} {M:List Blk} {e:CE}
 (h:∀ H E w a,Conc H E w M->RelT t H E a->∃ v w' H' E',(execOp a.eval o).run P w=.ok (.value v) w'/\Rel e.r H' E' v/\Conc H' E' w' (applyW e.wr (killM e.kl M))/\Evol e.kl H E w H' E' w'):StepT P o t M e:=by
 intro H E w a K Q hC hT hd hk
 obtain ⟨v,w',H',E',hv,h1,h2,h3⟩:=h H E w a hC hT
 unfold Oper.wp
 rw [hv]
 exact hk v w' H' E' h1 h2 h3
def scV:AV->Option Value
 | .s v=>some v
 | .y v=>some v
 | _=>none
theorem scV_ok {x:AV} {v:Value} (h:scV x=some v) {H:HH} {E:Env} {u:Value} (hr:Rel x H E u):u=v:=by
 cases x<;>simp only [scV] at h<;>first | (cases h;exact hr.1) | cases h
def isS:AV->Bool
 | .s _=>true
 | _=>false
def ansV (known:Bool) (b:Bool) (v:Value) (rd:List Nat):Option CE:=match known with
 | true=>(match b with | true=>some ⟨.s v,rd,[],[],[]⟩ | false=>none)
 | false=>some ⟨.y v,rd,[],[],[b=true]⟩
theorem ansV_ok {P:Program} {o:Oper} {t:Nat->AV} {rdf:Nat->Blk} {known b:Bool} {v:Value} {rd:List Nat} {e:CE} (h:ansV known b v rd=some e) (hs:scalar v=true) (ho:Hold e.ob)
 (hr:b=true->∀ M,(∀ i∈rd,getM M i=rdf i)->∀ H E w a,Conc H E w M->RelT t H E a->(execOp a.eval o).run P w=.ok (.value v) w):CE.Good P o t rdf e:=by
 intro M hM
 cases known with
 | true =>
   cases b with
   | false=>cases h
   | true =>
     cases h
     exact runs_stepZ fun H E w a hC hT=>⟨v,w,H,E,hr rfl M hM H E w a hC hT,⟨rfl,hs⟩,hC,Evol.refl _ _ _ _⟩
 | false =>
   cases h
   exact runs_stepZ fun H E w a hC hT=>⟨v,w,H,E,hr (ho (b=true) (by simp)) M hM H E w a hC hT,⟨rfl,hs⟩,hC,Evol.refl _ _ _ _⟩
def ibV (op:BinOp) (k:IntKind) (a b:Int):Option (Bool×Int):=match op with
 | .quo=>some (decide (b≠0),k.wrap (a.tdiv b))
 | .rem=>some (decide (b≠0),a.tmod b)
 | .and=>some (true,k.wrap (BitVec.ofInt k.bits a &&& BitVec.ofInt k.bits b).toNat)
 | .or=>some (true,k.wrap (BitVec.ofInt k.bits a ||| BitVec.ofInt k.bits b).toNat)
 | .xor=>some (true,k.wrap (BitVec.ofInt k.bits a ^^^ BitVec.ofInt k.bits b).toNat)
 | _=>none
def shV (op:BinOp) (k:IntKind) (a b:Int):Option (Bool×Int):=match op with
 | .shl=>some (decide (0<=b),k.wrap (a*2 ^ (min b.toNat k.bits)))
 | .shr=>some (decide (0<=b),a.fdiv (2 ^ (min b.toNat k.bits)))
 | _=>none
def binZ (o:Oper) (t:Nat->AV):Option CE :=
 match o.op with
 | .binOp op _ x y _=>(match scV (ev t x),scV (ev t y) with
   | some (.int k a),some (.int k' b)=>(match shV op k a b with
     | some (c,v)=>ansV (isS (ev t x)&&isS (ev t y)) c (.int k v) []
     | none=>if k=k' then (match ibV op k a b with | some (c,v)=>ansV (isS (ev t x)&&isS (ev t y)) c (.int k v) [] | none=>none) else none)
   | some (.string a),some (.string b)=>(match op with
     | .add=>ansV (isS (ev t x)&&isS (ev t y)) (decide (a.size+b.size<=9223372036854775807)) (.string (a++b)) []
     | _=>none)
   | _,_=>none)
 | _=>none
theorem binZ_ok {P:Program} {o:Oper} {t:Nat->AV} {rd:Nat->Blk} {e:CE} (h:binZ o t=some e) (ho:Hold e.ob):CE.Good P o t rd e:=by
 unfold binZ at h
 split at h
 case h_2=>cases h
 rename_i op ty x y f hop
 split at h
 · rename_i k a k' b hx hy
   split at h
   · rename_i c v hv
     refine ansV_ok h rfl ho fun hc M _ H E w ac hC hT=>?_
     have h1:=scV_ok hx (rel_ev hT x)
     have h2:=scV_ok hy (rel_ev hT y)
     unfold shV at hv
     split at hv
     · obtain ⟨rfl,rfl⟩:=Prod.mk.inj (Option.some.inj hv)
       have hb:0<=b:=of_decide_eq_true hc
       simp [execOp,hop,h1,h2,eqGuard,binOp,Op.shift,Int.not_lt.2 hb]
     · obtain ⟨rfl,rfl⟩:=Prod.mk.inj (Option.some.inj hv)
       have hb:0<=b:=of_decide_eq_true hc
       simp [execOp,hop,h1,h2,eqGuard,binOp,Op.shift,Int.not_lt.2 hb]
     · cases hv
   · split at h
     case isFalse=>cases h
     rename_i hk
     subst hk
     split at h
     case h_2=>cases h
     rename_i c v hv
     refine ansV_ok h rfl ho fun hc M _ H E w ac hC hT=>?_
     have h1:=scV_ok hx (rel_ev hT x)
     have h2:=scV_ok hy (rel_ev hT y)
     unfold ibV at hv
     split at hv
     · obtain ⟨rfl,rfl⟩:=Prod.mk.inj (Option.some.inj hv)
       have hb:b≠0:=of_decide_eq_true hc
       simp [execOp,hop,h1,h2,eqGuard,binOp,Op.intDiv,hb]
     · obtain ⟨rfl,rfl⟩:=Prod.mk.inj (Option.some.inj hv)
       have hb:b≠0:=of_decide_eq_true hc
       simp [execOp,hop,h1,h2,eqGuard,binOp,Op.intDiv,hb]
     · cases hv
       simp [execOp,hop,h1,h2,eqGuard,binOp,Op.intBits]
     · cases hv
       simp [execOp,hop,h1,h2,eqGuard,binOp,Op.intBits]
     · cases hv
       simp [execOp,hop,h1,h2,eqGuard,binOp,Op.intBits]
     · cases hv
 · rename_i a b hx hy
   split at h
   case h_2=>cases h
   refine ansV_ok h rfl ho fun hc M _ H E w ac hC hT=>?_
   have h1:=scV_ok hx (rel_ev hT x)
   have h2:=scV_ok hy (rel_ev hT y)
   have hb:=of_decide_eq_true hc
   have hm:IntKind.i64.max=9223372036854775807:=by decide
   have hn:¬ (9223372036854775807<((a.size:Int)+(b.size:Int))):=by omega
   simp [execOp,hop,h1,h2,eqGuard,binOp,Op.stringOp,hm,hn]
 · cases h
def byteAt (s:ByteArray) (q:Int):Int:=((s.data.toList.getD q.toNat 0).toNat:Nat)
def idxZ (P:Program) (o:Oper) (t:Nat->AV):Option CE :=
 match o.op with
 | .index ty x i=>(match P.underlying ty,scV (ev t x),scV (ev t i) with
   | some .string,some (.string s),some (.int _ q)=>ansV (isS (ev t x)&&isS (ev t i)) (decide (0<=q)&&decide (q<(s.size:Nat))) (.int .u8 (byteAt s q)) []
   | _,_,_=>none)
 | _=>none
theorem idxZ_ok {P:Program} {o:Oper} {t:Nat->AV} {rd:Nat->Blk} {e:CE} (h:idxZ P o t=some e) (ho:Hold e.ob):CE.Good P o t rd e:=by
 unfold idxZ at h
 split at h
 case h_2=>cases h
 rename_i ty x i hop
 split at h
 case h_2=>cases h
 rename_i s k q hu hx hi
 refine ansV_ok h rfl ho fun hc M _ H E w ac hC hT=>?_
 have h1:=scV_ok hx (rel_ev hT x)
 have h2:=scV_ok hi (rel_ev hT i)
 simp only [Bool.and_eq_true,decide_eq_true_eq] at hc
 have hlt:q.toNat<s.size:=by omega
 have hb:s[q.toNat]? = some (s[q.toNat]'hlt):=getElem?_pos s q.toNat hlt
 have hv:byteAt s q=(s[q.toNat]'hlt).toNat:=by
  unfold byteAt
  rw [List.getD,Array.getElem?_toList,Array.getElem?_eq_getElem (by simpa using hlt)]
  rfl
 simp [execOp,hop,h1,h2,Instr.index,run_underlying hu,asIntOf,hc.1,hb,hv]
def u8Of:AV->Option Int
 | .s (.int .u8 n)=>some n
 | .y (.int .u8 n)=>some n
 | _=>none
def isU8 (a:AV):Bool:=match u8Of a with | some _=>true | none=>false
def byteOf (a:AV):UInt8:=match u8Of a with | some n=>UInt8.ofNat n.toNat | none=>0
def strL (l:List AV):ByteArray:=⟨(l.map byteOf).toArray⟩
def allU8:List AV->Bool
 | []=>true
 | a::l=>isU8 a&&allU8 l
def allS:List AV->Bool
 | []=>true
 | a::l=>isS a&&allS l
def bytesN (n:Nat) (d:Nat->Nat->AV):List AV:=(List.range n).map fun k=>d k 0
def strN (n:Nat) (d:Nat->Nat->AV):ByteArray:=strL (bytesN n d)
def tabZ (d:Nat->Nat->AV):Nat->Nat->List AV
 | _,0=>[]
 | k,n+1=>d k 0::tabZ d (k+1) n
def strE (known:Bool) (l:List AV) (rd:List Nat):Option CE:=match allU8 l with
 | true=>(match known&&allS l with | true=>some ⟨.s (.string (strL l)),rd,[],[],[]⟩ | false=>some ⟨.y (.string (strL l)),rd,[],[],[]⟩)
 | false=>none
def closedB (rd:Nat->Blk):AV->Bool
 | .sl ..=>true
 | .own i _ _ _=>(match rd i with | .lst ..=>true | _=>false)
 | .s _=>true
 | _=>false
def toStr (P:Program) (rd:Nat->Blk) (o:Oper) (t:Nat->AV):Option CE :=
 match o.op with
 | .convert src dst x=>(match P.underlying src,P.underlying dst with
   | some (.slice el),some .string=>(match P.underlying el,srcOf rd 1 (sv (ev t x)) with
     | some (.int .u8),some (n,some l,_)=>(match Nat.beq (len l) n with | true=>strE true l (refOf (sv (ev t x))) | false=>none)
     | some (.int .u8),some (n,none,d)=>(match closedB rd (ev t x) with
       | true=>strE true (tabZ d 0 n) (refOf (sv (ev t x)))
       | false=>some ⟨.y (.string (strN n d)),refOf (sv (ev t x)),[],[],[∀ k,k<n->isU8 (d k 0)=true]⟩)
     | _,_=>none)
   | _,_=>none)
 | _=>none
theorem u8Of_ok {a:AV} {n:Int} (h:u8Of a=some n) {H:HH} {E:Env} {v:Value} (hr:Rel a H E v):v=.int .u8 n:=by
 unfold u8Of at h
 split at h
 · cases h;exact hr.1
 · cases h;exact hr.1
 · cases h
theorem bytes_run {P:Program} {w:World} {A:Option Addr} {m c:Nat} {news:List Value} {L:List AV} {H:HH} {E:Env} (hl:news.length=m) (hA:A=none->m=0) (hcell:∀ ad,A=some ad->∀ j u,news[j]? = some u->w.cell? (ad.add j)=some u)
 (hr:RelL L H E news) (hu:allU8 L=true):(Conv.bytesToString (.slice A m c)).run P w=.ok (.string (strL L)) w:=by
 have key:∀ (L:List AV) (news:List Value),RelL L H E news->allU8 L=true->∃ ns:List Int,news=ns.map (Value.int .u8)/\ns.map (fun n=>UInt8.ofNat n.toNat)=L.map byteOf:=by
  intro L
  induction L with
  | nil=>intro news h _;have h:news=[]:=h;subst h;exact ⟨[],rfl,rfl⟩
  | cons a L ih =>
    intro news h hu
    obtain ⟨v,r,rfl,h1,h2⟩:=h
    simp only [allU8,Bool.and_eq_true] at hu
    obtain ⟨ns,rfl,hns⟩:=ih r h2 hu.2
    obtain ⟨n,hn⟩:∃ n,u8Of a=some n:=by
     have:=hu.1
     unfold isU8 at this
     cases hq:u8Of a with
     | some n=>exact ⟨n,rfl⟩
     | none=>rw [hq] at this;cases this
    exact ⟨n::ns,by rw [u8Of_ok hn h1];rfl,by simp [hns,byteOf,hn]⟩
 obtain ⟨ns,rfl,hns⟩:=key L news hr hu
 have fold:∀ (ns:List Int) (s:ByteArray),ns.foldl (fun r n=>r.push (UInt8.ofNat n.toNat)) s=⟨s.data++(ns.map fun n=>UInt8.ofNat n.toNat).toArray⟩:=by
  intro ns
  induction ns with
  | nil=>intro s;simp
  | cons n ns ih =>
    intro s
    rw [List.foldl_cons,ih]
    simp [ByteArray.push]
 cases A with
 | none =>
   have hm:=hA rfl
   subst hm
   have:ns=[]:=by simpa using hl
   subst this
   simp only [List.map_nil] at hns
   simp only [strL,<- hns]
   simp [Conv.bytesToString,Sem.run_pure]
   rfl
 | some ad =>
   have hload:(loadCells ad m).run P w=.ok (ns.map (Value.int .u8)).toArray w:=by
    have:=run_loadCells_list (P:=P) w ad (ns.map (Value.int .u8)) fun j u hj=>hcell ad rfl j u hj
    rw [hl] at this
    exact this
   rw [run_bytesToString w ad m c ns hload,fold]
   simp only [strL,hns]
   simp
theorem tabZ_eq (d:Nat->Nat->AV):∀ (n q:Nat),tabZ d q n=(List.range' q n).map fun k=>d k 0
 | 0,_=>rfl
 | n+1,q=>by rw [tabZ,tabZ_eq d n (q+1),List.range'_succ];rfl
theorem bytesN_eq (n:Nat) (d:Nat->Nat->AV):bytesN n d=tabZ d 0 n:=by rw [bytesN,tabZ_eq,List.range_eq_range']
theorem relL_tabZ {H:HH} {E:Env} {d:Nat->Nat->AV}:∀ (n q:Nat) (news:List Value),news.length=n->(∀ k,k<n->∃ u,news[k]? = some u/\Rel (d (q+k) 0) H E u)->RelL (tabZ d q n) H E news
 | 0,_,news,hl,_=>by
   have:news=[]:=by simpa using hl
   exact this
 | n+1,q,news,hl,h=>by
   obtain ⟨v,r,rfl⟩:∃ v r,news=v::r:=by
    cases news with
    | nil=>simp at hl
    | cons v r=>exact ⟨v,r,rfl⟩
   refine ⟨v,r,rfl,?_,relL_tabZ n (q+1) r (by simpa using hl) fun k hk=>?_⟩
   · obtain ⟨u,hu,hr⟩:=h 0 (by omega)
     simp at hu
     subst hu
     exact hr
   · obtain ⟨u,hu,hr⟩:=h (k+1) (by omega)
     refine ⟨u,by simpa using hu,?_⟩
     rw [show q+1+k=q+(k+1) by omega];exact hr
theorem allU8_tabZ (d:Nat->Nat->AV):∀ (n q:Nat),(∀ k,k<n->isU8 (d (q+k) 0)=true)->allU8 (tabZ d q n)=true
 | 0,_,_=>rfl
 | n+1,q,h=>by
   simp only [tabZ,allU8,Bool.and_eq_true]
   exact ⟨h 0 (by omega),allU8_tabZ d n (q+1) fun k hk=>by rw [show q+1+k=q+(k+1) by omega];exact h (k+1) (by omega)⟩
theorem toStr_ok {P:Program} {o:Oper} {t:Nat->AV} {rd:Nat->Blk} {e:CE} (h:toStr P rd o t=some e) (ho:Hold e.ob):CE.Good P o t rd e:=by
 unfold toStr at h
 split at h
 case h_2=>cases h
 rename_i src dst x hop
 split at h
 case h_2=>cases h
 rename_i el hsrc hdst
 have go:∀ (L:List AV) (v:AV) (rds:List Nat),P.underlying el=some (.int .u8)->allU8 L=true->(v=.s (.string (strL L))∨v=.y (.string (strL L))) ->
  (∀ M,(∀ i∈rds,getM M i=rd i)->∀ H E w a,Conc H E w M->RelT t H E a->∃ A m c,∃ news:List Value,a.eval x=.slice A m c/\news.length=m/\(A=none->m=0)/\(∀ ad,A=some ad->∀ j u,news[j]? = some u->w.cell? (ad.add j)=some u)/\∃ E',RelL L H E' news) ->
  ∀ ob,CE.Good P o t rd ⟨v,rds,[],[],ob⟩:=by
  intro L v rds hel hu hv hsrc2 ob M hM
  refine runs_stepZ fun H E w a hC hT=>?_
  obtain ⟨A,m,c,news,hx,hl,hA,hcell,E',hr⟩:=hsrc2 M hM H E w a hC hT
  have hrun:=bytes_run (P:=P) (c:=c) hl hA hcell hr hu
  refine ⟨.string (strL L),w,H,E,?_,?_,hC,Evol.refl _ _ _ _⟩
  · simp [execOp,hop,hx,run_convert_bytes_string w src dst el A m c hsrc hel hdst,hrun]
  · rcases hv with rfl | rfl<;>exact ⟨rfl,rfl⟩
 have hcong:∀ M,(∀ i∈refOf (sv (ev t x)),getM M i=rd i)->srcOf (getM M) 1 (sv (ev t x))=srcOf rd 1 (sv (ev t x)):=fun M hM=>srcOf_congr hM
 split at h
 · rename_i n l d hel hs
   split at h
   case h_2=>cases h
   rename_i hn
   unfold strE at h
   split at h
   case h_2=>cases h
   rename_i hu
   have hsrc2:∀ M,(∀ i∈refOf (sv (ev t x)),getM M i=rd i)->∀ H E w a,Conc H E w M->RelT t H E a->∃ A m c,∃ news:List Value,a.eval x=.slice A m c/\news.length=m/\(A=none->m=0)/\(∀ ad,A=some ad->∀ j u,news[j]? = some u->w.cell? (ad.add j)=some u)/\∃ E',RelL l H E' news:=by
    intro M hM H E w a hC hT
    obtain ⟨A,c,news,h1,h2,h3,h4,h5,h6,h7⟩:=srcOf_ok hC (rel_sv (rel_ev hT x)) (Nat.zero_lt_one) ((hcong M hM).trans hs)
    exact ⟨A,n,c,news,h1,by simpa using h2,h3,h4,E,h6 l rfl⟩
   split at h
   · cases h;exact go l _ _ hel hu (.inl rfl) hsrc2 _
   · cases h;exact go l _ _ hel hu (.inr rfl) hsrc2 _
 · rename_i n d hel hs
   have hsrc2:∀ M,(∀ i∈refOf (sv (ev t x)),getM M i=rd i)->∀ H E w a,Conc H E w M->RelT t H E a->∃ A m c,∃ news:List Value,a.eval x=.slice A m c/\news.length=m/\(A=none->m=0)/\(∀ ad,A=some ad->∀ j u,news[j]? = some u->w.cell? (ad.add j)=some u)/\∃ E',RelL (tabZ d 0 n) H E' news:=by
    intro M hM H E w a hC hT
    obtain ⟨A,c,news,h1,h2,h3,h4,h5,h6,h7⟩:=srcOf_ok hC (rel_sv (rel_ev hT x)) (Nat.zero_lt_one) ((hcong M hM).trans hs)
    refine ⟨A,n,c,news,h1,by simpa using h2,h3,h4,E0,relL_tabZ n 0 news (by simpa using h2) fun k hk=>?_⟩
    obtain ⟨u,hu,hr⟩:=h7 rfl k hk 0 (by omega)
    refine ⟨u,by simpa using hu,?_⟩
    rw [Nat.zero_add];exact hr
   split at h
   · unfold strE at h
     split at h
     case h_2=>cases h
     rename_i hu
     split at h
     · cases h;exact go _ _ _ hel hu (.inl rfl) hsrc2 _
     · cases h;exact go _ _ _ hel hu (.inr rfl) hsrc2 _
   · cases h
     have hob:=ho _ (List.mem_singleton.2 rfl)
     refine go (tabZ d 0 n) _ _ hel (allU8_tabZ d n 0 fun k hk=>by rw [Nat.zero_add];exact hob k hk) (.inr ?_) hsrc2 _
     rw [strN,bytesN_eq]
 · cases h
def mkZ (P:Program) (nid:Nat) (o:Oper) (t:Nat->AV):Option CE :=
 match o.op with
 | .makeSlice ty l c=>(match P.underlying ty,scV (ev t l),scV (ev t c) with
   | some (.slice el),some (.int _ a),some (.int _ b)=>(match P.info? el,zeroL P el with
     | some i,some z=>(match Nat.ble 1 i.size&&Nat.beq (len z) i.size&&noRefL z with
       | true=>(match isS (ev t l)&&isS (ev t c) with
         | true=>(match decide (0<=a)&&decide (a<=b)&&decide ((i.bytes:Int)*b<=281474976710656)&&decide (b<=9223372036854775807) with
           | true=>some ⟨.own nid i.size 0 a.toNat,[nid],[(nid,.lst el i.size a.toNat (some b.toNat) (rep z a.toNat))],[],[]⟩
           | false=>none)
         | false=>some ⟨.own nid i.size 0 a.toNat,[nid],[(nid,.row el i.size a.toNat (some b.toNat) fun _ j=>get z j)],[],[0<=a,a<=b,(i.bytes:Int)*b<=281474976710656,b<=9223372036854775807]⟩)
       | false=>none)
     | _,_=>none)
   | _,_,_=>none)
 | _=>none
theorem made_take {zc:Array Value} {m n sz:Nat} (h:m<=n):(madeCells zc (n*sz)).toList.take (m*sz)=(madeCells zc (m*sz)).toList:=by
 have hle:m*sz<=n*sz:=Nat.mul_le_mul_right _ h
 apply List.ext_getElem?
 intro j
 rw [List.getElem?_take]
 by_cases hj:j<m*sz
 · rw [if_pos hj]
   simp [madeCells,hj,Nat.lt_of_lt_of_le hj hle]
 · rw [if_neg hj]
   simp [madeCells,Nat.le_of_not_lt hj]
theorem mkZ_ok {P:Program} {rd:Nat->Blk} {nid:Nat} {o:Oper} {t:Nat->AV} {e:CE} (hd:∀ k,nid<=k->rd k=.dead) (h:mkZ P nid o t=some e) (ho:Hold e.ob):CE.Good P o t rd e:=by
 unfold mkZ at h
 split at h
 case h_2=>cases h
 rename_i ty l c hop
 split at h
 case h_2=>cases h
 rename_i el k1 a k2 b hu hl hc
 split at h
 case h_2=>cases h
 rename_i i z hi hz
 split at h
 case h_2=>cases h
 rename_i hb
 simp only [Bool.and_eq_true,Nat.ble_eq,Nat.beq_eq,len_eq] at hb
 obtain ⟨⟨hs1,hzl⟩,hnz⟩:=hb
 have go:∀ (B:Blk),0<=a->a<=b->(i.bytes:Int)*b<=281474976710656->b<=9223372036854775807 ->
  (B=.lst el i.size a.toNat (some b.toNat) (rep z a.toNat)∨B=.row el i.size a.toNat (some b.toNat) fun _ j=>get z j)->∀ ob,CE.Good P o t rd ⟨.own nid i.size 0 a.toNat,[nid],[(nid,B)],[],ob⟩:=by
  intro B h0 h1 h2 h3 hB ob M hM
  refine runs_stepZ fun H E w ac hC hT=>?_
  have hdn:getM M nid=.dead:=(hM nid (by simp)).trans (hd nid (Nat.le_refl _))
  have e1:=scV_ok hl (rel_ev hT l)
  have e2:=scV_ok hc (rel_ev hT c)
  obtain ⟨i',zv,hi',hz',hrz,hoz⟩:=zeroL_ok H E hz
  rw [hi] at hi'
  cases hi'
  have hzs:zv.cells.size=i.size:=by have:=RelL.length hrz;simp at this;omega
  have hrun:=run_make (P:=P) w ty el i zv hu hi hz' k1 k2 a b h0 h1 h2 h3
  have hle:a.toNat<=b.toNat:=by omega
  have hmul:a.toNat*i.size<=b.toNat*i.size:=Nat.mul_le_mul_right _ hle
  obtain ⟨s1,s2,s3,s4⟩:=E.set_same nid (some w.heap.size) b.toNat a.toNat
  have hones:ones (madeCells zv.cells (b.toNat*i.size)).toList:=ones_rep hoz (by omega) _
  have hBok:BlkOk H (E.set nid (some w.heap.size) b.toNat a.toNat) (w.alloc (.cells (madeCells zv.cells (b.toNat*i.size)) el)) nid B:=by
   rcases hB with rfl | rfl
   · refine ⟨s1,by rw [s3,s4];exact ⟨rfl,hle⟩,by rw [s3];unfold maxLen;omega,fun q hq=>by cases hq;exact s3,?_⟩
     rw [s2]
     refine ⟨_,heap_alloc_new w _,fun x hx=>hones x (List.mem_of_mem_take hx),by rw [s3];exact size_madeCells _ _,?_⟩
     rw [made_take hle]
     exact RelL.env (set_via hC hdn) (rep_ok hrz hzs hs1 a.toNat)
   · refine ⟨s1,by rw [s3,s4];exact ⟨rfl,hle⟩,by rw [s3];unfold maxLen;omega,fun q hq=>by cases hq;exact s3,?_⟩
     rw [s2]
     refine ⟨_,heap_alloc_new w _,fun x hx=>hones x (List.mem_of_mem_take hx),by rw [s3];exact size_madeCells _ _,fun k hk j hj=>?_⟩
     have hlt:k*i.size+j<b.toNat*i.size:=by
      have:(k+1)*i.size<=b.toNat*i.size:=Nat.mul_le_mul_right _ (by omega)
      rw [Nat.add_mul] at this;omega
     have hjz:j<zv.cells.size:=by omega
     have hmod:(k*i.size+j) % zv.cells.size=j:=by
      rw [hzs,Nat.mul_comm,Nat.mul_add_mod];exact Nat.mod_eq_of_lt hj
     refine ⟨zv.cells[j],?_,?_⟩
     · simp only [madeCells,Array.getElem?_map,Array.getElem?_range,hlt,if_pos,Option.map_some]
       rw [hmod]
       simp [hjz]
     · have hz2:RelL z H E0 zv.cells.toList:=RelL.noRef _ hnz hrz
       exact relL_get hz2 j _ (by simp [hjz])
  have hconc:=alloc_conc (κ:=b.toNat) (η:=a.toNat) (B:=B) hC hdn (madeCells zv.cells (b.toNat*i.size)) el hBok
  refine ⟨.slice (some ⟨w.heap.size,0,none⟩) a.toNat b.toNat,_,H,_,by simp [execOp,hop,e1,e2,hrun],⟨s1,by rw [s3,s4];omega,?_⟩,hconc.1,hconc.2⟩
  rw [s2]
  exact ⟨some ⟨w.heap.size,0,none⟩,by rw [s3];simp,by simp⟩
 split at h
 · split at h
   case h_2=>cases h
   rename_i hcond
   cases h
   simp only [Bool.and_eq_true,decide_eq_true_eq] at hcond
   exact go _ hcond.1.1.1 hcond.1.1.2 hcond.1.2 hcond.2 (.inl rfl) _
 · cases h
   exact go _ (ho _ (by simp)) (ho _ (by simp)) (ho _ (by simp)) (ho _ (by simp)) (.inr rfl) _
def capZ (P:Program) (rd:Nat->Blk) (o:Oper) (t:Nat->AV):Option CE :=
 match o.op with
 | .call { callee:=.builtin .cap,args,argTypes }=>(match args.toList,argTypes.toList with
   | [x],[ty]=>(match P.underlying ty,ev t x with
     | some (.slice _),.own i _ lo _=>(match rd i with
       | .lst _ _ _ (some q) _=>some ⟨.s (.int .i64 ((q - lo:Nat):Int)),[i],[],[],[]⟩
       | .row _ _ _ (some q) _=>some ⟨.y (.int .i64 ((q - lo:Nat):Int)),[i],[],[],[]⟩
       | .trow _ _ _ (some q) _ _ _=>some ⟨.y (.int .i64 ((q - lo:Nat):Int)),[i],[],[],[]⟩
       | _=>none)
     | some (.slice _),.s (.slice none 0 0)=>some ⟨.s (.int .i64 0),[],[],[],[]⟩
     | _,_=>none)
   | _,_=>none)
 | _=>none
theorem capZ_ok {P:Program} {rd:Nat->Blk} {o:Oper} {t:Nat->AV} {e:CE} (h:capZ P rd o t=some e):CE.Good P o t rd e:=by
 unfold capZ at h
 split at h
 case h_2=>cases h
 rename_i args ats hop
 split at h
 case h_2=>cases h
 rename_i x ty hx hty
 have h1:args=#[x]:=Array.ext' hx
 have h2:ats=#[ty]:=Array.ext' hty
 subst h1;subst h2
 have run:∀ (a:Act) (w:World) (A:Option Addr) (n c:Nat) (el:TypeId),P.underlying ty=some (.slice el)->a.eval x=.slice A n c->(execOp a.eval o).run P w=.ok (.value (.int .i64 (c:Int))) w:=by
  intro a w A n c el hu hv
  simp [execOp,hop,resolve,invoke,builtin,hv,Builtin.cap_,run_underlying hu,goInt]
 split at h
 · rename_i el i sz lo n hu he
   have go:∀ (q:Nat) (r:AV),(r=.s (.int .i64 ((q - lo:Nat):Int))∨r=.y (.int .i64 ((q - lo:Nat):Int)))->(∀ H E w,BlkOk H E w i (rd i)->E.κ i=q)->CE.Good P o t rd ⟨r,[i],[],[],[]⟩:=by
    intro q r hr hq M hM
    refine runs_stepZ fun H E w a hC hT=>?_
    have hv:=rel_ev hT x
    rw [he] at hv
    obtain ⟨hl,hη,hm⟩:=hv
    have hκ:=hq H E w (by have:=hC.blk i;rwa [hM i (by simp)] at this)
    have hv2:∃ A,a.eval x=.slice A n (q - lo):=by
     rw [hκ] at hm hη
     split at hm
     · obtain ⟨A,h,_⟩:=hm;exact ⟨A,h⟩
     · rename_i hι
       obtain ⟨h0,h1,h⟩:=hm
       have hb:=hC.blk i
       rw [hM i (by simp)] at hb
       refine ⟨none,?_⟩
       rw [h,h1]
       have hq0:q=0:=by
        cases hB:rd i with
        | dead=>rw [hB] at hb;simp [BlkOk,hl] at hb
        | box ty' cs=>rw [hB] at hb;obtain ⟨_,b,vs,hb1,_⟩:=hb;rw [hι] at hb1;cases hb1
        | mp es ck=>rw [hB] at hb;obtain ⟨_,b,vs,hb1,_⟩:=hb;rw [hι] at hb1;cases hb1
        | mi kk vk has c=>rw [hB] at hb;obtain ⟨_,b,vs,ck,hb1,_⟩:=hb;rw [hι] at hb1;cases hb1
        | mit m since seen last=>rw [hB] at hb;obtain ⟨_,_,b,bm,hb1,_⟩:=hb;rw [hι] at hb1;cases hb1
        | any=>rw [hB] at hb;obtain ⟨_,b,o,hb1,_⟩:=hb;rw [hι] at hb1;cases hb1
        | tmap q has c n kn=>rw [hB] at hb;obtain ⟨_,b,_,_,_,hb1,_⟩:=hb;rw [hι] at hb1;cases hb1
        | trow ty' s2 n' cap c op zs=>rw [hB] at hb;obtain ⟨_,_,_,_,hb1⟩:=hb;rw [hι] at hb1;rw [<- hκ];exact hb1.1
        | lst ty' s2 n' cap cs=>rw [hB] at hb;obtain ⟨_,_,_,_,hb1⟩:=hb;rw [hι] at hb1;rw [<- hκ];exact hb1.1
        | row ty' s2 n' cap cs=>rw [hB] at hb;obtain ⟨_,_,_,_,hb1⟩:=hb;rw [hι] at hb1;rw [<- hκ];exact hb1
       rw [hq0];simp
    obtain ⟨A,hv2⟩:=hv2
    refine ⟨_,w,H,E,run a w A n (q - lo) el hu hv2,?_,hC,Evol.refl _ _ _ _⟩
    rcases hr with rfl | rfl<;>exact ⟨rfl,rfl⟩
   split at h
   · rename_i q cs hg
     cases h
     exact go q _ (.inl rfl) fun H E w hb=>by rw [hg] at hb;exact hb.2.2.2.1 q rfl
   · rename_i q cs hg
     cases h
     exact go q _ (.inr rfl) fun H E w hb=>by rw [hg] at hb;exact hb.2.2.2.1 q rfl
   · rename_i q c op zs hg
     cases h
     exact go q _ (.inr rfl) fun H E w hb=>by rw [hg] at hb;exact hb.2.2.2.1 q rfl
   · cases h
 · rename_i el hu he
   cases h
   intro M hM
   refine runs_stepZ fun H E w a hC hT=>?_
   have hv:=rel_ev hT x
   rw [he] at hv
   exact ⟨_,w,H,E,run a w none 0 0 el hu hv.1,⟨rfl,rfl⟩,hC,Evol.refl _ _ _ _⟩
 · cases h
def leafTy (P:Program):Nat->TypeId->Nat->Option TypeId
 | 0,_,_=>none
 | n+1,ty,k=>(match P.underlying ty with
   | some (.struct fs)=>(fs.toList.foldl (fun r f=>match r with
     | some x=>some x
     | none=>(match sizeT P f.type with
       | some s=>(match Nat.ble f.offset k&&Nat.ble (k+1) (f.offset+s) with | true=>leafTy P n f.type (k - f.offset) | false=>none)
       | none=>none)) none)
   | some (.slice el)=>(match k with | 0=>some el | _+1=>none)
   | _=>none)
def aggGo (P:Program) (ty:TypeId) (mask:Nat):List AV->Nat->Nat->Option (List AV×List (Nat×Blk))
 | [],_,_=>some ([],[])
 | a::r,k,nid=>(match mask.testBit k with
   | false=>(match aggGo P ty mask r (k+1) nid with | some (l,wr)=>some (a::l,wr) | none=>none)
   | true=>(match a,leafTy P 8 ty k with
     | .s (.slice none 0 0),some el=>(match P.info? el,aggGo P ty mask r (k+1) (nid+1) with
       | some i,some (l,wr)=>some (.own nid i.size 0 0::l,(nid,.row el i.size 0 none (fun _ _=>.junk))::wr)
       | _,_=>none)
     | _,_=>none))
def news (nid:Nat):Nat->List Nat
 | 0=>[]
 | n+1=>nid::news (nid+1) n
def aggZ (P:Program) (rd:Nat->Blk) (nid:Nat) (o:Oper) (t:Nat->AV) (mask:Nat):Option CE :=
 match o.op with
 | .build ty _=>(match yop P rd nid o t with
   | some e=>(match e.r,e.wr,e.kl with
     | .agg cs,[],[]=>(match aggGo P ty mask cs 0 nid with
       | some (l,wr)=>some ⟨.agg l,e.rd++news nid (len wr),wr,[],e.ob⟩
       | none=>none)
     | _,_,_=>none)
   | none=>none)
 | _=>none
theorem mem_news:∀ {n nid j:Nat},nid<=j->j<nid+n->j∈news nid n
 | 0,_,_,h1,h2=>by omega
 | n+1,nid,j,h1,h2=>by
   rw [news]
   rcases Nat.eq_or_lt_of_le h1 with e | e
   · subst e;exact List.mem_cons_self
   · exact List.mem_cons_of_mem _ (mem_news (n:=n) e (by omega))
theorem aggGo_dead {P:Program} {ty:TypeId} {mask:Nat}:∀ {cells:List AV} {k nid:Nat} {l:List AV} {wr:List (Nat×Blk)} {H:HH} {E:Env} {w:World} {M:List Blk} {vs:List Value},aggGo P ty mask cells k nid=some (l,wr)->Conc H E w M->RelL cells H E vs->(∀ j,nid<=j->j<nid+wr.length->getM M j=.dead) ->
 ∃ E',RelL l H E' vs/\Conc H E' w (applyW wr M)/\Evol [] H E w H E' w
 | [],_,_,l,wr,H,E,w,M,vs,h,hC,hr,_=>by
   simp only [aggGo] at h
   cases h
   exact ⟨E,hr,hC,Evol.refl _ _ _ _⟩
 | a::r,k,nid,l,wr,H,E,w,M,vs,h,hC,hr,hd=>by
   obtain ⟨v,q,rfl,h1,h2⟩:=hr
   simp only [aggGo] at h
   split at h
   · split at h
     case h_2=>cases h
     rename_i l' wr' hg
     cases h
     obtain ⟨E',g1,g2,g3⟩:=aggGo_dead hg hC h2 hd
     refine ⟨E',⟨v,q,rfl,?_,g1⟩,g2,g3⟩
     have:=g3.rel h1
     rwa [kill] at this
   · split at h
     case h_2=>cases h
     rename_i el hel
     split at h
     case h_2=>cases h
     rename_i i l' wr' hi hg
     cases h
     have hdn:=hd nid (Nat.le_refl _) (by simp)
     obtain ⟨e1,e2,e3,e4⟩:=E.set_same nid none 0 0
     have hvia:=set_via (bo:=none) (κ:=0) (η:=0) hC hdn
     obtain ⟨hc,hev⟩:=hC.new (w':=w) (i:=nid) (κ:=0) (η:=0) (bo:=none) (B:=.row el i.size 0 none (fun _ _=>.junk)) hdn rfl rfl rfl (Nat.le_refl _) (fun _ _=>rfl) (fun b hb=>by cases hb)
      ⟨e1,by rw [e3,e4];exact ⟨rfl,Nat.le_refl _⟩,by rw [e3];exact Nat.zero_le _,(fun q hq=>by cases hq),by rw [e2];exact e3⟩
     obtain ⟨E',g1,g2,g3⟩:=aggGo_dead hg hc (RelL.env hvia h2) fun j hj hl=>by
      rw [getM_put_ne _ _ _ _ (by omega)]
      exact hd j (by omega) (by simp;omega)
     refine ⟨E',⟨v,q,rfl,?_,g1⟩,g2,hev.trans g3 fun _ h=>h⟩
     have hv:v=.slice none 0 0:=h1.1
     have:Rel (.own nid i.size 0 0) H (E.set nid none 0 0) v:=by
      rw [hv]
      exact ⟨e1,by rw [e3,e4];exact ⟨Nat.le_refl _,Nat.le_refl _⟩,by rw [e2];exact ⟨rfl,rfl,rfl⟩⟩
     have:=g3.rel this
     rwa [kill] at this
theorem aggZ_ok {P:Program} {rd:Nat->Blk} {nid:Nat} {o:Oper} {t:Nat->AV} {mask:Nat} {e:CE} (hd:∀ k,nid<=k->rd k=.dead) (h:aggZ P rd nid o t mask=some e) (ho:Hold e.ob):CE.Good P o t rd e:=by
 intro M hM H E w a K Q hC hT hdf hkk
 unfold aggZ at h
 split at h
 case h_2=>cases h
 rename_i ty parts hop
 split at h
 case h_2=>cases h
 rename_i g hg
 split at h
 case h_2=>cases h
 rename_i cs hr hw hk
 split at h
 case h_2=>cases h
 rename_i l wr hag
 cases h
 have hs:=yop_ok hg ho hd (M:=M) (fun i hi=>hM i (List.mem_append_left _ hi))
 refine hs H E w a K Q hC hT hdf fun v w' H' E' hr' hc hev=>?_
 rw [hw,hk] at hc
 rw [hk] at hev
 rw [hr] at hr'
 have hc:Conc H' E' w' M:=hc
 obtain ⟨vs,rfl,hrl⟩:=hr'
 obtain ⟨E2,q1,q2,q3⟩:=aggGo_dead hag hc hrl fun j h1 h2=>(hM j (List.mem_append_right _ (mem_news h1 (by rw [len_eq wr];exact h2)))).trans (hd j h1)
 exact hkk (.agg vs) w' H' E2 ⟨vs,rfl,q1⟩ q2 (hev.trans q3 fun _ h=>h)
def moreE (P:Program) (rd:Nat->Blk) (nid:Nat) (o:Oper) (t:Nat->AV):Option CE :=
 match o.op with
 | .binOp ..=>binZ o t
 | .index ..=>idxZ P o t
 | .convert ..=>toStr P rd o t
 | .makeSlice ..=>mkZ P nid o t
 | .call _=>capZ P rd o t
 | _=>none
theorem moreE_ok {P:Program} {rd:Nat->Blk} {nid:Nat} {o:Oper} {t:Nat->AV} {e:CE} (hd:∀ k,nid<=k->rd k=.dead) (h:moreE P rd nid o t=some e) (ho:Hold e.ob):CE.Good P o t rd e:=by
 unfold moreE at h
 split at h
 · exact binZ_ok h ho
 · exact idxZ_ok h ho
 · exact toStr_ok h ho
 · exact mkZ_ok hd h ho
 · exact capZ_ok h
 · cases h
end Go.Ax
