import Derived.Test.YtffkiommagljeaaGreatDoorE2
set_option linter.unusedVariables false
set_option linter.unusedSimpArgs false
set_option linter.unusedSectionVars false
namespace Go.Ax
open Go
variable [Inhabited Gl0]
inductive Tr where
 | av (a:AV)
 | box (ty:TypeId) (sz:Nat) (cs:List Tr)
 | row (ty:TypeId) (sz n:Nat) (c:Nat->Nat->Tr)
 | frow (ty:TypeId) (sz n:Nat) (c:Nat->Nat->AV)
inductive KeyT where
 | s
 | i (kk:IntKind)
def KeyT.ty:KeyT->Type
 | .s=>ByteArray
 | .i _=>Int
def KeyT.val:(q:KeyT)->q.ty->Value
 | .s,x=>.string x
 | .i kk,x=>.int kk x
inductive Blk where
 | box (ty:TypeId) (cs:List AV)
 | lst (ty:TypeId) (sz n:Nat) (cap:Option Nat) (cs:List AV)
 | row (ty:TypeId) (sz n:Nat) (cap:Option Nat) (c:Nat->Nat->AV)
 | mp (es:List (Value×AV×Nat)) (ck:Nat)
 | mi (kk vk:IntKind) (has:Int->Bool) (c:Int->Int)
 | mit (m since:Nat) (seen:List Nat) (last:Nat)
 | tmap (q:KeyT) (has:q.ty->Bool) (c:q.ty->Tr) (n:Nat) (kn:List (q.ty×AV))
 | trow (ty:TypeId) (sz n:Nat) (cap:Option Nat) (c:Nat->Nat->Tr) (op:List (Nat×List AV)) (zs:List Value)
 | any
 | dead
def mgetI (x:Int):List MapEntry->Option Value
 | []=>none
 | e::r=>match e.key with
   | .int _ y=>if x=y then some e.val else mgetI x r
   | _=>mgetI x r
def getM:List Blk->Nat->Blk
 | [],_=>.dead
 | a::_,0=>a
 | _::l,n+1=>getM l n
def putM:List Blk->Nat->Blk->List Blk
 | [],0,v=>[v]
 | [],n+1,v=>.dead::putM [] n v
 | _::l,0,v=>v::l
 | a::l,n+1,v=>a::putM l n v
theorem getM_nil (i:Nat):getM [] i=.dead:=by cases i<;>rfl
theorem getM_put_same:∀ (M:List Blk) (i:Nat) (v:Blk),getM (putM M i v) i=v
 | [],0,_=>rfl
 | [],n+1,v=>getM_put_same [] n v
 | _::_,0,_=>rfl
 | _::l,n+1,v=>getM_put_same l n v
theorem getM_put_ne:∀ (M:List Blk) (i j:Nat) (v:Blk),i≠j->getM (putM M i v) j=getM M j
 | [],0,0,_,h=>absurd rfl h
 | [],0,j+1,_,_=>by simp [putM,getM]
 | [],i+1,0,_,_=>by simp [putM,getM]
 | [],i+1,j+1,v,h=>by
   simp only [putM,getM]
   rw [getM_put_ne [] i j v (by omega),getM_nil]
 | _::_,0,0,_,h=>absurd rfl h
 | _::_,0,_+1,_,_=>rfl
 | _::_,_+1,0,_,_=>rfl
 | _::l,i+1,j+1,v,h=>getM_put_ne l i j v (by omega)
def ones (vs:List Value):Prop:=∀ x∈vs,x.oneCell'=true
mutual
def TrOk (H:HH) (hp:Nat->Option Obj):Tr->Value->(Nat->Prop)->Prop
 | .av a,v,_=>Rel a H E0 v
 | .box ty _ cs,v,S=>∃ b vs,v=.pointer (some ⟨b,0,none⟩)/\S b/\hp b=some (.cells vs ty (0,0))/\ones vs.toList/\TrOkL H hp cs vs.toList (fun x=>S x/\x≠b)
 | .row ty sz n c,v,S=>∃ κ,n<=κ/\κ<=maxLen/\((n=0/\κ=0/\v=.slice none 0 0)∨∃ b vs,v=.slice (some ⟨b,0,none⟩) n κ/\S b/\hp b=some (.cells vs ty (0,0))/\ones (vs.toList.take (n*sz))/\vs.size=κ*sz /\
    ∃ F:Nat->Nat->Nat->Prop,(∀ k j x,F k j x->S x/\x≠b)/\(∀ k j k' j' x,F k j x->F k' j' x->k=k'/\j=j')/\∀ k,k<n->∀ j,j<sz->∃ x,vs[k*sz+j]? = some x/\TrOk H hp (c k j) x (F k j))
 | .frow ty sz n c,v,S=>∃ κ,n<=κ/\κ<=maxLen/\((n=0/\κ=0/\v=.slice none 0 0)∨∃ b vs,v=.slice (some ⟨b,0,none⟩) n κ/\S b/\hp b=some (.cells vs ty (0,0))/\ones (vs.toList.take (n*sz))/\vs.size=κ*sz /\
    ∀ k,k<n->∀ j,j<sz->∃ x,vs[k*sz+j]? = some x/\Rel (c k j) H E0 x)
def TrOkL (H:HH) (hp:Nat->Option Obj):List Tr->List Value->(Nat->Prop)->Prop
 | [],vs,_=>vs=[]
 | t::ts,vs,S=>∃ v r S1 S2,vs=v::r/\(∀ x,S1 x->S x)/\(∀ x,S2 x->S x)/\(∀ x,S1 x->S2 x->False)/\TrOk H hp t v S1/\TrOkL H hp ts r S2
end
mutual
theorem TrOk.move {H H':HH} {hp hp':Nat->Option Obj} (hH:H.le H'):∀ (t:Tr) {v:Value} {S S':Nat->Prop},(∀ b,S b->S' b)->(∀ b,S b->hp' b=hp b)->TrOk H hp t v S->TrOk H' hp' t v S'
 | .av a,_,_,_,_,_,h=>Rel.mono a hH h
 | .box ty sz cs,_,S,S',hS,hw,h=>by
   obtain ⟨b,vs,h1,h2,h3,h4,h5⟩:=h
   exact ⟨b,vs,h1,hS b h2,(hw b h2).trans h3,h4,TrOkL.move hH cs (fun x hx=>⟨hS x hx.1,hx.2⟩) (fun x hx=>hw x hx.1) h5⟩
 | .row ty sz n c,_,S,S',hS,hw,h=>by
   obtain ⟨κ,h1,h2,h3 | ⟨b,vs,h3,h4,h5,h6,h7,F,h8,h9,h10⟩⟩:=h
   · exact ⟨κ,h1,h2,.inl h3⟩
   · refine ⟨κ,h1,h2,.inr ⟨b,vs,h3,hS b h4,(hw b h4).trans h5,h6,h7,F,fun k j x hx=>⟨hS x (h8 k j x hx).1,(h8 k j x hx).2⟩,h9,fun k hk j hj=>?_⟩⟩
     obtain ⟨x,g1,g2⟩:=h10 k hk j hj
     exact ⟨x,g1,TrOk.move hH (c k j) (fun _ h=>h) (fun b hb=>hw b (h8 k j b hb).1) g2⟩
 | .frow ty sz n c,_,S,S',hS,hw,h=>by
   obtain ⟨κ,h1,h2,h3 | ⟨b,vs,h3,h4,h5,h6,h7,h10⟩⟩:=h
   · exact ⟨κ,h1,h2,.inl h3⟩
   · refine ⟨κ,h1,h2,.inr ⟨b,vs,h3,hS b h4,(hw b h4).trans h5,h6,h7,fun k hk j hj=>?_⟩⟩
     obtain ⟨x,g1,g2⟩:=h10 k hk j hj
     exact ⟨x,g1,Rel.mono _ hH g2⟩
theorem TrOkL.move {H H':HH} {hp hp':Nat->Option Obj} (hH:H.le H'):∀ (l:List Tr) {vs:List Value} {S S':Nat->Prop},(∀ b,S b->S' b)->(∀ b,S b->hp' b=hp b)->TrOkL H hp l vs S->TrOkL H' hp' l vs S'
 | [],_,_,_,_,_,h=>h
 | t::ts,_,S,S',hS,hw,h=>by
   obtain ⟨v,r,S1,S2,h1,h2,h3,h4,h5,h6⟩:=h
   exact ⟨v,r,S1,S2,h1,fun x hx=>hS x (h2 x hx),fun x hx=>hS x (h3 x hx),h4,TrOk.move hH t (fun _ h=>h) (fun b hb=>hw b (h2 b hb)) h5,TrOkL.move hH ts (fun _ h=>h) (fun b hb=>hw b (h3 b hb)) h6⟩
end
def mgetK (q:KeyT) (x:q.ty) (l:List MapEntry) (v:Value):Prop:=∃ e∈l,e.key=q.val x/\e.val=v
structure EntsOk (q:KeyT) (l:List MapEntry) (ck:Nat):Prop where
 key:∀ e∈l,∃ x,e.key=q.val x
 once:(l.map fun e=>e.key).Nodup
 born:(l.map fun e=>e.born).Nodup
 lt:∀ e∈l,e.born<ck
structure MapOk (H:HH) (E:Env) (hp:Nat->Option Obj) (i:Nat) (q:KeyT) (has:q.ty->Bool) (c:q.ty->Tr) (n:Nat) (kn:List (q.ty×AV)) (l:List MapEntry) (ck:Nat) (F:q.ty->Nat->Prop):Prop where
 ents:EntsOk q l ck
 size:l.length=n
 hasK:∀ x,has x=true↔∃ v,mgetK q x l v
 known:∀ p∈kn,∃ v,mgetK q p.1 l v/\Rel p.2 H E v
 own:∀ x y,F x y->E.σ i y
 sep:∀ x x' y,F x y->F x' y->x=x'
 tr:∀ x,(∀ p∈kn,p.1≠x)->∀ v,mgetK q x l v->TrOk H hp (c x) v (F x)
structure RowOk (H:HH) (E:Env) (hp:Nat->Option Obj) (i sz n κ:Nat) (c:Nat->Nat->Tr) (op:List (Nat×List AV)) (zs:List Value) (vs:List Value) (F:Nat->Nat->Nat->Prop):Prop where
 one:ones (vs.take (n*sz))
 size:vs.length=κ*sz
 own:∀ k j x,F k j x->E.σ i x
 sep:∀ k j k' j' x,F k j x->F k' j' x->k=k'/\j=j'
 lt:∀ p∈op,p.1<n
 once:(op.map fun p=>p.1).Nodup
 known:∀ p∈op,RelL p.2 H E ((vs.drop (p.1*sz)).take sz)
 tr:∀ k,k<n->(∀ p∈op,p.1≠k)->∀ j,j<sz->∃ x,vs[k*sz+j]? = some x/\TrOk H hp (c k j) x (F k j)
 spare:zs≠[]->vs.drop (n*sz)=(Builtin.zeroCells zs.toArray (κ - n)).toList
def BlkOk (H:HH) (E:Env) (w:World) (i:Nat):Blk->Prop
 | .dead=>E.lv i=false
 | .box ty cs=>E.lv i=true/\∃ b vs,E.ι i=some b/\w.heap[b]? = some (.cells vs ty (0,0))/\ones vs.toList/\RelL cs H E vs.toList
 | .lst ty sz n cap cs=>E.lv i=true/\(n=E.η i/\n<=E.κ i)/\E.κ i<=maxLen/\(∀ q,cap=some q->E.κ i=q) /\
    match E.ι i with
    | none=>E.κ i=0/\cs=[]
    | some b=>∃ vs,w.heap[b]? = some (.cells vs ty (0,0))/\ones (vs.toList.take (n*sz))/\vs.size=E.κ i*sz/\RelL cs H E (vs.toList.take (n*sz))
 | .row ty sz n cap c=>E.lv i=true/\(n=E.η i/\n<=E.κ i)/\E.κ i<=maxLen/\(∀ q,cap=some q->E.κ i=q) /\
    match E.ι i with
    | none=>E.κ i=0
    | some b=>∃ vs,w.heap[b]? = some (.cells vs ty (0,0))/\ones (vs.toList.take (n*sz))/\vs.size=E.κ i*sz /\
       ∀ k,k<n->∀ j,j<sz->∃ x,vs[k*sz+j]? = some x/\Rel (c k j) H E0 x
 | .mp es ck=>E.lv i=true/\∃ b ms,E.ι i=some b/\w.heap[b]? = some (.map ms ck)/\(ms.toList.map fun e=>(e.key,e.born))=(es.map fun e=>(e.1,e.2.2))/\RelL (es.map fun e=>e.2.1) H E (ms.toList.map fun e=>e.val)
 | .mi kk vk has c=>E.lv i=true/\∃ b ms ck,E.ι i=some b/\w.heap[b]? = some (.map ms ck)/\(∀ e∈ms.toList,∃ x,e.key=.int kk x) /\
    ∀ x,mgetI x ms.toList=(match has x with | true=>some (.int vk (c x)) | false=>none)
 | .mit m since seen last=>E.lv i=true/\E.lv m=true/\∃ b bm,E.ι i=some b/\E.ι m=some bm/\w.heap[b]? = some (.mapIter (some bm) since seen.toArray last)
 | .tmap q has c n kn=>E.lv i=true/\∃ b ms ck F,E.ι i=some b/\¬ E.σ i b/\w.heap[b]? = some (.map ms ck)/\MapOk H E (fun x=>w.heap[x]?) i q has c n kn ms.toList ck F
 | .trow ty sz n cap c op zs=>E.lv i=true/\(n=E.η i/\n<=E.κ i)/\E.κ i<=maxLen/\(∀ q,cap=some q->E.κ i=q) /\
    match E.ι i with
    | none=>E.κ i=0/\op=[]
    | some b=>¬ E.σ i b/\∃ vs F,w.heap[b]? = some (.cells vs ty (0,0))/\RowOk H E (fun x=>w.heap[x]?) i sz n (E.κ i) c op zs vs.toList F
 | .any=>E.lv i=true/\∃ b o,E.ι i=some b/\w.heap[b]? = some o
structure Conc (H:HH) (E:Env) (w:World) (M:List Blk):Prop where
 imm:∀ b o,H false b=some o->w.heap[b]? = some o
 tf:HOk H
 blk:∀ i,BlkOk H E w i (getM M i)
 injH:∀ i j b,E.has i b->E.has j b->i=j
 sepH:∀ i b,E.has i b->H false b=none
 ltS:∀ i b,E.lv i=true->E.σ i b->b<w.heap.size
theorem Conc.inj {H:HH} {E:Env} {w:World} {M:List Blk} (h:Conc H E w M) (i j b:Nat) (hi:E.lv i=true) (hj:E.lv j=true) (hib:E.ι i=some b) (hjb:E.ι j=some b):i=j:=h.injH i j b ⟨hi,.inl hib⟩ ⟨hj,.inl hjb⟩
theorem Conc.sep {H:HH} {E:Env} {w:World} {M:List Blk} (h:Conc H E w M) (i b:Nat) (hi:E.lv i=true) (hib:E.ι i=some b):H false b=none:=h.sepH i b ⟨hi,.inl hib⟩
theorem IH.lt_of {H:HH} {w:World} (hi:∀ b o,H false b=some o->w.heap[b]? = some o) {b:Nat} {o:Obj} (h:H false b=some o):b<w.heap.size :=
 (Array.getElem?_eq_some_iff.1 (hi b o h)).1
theorem BlkOk.lt {H:HH} {E:Env} {w:World} {i b:Nat} {B:Blk} (h:BlkOk H E w i B) (hl:E.lv i=true) (hb:E.ι i=some b):b<w.heap.size:=by
 cases B with
 | dead=>simp [BlkOk,hl] at h
 | box ty cs =>
   obtain ⟨_,b',vs,h1,h2,_⟩:=h
   rw [hb] at h1;cases h1
   exact (Array.getElem?_eq_some_iff.1 h2).1
 | lst ty sz n cap cs =>
   obtain ⟨_,_,_,_,h1⟩:=h
   rw [hb] at h1
   obtain ⟨vs,h2,_⟩:=h1
   exact (Array.getElem?_eq_some_iff.1 h2).1
 | row ty sz n cap c =>
   obtain ⟨_,_,_,_,h1⟩:=h
   rw [hb] at h1
   obtain ⟨vs,h2,_⟩:=h1
   exact (Array.getElem?_eq_some_iff.1 h2).1
 | mp es ck =>
   obtain ⟨_,b',ms,h1,h2,_⟩:=h
   rw [hb] at h1;cases h1
   exact (Array.getElem?_eq_some_iff.1 h2).1
 | mi kk vk has c =>
   obtain ⟨_,b',ms,ck,h1,h2,_⟩:=h
   rw [hb] at h1;cases h1
   exact (Array.getElem?_eq_some_iff.1 h2).1
 | mit m since seen last =>
   obtain ⟨_,_,b',bm,h1,_,h2⟩:=h
   rw [hb] at h1;cases h1
   exact (Array.getElem?_eq_some_iff.1 h2).1
 | tmap q has c n kn =>
   obtain ⟨_,b',ms,ck,F,h1,_,h2,_⟩:=h
   rw [hb] at h1;cases h1
   exact (Array.getElem?_eq_some_iff.1 h2).1
 | trow ty sz n cap c op zs =>
   obtain ⟨_,_,_,_,h1⟩:=h
   rw [hb] at h1
   obtain ⟨_,vs,F,h2,_⟩:=h1
   exact (Array.getElem?_eq_some_iff.1 h2).1
 | any =>
   obtain ⟨_,b',o,h1,h2⟩:=h
   rw [hb] at h1;cases h1
   exact (Array.getElem?_eq_some_iff.1 h2).1
theorem Conc.lt {H:HH} {E:Env} {w:World} {M:List Blk} (h:Conc H E w M) {i b:Nat} (hl:E.lv i=true) (hb:E.ι i=some b):b<w.heap.size :=
 (h.blk i).lt hl hb
theorem Conc.ltH {H:HH} {E:Env} {w:World} {M:List Blk} (h:Conc H E w M) {i b:Nat} (hb:E.has i b):b<w.heap.size:=by
 rcases hb with ⟨hl,hb | hb⟩
 · exact h.lt hl hb
 · exact h.ltS i b hl hb
def renB (f:Nat->Option Nat):Blk->Blk
 | .box ty cs=>.box ty (renL f cs)
 | .lst ty sz n cap cs=>.lst ty sz n cap (renL f cs)
 | .mp es ck=>.mp (es.map fun e=>(e.1,ren f e.2.1,e.2.2)) ck
 | .mit m since seen last=>match f m with | some j=>.mit j since seen last | none=>.any
 | .tmap q has c n kn=>.tmap q has c n (kn.map fun p=>(p.1,ren f p.2))
 | .trow ty sz n cap c op zs=>.trow ty sz n cap c (op.map fun p=>(p.1,renL f p.2)) zs
 | b=>b
theorem renL_map (f:Nat->Option Nat):∀ l:List AV,renL f l=l.map (ren f)
 | []=>rfl
 | a::l=>by simp [renL,renL_map f l]
theorem BlkOk.move {H H':HH} {E E':Env} {w w':World} {i i':Nat} {B:Blk} {f:Nat->Option Nat} (h:BlkOk H E w i B) (hH:H.le H') (hv:E.via E' f)
 (hl:E'.lv i'=E.lv i) (hι:E'.ι i'=E.ι i) (hκ:E'.κ i'=E.κ i) (hη:E'.η i'=E.η i) (hσ:∀ b,E'.σ i' b↔E.σ i b) (hwH:∀ b,E.has i b->w'.heap[b]? = w.heap[b]?):BlkOk H' E' w' i' (renB f B):=by
 have hw:∀ b,E.lv i=true->E.ι i=some b->w'.heap[b]? = w.heap[b]?:=fun b h1 h2=>hwH b ⟨h1,.inl h2⟩
 cases B with
 | dead=>exact hl.trans h
 | box ty cs =>
   obtain ⟨h0,b,vs,h1,h2,h3,h4⟩:=h
   exact ⟨hl.trans h0,b,vs,hι.trans h1,(hw b h0 h1).trans h2,h3,RelL.mono _ hH (RelL.ren _ hv h4)⟩
 | lst ty sz n cap cs =>
   obtain ⟨h0,ha,hb,hc,h1⟩:=h
   refine ⟨hl.trans h0,by rw [hκ,hη];exact ha,by rw [hκ];exact hb,by rw [hκ];exact hc,?_⟩
   rw [hι,hκ]
   cases hi:E.ι i with
   | none =>
     rw [hi] at h1
     obtain ⟨h2,rfl⟩:=h1
     exact ⟨h2,rfl⟩
   | some b =>
     rw [hi] at h1
     obtain ⟨vs,h2,h3,h4,h5⟩:=h1
     exact ⟨vs,(hw b h0 hi).trans h2,h3,h4,RelL.mono _ hH (RelL.ren _ hv h5)⟩
 | row ty sz n cap c =>
   obtain ⟨h0,ha,hb,hc,h1⟩:=h
   refine ⟨hl.trans h0,by rw [hκ,hη];exact ha,by rw [hκ];exact hb,by rw [hκ];exact hc,?_⟩
   rw [hι,hκ]
   cases hi:E.ι i with
   | none=>rw [hi] at h1;exact h1
   | some b =>
     rw [hi] at h1
     obtain ⟨vs,h2,h3,h4,h5⟩:=h1
     refine ⟨vs,(hw b h0 hi).trans h2,h3,h4,fun k hk j hj=>?_⟩
     obtain ⟨x,hx,hr⟩:=h5 k hk j hj
     exact ⟨x,hx,Rel.mono _ hH hr⟩
 | mp es ck =>
   obtain ⟨h0,b,ms,h1,h2,h3,h4⟩:=h
   refine ⟨hl.trans h0,b,ms,hι.trans h1,(hw b h0 h1).trans h2,by rw [h3];simp,?_⟩
   have:=RelL.mono _ hH (RelL.ren _ hv h4)
   rw [renL_map,List.map_map] at this
   rw [List.map_map];exact this
 | mi kk vk has c =>
   obtain ⟨h0,b,ms,ck,h1,h2,h3⟩:=h
   exact ⟨hl.trans h0,b,ms,ck,hι.trans h1,(hw b h0 h1).trans h2,h3⟩
 | mit m since seen last =>
   obtain ⟨h0,hm,b,bm,h1,h2,h3⟩:=h
   show BlkOk H' E' w' i' (match f m with | some j=>Blk.mit j since seen last | none=>Blk.any)
   cases hfm:f m with
   | none=>exact ⟨hl.trans h0,b,_,hι.trans h1,(hw b h0 h1).trans h3⟩
   | some j =>
     obtain ⟨g1,g2,_⟩:=hv m j hfm hm
     exact ⟨hl.trans h0,g1,b,bm,hι.trans h1,g2.trans h2,(hw b h0 h1).trans h3⟩
 | tmap q has c n kn =>
   obtain ⟨h0,b,ms,ck,F,h1,h2,h3,h4⟩:=h
   refine ⟨hl.trans h0,b,ms,ck,F,hι.trans h1,fun hn=>h2 ((hσ b).1 hn),(hw b h0 h1).trans h3,h4.ents,h4.size,h4.hasK,fun p hp=>?_,fun x y hy=>(hσ y).2 (h4.own x y hy),h4.sep,fun x hx v hv'=>?_⟩
   · obtain ⟨p0,hp0,rfl⟩:=List.mem_map.1 hp
     obtain ⟨v,g1,g2⟩:=h4.known p0 hp0
     exact ⟨v,g1,Rel.mono _ hH (Rel.ren _ hv g2)⟩
   · refine TrOk.move hH (c x) (fun _ h=>h) (fun y hy=>hwH y ⟨h0,.inr (h4.own x y hy)⟩) (h4.tr x (fun p hp=>?_) v hv')
     have:=hx (p.1,ren f p.2) (List.mem_map.2 ⟨p,hp,rfl⟩)
     exact this
 | trow ty sz n cap c op zs =>
   obtain ⟨h0,ha,hb,hc,h1⟩:=h
   refine ⟨hl.trans h0,by rw [hκ,hη];exact ha,by rw [hκ];exact hb,by rw [hκ];exact hc,?_⟩
   rw [hι,hκ]
   cases hi:E.ι i with
   | none=>rw [hi] at h1;exact ⟨h1.1,by rw [h1.2];rfl⟩
   | some b =>
     rw [hi] at h1
     obtain ⟨hs,vs,F,h2,h4⟩:=h1
     have hfst:((op.map fun p=>(p.1,renL f p.2)).map fun p=>p.1)=op.map fun p=>p.1:=by rw [List.map_map];rfl
     refine ⟨fun hn=>hs ((hσ b).1 hn),vs,F,(hw b h0 hi).trans h2,h4.one,h4.size,fun k j x hx=>(hσ x).2 (h4.own k j x hx),h4.sep,fun p hp=>?_,by rw [hfst];exact h4.once,fun p hp=>?_,fun k hk hn j hj=>?_,h4.spare⟩
     · obtain ⟨p0,hp0,rfl⟩:=List.mem_map.1 hp
       exact h4.lt p0 hp0
     · obtain ⟨p0,hp0,rfl⟩:=List.mem_map.1 hp
       exact RelL.mono _ hH (RelL.ren _ hv (h4.known p0 hp0))
     · obtain ⟨x,g1,g2⟩:=h4.tr k hk (fun p hp=>hn (p.1,renL f p.2) (List.mem_map.2 ⟨p,hp,rfl⟩)) j hj
       exact ⟨x,g1,TrOk.move hH (c k j) (fun _ h=>h) (fun y hy=>hwH y ⟨h0,.inr (h4.own k j y hy)⟩) g2⟩
 | any =>
   obtain ⟨h0,b,o,h1,h2⟩:=h
   exact ⟨hl.trans h0,b,o,hι.trans h1,(hw b h0 h1).trans h2⟩
structure Evol (mv:List Nat) (H:HH) (E:Env) (w:World) (H':HH) (E':Env) (w':World):Prop where
 os:w'.os=w.os
 tape:w'.tape=w.tape
 output:w'.output=w.output
 size:w.heap.size<=w'.heap.size
 keep:∀ b,b<w.heap.size->(∀ i,¬ E.has i b)->w'.heap[b]? = w.heap[b]?
 own:∀ i b,E'.has i b->(∃ j,E.has j b)∨w.heap.size<=b
 hh:H.le H'
 new:∀ c b o,H' c b=some o->H c b=some o∨w.heap.size<=b∨∃ i,E.has i b
 ids:∀ i,E.lv i=true->i ∉ mv->E'.lv i=true/\E'.ι i=E.ι i/\E'.κ i=E.κ i/\E'.η i=E.η i
theorem Evol.refl (mv:List Nat) (H:HH) (E:Env) (w:World):Evol mv H E w H E w :=
 ⟨rfl,rfl,rfl,Nat.le_refl _,fun _ _ _=>rfl,fun i _ hb=>.inl ⟨i,hb⟩,HH.le_refl _,fun _ _ _ h=>.inl h,fun _ h _=>⟨h,rfl,rfl,rfl⟩⟩
theorem Evol.weak {mv mv':List Nat} {H H':HH} {E E':Env} {w w':World} (h:Evol mv H E w H' E' w') (hm:∀ i,i∈mv->i∈mv'):Evol mv' H E w H' E' w' :=
 { h with ids:=fun i hl hn=>h.ids i hl fun hi=>hn (hm i hi) }
theorem Evol.trans {mv mv':List Nat} {H H1 H2:HH} {E E1 E2:Env} {w w1 w2:World} (h:Evol mv H E w H1 E1 w1) (k:Evol mv' H1 E1 w1 H2 E2 w2) (hm:∀ i,i∈mv->i∈mv') :
 Evol mv' H E w H2 E2 w2 where
 os:=k.os.trans h.os
 tape:=k.tape.trans h.tape
 output:=k.output.trans h.output
 size:=Nat.le_trans h.size k.size
 keep:=fun b hb hn=>by
  refine (k.keep b (Nat.lt_of_lt_of_le hb h.size) fun i hl=>?_).trans (h.keep b hb hn)
  rcases h.own i b hl with ⟨j,hj⟩ | hge
  · exact hn j hj
  · omega
 own:=fun i b hl=>by
  rcases k.own i b hl with ⟨j,hj⟩ | hge
  · exact h.own j b hj
  · exact .inr (Nat.le_trans h.size hge)
 hh:=HH.le_trans h.hh k.hh
 new:=fun c b o ho=>by
  rcases k.new c b o ho with h1 | h1 | ⟨i,hi⟩
  · exact h.new c b o h1
  · exact .inr (.inl (Nat.le_trans h.size h1))
  · rcases h.own i b hi with h2 | h2
    · exact .inr (.inr h2)
    · exact .inr (.inl h2)
 ids:=fun i hl hn=>by
  obtain ⟨a1,a2,a3,a4⟩:=h.ids i hl fun hi=>hn (hm i hi)
  obtain ⟨b1,b2,b3,b4⟩:=k.ids i a1 hn
  exact ⟨b1,b2.trans a2,b3.trans a3,b4.trans a4⟩
def keepOf (mv:List Nat) (i:Nat):Option Nat:=if mv.contains i then none else some i
theorem Evol.via {mv:List Nat} {H H':HH} {E E':Env} {w w':World} (h:Evol mv H E w H' E' w'):E.via E' (keepOf mv):=by
 intro i j hj hl
 unfold keepOf at hj
 split at hj
 · cases hj
 · rename_i hn
   cases hj
   exact h.ids i hl (by simpa using hn)
def kill (mv:List Nat) (a:AV):AV:=match mv with | []=>a | _=>ren (keepOf mv) a
def killL (mv:List Nat) (l:List AV):List AV:=match mv with | []=>l | _=>renL (keepOf mv) l
def killM (mv:List Nat) (M:List Blk):List Blk:=match mv with | []=>M | _=>M.map (renB (keepOf mv))
theorem keepOf_nil:keepOf []=some:=by funext i;simp [keepOf]
theorem kill_eq (mv:List Nat) (a:AV):kill mv a=ren (keepOf mv) a:=by
 cases mv with
 | nil=>rw [keepOf_nil,ren_some];rfl
 | cons _ _=>rfl
theorem killL_eq (mv:List Nat) (a:List AV):killL mv a=renL (keepOf mv) a:=by
 cases mv with
 | nil=>rw [keepOf_nil,renL_some];rfl
 | cons _ _=>rfl
theorem renB_some (B:Blk):renB some B=B:=by cases B<;>simp [renB,renL_some,ren_some]
theorem killM_eq (mv:List Nat) (M:List Blk):killM mv M=M.map (renB (keepOf mv)):=by
 cases mv with
 | nil =>
   rw [keepOf_nil]
   have:renB some=id:=funext renB_some
   simp [killM,this]
 | cons _ _=>rfl
theorem getM_map (g:Blk->Blk) (hg:g .dead=.dead):∀ (M:List Blk) (i:Nat),getM (M.map g) i=g (getM M i)
 | [],i=>by simp [getM_nil,hg]
 | _::_,0=>rfl
 | _::l,i+1=>getM_map g hg l i
theorem getM_kill (mv:List Nat) (M:List Blk) (i:Nat):getM (killM mv M) i=renB (keepOf mv) (getM M i):=by
 rw [killM_eq,getM_map _ rfl]
theorem Evol.rel {mv:List Nat} {H H':HH} {E E':Env} {w w':World} (h:Evol mv H E w H' E' w') {a:AV} {v:Value} (hr:Rel a H E v):Rel (kill mv a) H' E' v:=by
 rw [kill_eq];exact Rel.mono _ h.hh (Rel.ren _ h.via hr)
theorem Evol.relL {mv:List Nat} {H H':HH} {E E':Env} {w w':World} (h:Evol mv H E w H' E' w') {a:List AV} {v:List Value} (hr:RelL a H E v):RelL (killL mv a) H' E' v:=by
 rw [killL_eq];exact RelL.mono _ h.hh (RelL.ren _ h.via hr)
structure Upd (w w':World) (b:Nat) (o:Obj):Prop where
 os:w'.os=w.os
 tape:w'.tape=w.tape
 output:w'.output=w.output
 size:w'.heap.size=w.heap.size
 same:w'.heap[b]? = some o
 other:∀ k,k≠b->w'.heap[k]? = w.heap[k]?
theorem Conc.upd {H:HH} {E:Env} {w w':World} {M:List Blk} (h:Conc H E w M) {i b:Nat} {o:Obj} {B:Blk} (hl:E.lv i=true) (hb:E.ι i=some b) (hu:Upd w w' b o)
 (hB:BlkOk H E w' i B):Conc H E w' (putM M i B)/\Evol [] H E w H E w':=by
 have hib:E.has i b:=⟨hl,.inl hb⟩
 have hother:∀ j,j≠i->∀ c,E.has j c->w'.heap[c]? = w.heap[c]?:=by
  intro j hj c hc
  exact hu.other c fun e=>hj (h.injH j i b (e ▸ hc) hib)
 refine ⟨⟨fun c x hx=>?_,h.tf,fun j=>?_,h.injH,h.sepH,fun j c h1 h2=>by rw [hu.size];exact h.ltS j c h1 h2⟩,⟨hu.os,hu.tape,hu.output,by rw [hu.size];exact Nat.le_refl _,fun c hc hn=>?_,fun j c hj=>.inl ⟨j,hj⟩,HH.le_refl _,fun _ _ _ hx=>.inl hx,fun _ hx _=>⟨hx,rfl,rfl,rfl⟩⟩⟩
 · rw [hu.other c fun e=>by subst e;rw [h.sep i c hl hb] at hx;cases hx]
   exact h.imm c x hx
 · by_cases hj:i=j
   · subst hj;rw [getM_put_same];exact hB
   · rw [getM_put_ne _ _ _ _ hj]
     have:=(h.blk j).move (f:=some) (H':=H) (E':=E) (w':=w') (i':=j) (HH.le_refl _) (fun a c hc hl=>by cases hc;exact ⟨hl,rfl,rfl,rfl⟩) rfl rfl rfl rfl (fun _=>Iff.rfl) (hother j fun e=>hj e.symm)
     rwa [renB_some] at this
 · exact hu.other c fun e=>hn i (by rw [e];exact hib)
def Env.set (E:Env) (i:Nat) (b:Option Nat) (κ η:Nat):Env :=
 ⟨fun j=>if j=i then true else E.lv j,fun j=>if j=i then b else E.ι j,fun j=>if j=i then κ else E.κ j,fun j=>if j=i then η else E.η j,fun j x=>j≠i/\E.σ j x⟩
theorem Env.set_same (E:Env) (i:Nat) (b:Option Nat) (κ η:Nat):(E.set i b κ η).lv i=true/\(E.set i b κ η).ι i=b/\(E.set i b κ η).κ i=κ/\(E.set i b κ η).η i=η:=by simp [Env.set]
theorem Env.set_ne (E:Env) (i j:Nat) (b:Option Nat) (κ η:Nat) (h:j≠i):(E.set i b κ η).lv j=E.lv j/\(E.set i b κ η).ι j=E.ι j/\(E.set i b κ η).κ j=E.κ j/\(E.set i b κ η).η j=E.η j:=by simp [Env.set,h]
theorem Env.set_has {E:Env} {i j x:Nat} {b:Option Nat} {κ η:Nat} (h:(E.set i b κ η).has j x):(j=i/\b=some x)∨(j≠i/\E.has j x):=by
 obtain ⟨h1,h2⟩:=h
 by_cases hj:j=i
 · subst hj
   simp [Env.set] at h2
   exact .inl ⟨rfl,h2⟩
 · simp [Env.set,hj] at h1 h2
   exact .inr ⟨hj,h1,h2⟩
theorem Conc.new {H:HH} {E:Env} {w w':World} {M:List Blk} (h:Conc H E w M) {i κ η:Nat} {bo:Option Nat} {B:Blk} (hd:getM M i=.dead)
 (hos:w'.os=w.os) (ht:w'.tape=w.tape) (hout:w'.output=w.output) (hs:w.heap.size<=w'.heap.size) (hk:∀ b,b<w.heap.size->w'.heap[b]? = w.heap[b]?)
 (hb:∀ b,bo=some b->w.heap.size<=b) (hB:BlkOk H (E.set i bo κ η) w' i B):Conc H (E.set i bo κ η) w' (putM M i B)/\Evol [] H E w H (E.set i bo κ η) w':=by
 have hdead:E.lv i=false:=by have:=h.blk i;rw [hd] at this;exact this
 have hne:∀ j,E.lv j=true->j≠i:=by rintro j hj rfl;rw [hdead] at hj;cases hj
 have hvia:E.via (E.set i bo κ η) some:=by
  intro a c hc hl
  cases hc
  obtain ⟨e1,e2,e3,e4⟩:=E.set_ne i a bo κ η (hne a hl)
  exact ⟨e1.trans hl,e2,e3,e4⟩
 refine ⟨⟨fun c x hx=>?_,h.tf,fun j=>?_,fun a c b' ha hc=>?_,fun a b' ha=>?_,fun a b' ha hab=>?_⟩,⟨hos,ht,hout,hs,fun c hc _=>hk c hc,fun j c hj=>?_,HH.le_refl _,fun _ _ _ hx=>.inl hx,fun j hj _=>?_⟩⟩
 · rw [hk c (IH.lt_of h.imm hx)];exact h.imm c x hx
 · by_cases hj:i=j
   · subst hj;rw [getM_put_same];exact hB
   · rw [getM_put_ne _ _ _ _ hj]
     have hj':j≠i:=fun e=>hj e.symm
     obtain ⟨e1,e2,e3,e4⟩:=E.set_ne i j bo κ η hj'
     have:=(h.blk j).move (f:=some) (H':=H) (E':=E.set i bo κ η) (w':=w') (i':=j) (HH.le_refl _) hvia e1 e2 e3 e4 (fun b=>by simp [Env.set,hj']) fun b hb=>hk b (h.ltH hb)
     rwa [renB_some] at this
 · rcases Env.set_has ha with ⟨rfl,h1⟩ | ⟨_,h1⟩<;>rcases Env.set_has hc with ⟨rfl,h2⟩ | ⟨_,h2⟩
   · rfl
   · have:=h.ltH h2;have:=hb b' h1;omega
   · have:=h.ltH h1;have:=hb b' h2;omega
   · exact h.injH a c b' h1 h2
 · rcases Env.set_has ha with ⟨rfl,h1⟩ | ⟨_,h1⟩
   · cases hx:H false b' with
     | none=>rfl
     | some o=>have:=IH.lt_of h.imm hx;have:=hb b' h1;omega
   · exact h.sepH a b' h1
 · rcases Env.set_has ⟨ha,.inr hab⟩ with ⟨rfl,h1⟩ | ⟨_,h1⟩
   · exact absurd rfl hab.1
   · have:=h.ltH h1;omega
 · rcases Env.set_has hj with ⟨rfl,h1⟩ | ⟨_,h1⟩
   · exact .inr (hb c h1)
   · exact .inl ⟨j,h1⟩
 · obtain ⟨e1,e2,e3⟩:=E.set_ne i j bo κ η (hne j hj)
   exact ⟨e1.trans hj,e2,e3.1,e3.2⟩
end Go.Ax
