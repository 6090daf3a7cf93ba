import Derived.Test.YtffkiommagljeaaGreatDoorE4
set_option linter.unusedVariables false
set_option linter.unusedSimpArgs false
set_option linter.unusedSectionVars false
namespace Go.Ax
open Go
variable [Inhabited Gl0]
theorem len_eq {α:Type} (l:List α):len l=l.length:=by induction l with | nil=>rfl | cons _ _ ih=>simp [len,ih]
theorem relL_get:∀ {l:List AV} {H:HH} {E:Env} {vs:List Value},RelL l H E vs->∀ i v,vs[i]? = some v->Rel (get l i) H E v
 | [],_,_,_,h,i,v,hv=>by simp [RelL] at h;subst h;simp at hv
 | a::as,_,_,_,h,i,v,hv=>by
   obtain ⟨u,r,rfl,h1,h2⟩:=h
   match i,hv with
   | 0,hv=>simp at hv;subst hv;exact h1
   | i+1,hv=>exact relL_get h2 i v (by simpa using hv)
theorem relL_mk:∀ {l:List AV} {H:HH} {E:Env} {vs:List Value},vs.length=l.length->(∀ i v,vs[i]? = some v->Rel (get l i) H E v)->RelL l H E vs
 | [],_,_,vs,h,_=>by simp at h;exact h
 | a::as,_,_,[],h,_=>by simp at h
 | a::as,_,_,v::r,h,k=>⟨v,r,rfl,k 0 v rfl,relL_mk (by simpa using h) fun i u hu=>k (i+1) u (by simpa using hu)⟩
theorem rel_getD {l:List AV} {H:HH} {E:Env} {vs:Array Value} (h:RelL l H E vs.toList) (i:Nat):Rel (get l i) H E (vs.getD i undef):=by
 rcases Nat.lt_or_ge i vs.size with hi | hi
 · have:vs.toList[i]? = some (vs.getD i undef):=by simp [hi]
   exact relL_get h i _ this
 · have hl:=RelL.length h
   have:get l i=.junk:=by
    have:∀ (l:List AV) i,l.length<=i->get l i=.junk:=by
     intro l
     induction l with
     | nil=>intro i _;cases i<;>rfl
     | cons a l ih=>intro i hi;match i,hi with | 0,hi=>simp at hi | i+1,hi=>exact ih i (by simpa using hi)
    exact this l i (by simp at hl;omega)
   rw [this];trivial
theorem length_set (l:List AV) (i:Nat) (v:AV):(set l i v).length=l.length:=by
 induction l generalizing i with
 | nil=>rfl
 | cons a l ih=>cases i<;>simp [set,ih]
theorem get_set:∀ (l:List AV) (i j:Nat) (v:AV),get (set l i v) j=if i=j/\i<l.length then v else get l j
 | [],i,j,v=>by simp [set]
 | _::_,0,0,v=>by simp [set,get]
 | _::_,0,_+1,v=>by simp [set,get]
 | _::_,_+1,0,v=>by simp [set,get]
 | _::l,i+1,j+1,v=>by simp only [set,get,get_set l i j v,List.length_cons,Nat.add_right_cancel_iff,Nat.add_lt_add_iff_right]
theorem length_setL (vs:List AV):∀ (l:List AV) (o:Nat),(setL l o vs).length=l.length:=by
 induction vs with
 | nil=>intro l o;cases l<;>rfl
 | cons v vs ih=>intro l o;cases l<;>simp [setL,ih,length_set]
theorem get_setL:∀ (vs l:List AV) (o j:Nat),o+vs.length<=l.length->get (setL l o vs) j=if o<=j/\j<o+vs.length then get vs (j - o) else get l j
 | [],l,o,j,_=>by
   have:¬ (o<=j/\j<o+([]:List AV).length):=by simp
   rw [if_neg this];cases l<;>rfl
 | v::vs,l,o,j,h=>by
   have hs:setL l o (v::vs)=setL (set l o v) (o+1) vs:=by cases l<;>rfl
   simp at h
   rw [hs,get_setL vs _ (o+1) j (by rw [length_set];omega),get_set]
   by_cases h1:o=j
   · subst h1
     rw [if_neg (by omega),if_pos ⟨rfl,by omega⟩,if_pos (by simp)]
     simp [get]
   · by_cases h2:o+1<=j/\j<o+1+vs.length
     · rw [if_pos h2,if_pos (by simp;omega)]
       obtain ⟨m,rfl⟩:∃ m,j=o+1+m:=⟨j - (o+1),by omega⟩
       have e1:o+1+m - (o+1)=m:=by omega
       have e2:o+1+m - o=m+1:=by omega
       rw [e1,e2];rfl
     · rw [if_neg h2,if_neg (by omega),if_neg (by simp;omega)]
theorem length_takeL (l:List AV):∀ (o n:Nat),(takeL l o n).length=n
 | _,0=>rfl
 | o,n+1=>by simp [takeL,length_takeL l (o+1) n]
theorem get_takeL (l:List AV):∀ (n o i:Nat),i<n->get (takeL l o n) i=get l (o+i)
 | 0,_,i,h=>by omega
 | n+1,o,0,_=>by simp [takeL,get]
 | n+1,o,i+1,h=>by
   simp only [takeL,get]
   rw [get_takeL l n (o+1) i (by omega)]
   congr 1;omega
theorem length_tab (c:Nat->AV):∀ (o n:Nat),(tab c o n).length=n
 | _,0=>rfl
 | o,n+1=>by simp [tab,length_tab c (o+1) n]
theorem get_tab (c:Nat->AV):∀ (n o i:Nat),i<n->get (tab c o n) i=c (o+i)
 | 0,_,i,h=>by omega
 | n+1,o,0,_=>by simp [tab,get]
 | n+1,o,i+1,h=>by
   simp only [tab,get]
   rw [get_tab c n (o+1) i (by omega)]
   congr 1;omega
theorem rel_sAV (v:Value) (H:HH) (E:Env):Rel (sAV v) H E v:=by
 unfold sAV
 split
 · rename_i h;exact ⟨rfl,h⟩
 · trivial
theorem relL_sAV (H:HH) (E:Env):∀ (vs:List Value),RelL (vs.map sAV) H E vs
 | []=>rfl
 | v::vs=>⟨v,vs,rfl,rel_sAV v H E,relL_sAV H E vs⟩
theorem rel_toAV (v:Value) (H:HH) (E:Env):Rel (toAV v) H E v:=by
 cases v with
 | agg cs=>exact ⟨cs,rfl,relL_sAV H E cs.toList⟩
 | _=>exact rel_sAV _ H E
def RelT (t:Nat->AV) (H:HH) (E:Env) (a:Act):Prop:=∀ i,Rel (t i) H E (a.tmps.getD i undef)
theorem relT_of {t:List AV} {a:Act} {H:HH} {E:Env} (hT:RelL t H E a.tmps.toList):RelT (get t) H E a:=fun i=>rel_getD hT i
theorem rel_ev {t:Nat->AV} {a:Act} {H:HH} {E:Env} (hT:RelT t H E a) (x:Operand):Rel (ev t x) H E (a.eval x):=by
 cases x with
 | tmp i=>exact hT i
 | const v=>exact rel_toAV v H E
 | global g=>trivial
 | func f=>exact ⟨#[],#[],rfl,rfl,rfl⟩
theorem relL_ev {t:Nat->AV} {a:Act} {H:HH} {E:Env} (hT:RelT t H E a):∀ (l:List Operand),RelL (l.map (ev t)) H E (l.map a.eval)
 | []=>rfl
 | x::l=>⟨_,_,rfl,rel_ev hT x,relL_ev hT l⟩
theorem one_cell {a:AV} {H:HH} {E:Env} {v:Value} (h1:one a=true) (h:Rel a H E v):v.oneCell'=true:=by
 cases a with
 | s u=>obtain ⟨rfl,hs⟩:=h;cases v<;>first | rfl | simp [scalar] at hs
 | y u=>obtain ⟨rfl,hs⟩:=h;cases v<;>first | rfl | simp [scalar] at hs
 | ys b sz n c=>obtain ⟨a,cap,rfl,_⟩:=h;rfl
 | yn b sz n c=>obtain ⟨a,cap,rfl,_⟩:=h;rfl
 | junk=>simp [one] at h1
 | ptr i k sz o=>obtain ⟨_,b,_,rfl⟩:=h;rfl
 | own i sz lo n =>
   obtain ⟨_,_,h2⟩:=h
   split at h2
   · obtain ⟨a,rfl,_⟩:=h2;rfl
   · obtain ⟨_,_,rfl⟩:=h2;rfl
 | mref i=>obtain ⟨_,b,_,rfl⟩:=h;rfl
 | sl b sz n c=>obtain ⟨a,cap,rfl,_⟩:=h;rfl
 | ip b m c=>obtain ⟨ad,rfl,_⟩:=h;rfl
 | agg cs=>simp [one] at h1
 | tup cs=>simp [one] at h1
 | fn f x y=>obtain ⟨_,_,rfl,_⟩:=h;rfl
 | ifc t x=>obtain ⟨_,rfl,_⟩:=h;rfl
 | opt b t x=>cases b with
   | true=>obtain ⟨_,rfl,_⟩:=h.1 rfl;rfl
   | false=>rw [h.2 rfl];rfl
theorem ones_of:∀ {l:List AV} {H:HH} {E:Env} {vs:List Value},allOne l=true->RelL l H E vs->ones vs
 | [],_,_,_,_,h=>by simp [RelL] at h;subst h;intro x hx;cases hx
 | a::as,_,_,_,h1,h=>by
   obtain ⟨v,r,rfl,h2,h3⟩:=h
   simp [allOne] at h1
   intro x hx
   rcases List.mem_cons.1 hx with rfl | hx
   · exact one_cell h1.1 h2
   · exact ones_of h1.2 h3 x hx
theorem cells_one {v:Value} (h:v.oneCell'=true):v.cells=#[v]:=by cases v<;>first | rfl | simp [Value.oneCell'] at h
theorem cellsOf_ok {a:AV} {l:List AV} {H:HH} {E:Env} {v:Value} (hc:cellsOf a=some l) (h:Rel a H E v):RelL l H E v.cells.toList/\ones v.cells.toList/\allOne l=true:=by
 have key:∀ b:AV,one b=true->b=a->l=[b]->RelL l H E v.cells.toList/\ones v.cells.toList/\allOne l=true:=by
  rintro b hb rfl rfl
  have h1:=one_cell hb h
  rw [cells_one h1]
  exact ⟨⟨v,[],rfl,h,rfl⟩,fun x hx=>by simp at hx;subst hx;exact h1,by simp [allOne,hb]⟩
 cases a with
 | agg cs =>
   simp only [cellsOf] at hc
   split at hc
   · rename_i h1
     cases hc
     obtain ⟨vs,rfl,hr⟩:=h
     exact ⟨hr,ones_of h1 hr,h1⟩
   · cases hc
 | junk=>simp [cellsOf,one] at hc
 | tup cs=>simp [cellsOf,one] at hc
 | s u=>exact key _ rfl rfl (by simpa [cellsOf,one] using hc.symm)
 | y u=>exact key _ rfl rfl (by simpa [cellsOf,one] using hc.symm)
 | ys b sz n c=>exact key _ rfl rfl (by simpa [cellsOf,one] using hc.symm)
 | yn b sz n c=>exact key _ rfl rfl (by simpa [cellsOf,one] using hc.symm)
 | mref i=>exact key _ rfl rfl (by simpa [cellsOf,one] using hc.symm)
 | ptr i k sz o=>exact key _ rfl rfl (by simpa [cellsOf,one] using hc.symm)
 | own i sz lo n=>exact key _ rfl rfl (by simpa [cellsOf,one] using hc.symm)
 | sl b sz n c=>exact key _ rfl rfl (by simpa [cellsOf,one] using hc.symm)
 | ip b m c=>exact key _ rfl rfl (by simpa [cellsOf,one] using hc.symm)
 | fn f x y=>exact key _ rfl rfl (by simpa [cellsOf,one] using hc.symm)
 | ifc t x=>exact key _ rfl rfl (by simpa [cellsOf,one] using hc.symm)
 | opt b t x=>exact key _ rfl rfl (by simpa [cellsOf,one] using hc.symm)
def All (ob:List Bool):Prop:=∀ b∈ob,b=true
theorem all_nil:All []:=fun _ h=>by cases h
theorem All.append {a b:List Bool} (h:All (a++b)):All a/\All b:=⟨fun x hx=>h x (by simp [hx]),fun x hx=>h x (by simp [hx])⟩
theorem chk_ok {h:Option Hint} {b:Bool} {ob:List Bool} (hc:chk h b=some ob) (ho:All ob):b=true:=by
 unfold chk at hc
 split at hc
 · cases hc;exact ho b (by simp)
 · split at hc
   · rfl
   · cases hc
theorem addr_add (b o n:Nat):(⟨b,o,none⟩:Addr).add n=⟨b,o+n,none⟩:=by unfold Addr.add;split<;>simp_all
theorem add_add' (a:Addr) (i j:Nat):(a.add i).add j=a.add (i+j):=by
 unfold Addr.add
 by_cases hi:i=0<;>by_cases hj:j=0<;>simp [hi,hj,Nat.add_assoc]
theorem imm_cell {H:HH} {w:World} (hi:∀ b o,H false b=some o->w.heap[b]? = some o) (ht:(H true).le (H false)) {b:Bool} {a:Addr} {v:Value} (h:(H b).cell? a=some v):w.cell? a=some v:=by
 have h':(H false).cell? a=some v:=by cases b;exact h;exact IH.le_cell ht h
 unfold IH.cell? at h'
 unfold World.cell?
 cases hb:H false a.block with
 | none=>rw [hb] at h';simp at h'
 | some o =>
   rw [hi _ _ hb]
   rw [hb] at h'
   cases o<;>first | exact h' | simp at h'
theorem HH.at_le_self {H:HH} (ht:(H true).le (H false)) (b:Bool):(H.at b).le H:=by
 cases b
 · exact HH.le_refl _
 · intro c;cases c
   · exact ht
   · exact IH.le_refl _
theorem run_isAgg' {P:Program} {t:TypeId} (w:World) (h:∃ d,P.underlying t=some d):(_root_.Go.isAgg t).run P w=.ok (isAgg P t) w:=by
 obtain ⟨d,hd⟩:=h
 unfold _root_.Go.isAgg isAgg
 simp only [Sem.run_bind,run_underlying hd,Result.andThen_ok,hd]
 cases d<;>rfl
theorem run_sizeOf' {P:Program} {t:TypeId} {n:Nat} (w:World) (h:sizeT P t=some n):(sizeOf t).run P w=.ok n w:=by
 unfold sizeT at h
 cases hi:P.info? t with
 | none=>simp [hi] at h
 | some i=>simp [hi] at h;subst h;simp [sizeOf,typeInfo,hi]
theorem und_of_size {P:Program} {t:TypeId} {n:Nat} (h:sizeT P t=some n):∃ i,P.info? t=some i/\i.size=n:=by
 unfold sizeT at h
 cases hi:P.info? t with
 | none=>simp [hi] at h
 | some i=>simp [hi] at h;exact ⟨i,rfl,h⟩
theorem e0_via (E:Env):E0.via E some:=fun _ _ _ h=>by simp [E0] at h
theorem rel_e0 {a:AV} {H:HH} {E:Env} {v:Value} (h:Rel a H E0 v):Rel a H E v:=Rel.env (e0_via E) h
theorem rel_in {a:AV} {H:HH} {E:Env} {v:Value} {b:Bool} (ht:(H true).le (H false)) (h:Rel a (H.at b) E0 v):Rel a H E v:=Rel.mono _ (HH.at_le_self ht b) (rel_e0 h)
theorem ones_sub {l:List Value} {q p n:Nat} (h:ones (l.take q)) (hpn:p+n<=q):ones ((l.drop p).take n):=by
 intro x hx
 obtain ⟨j,hj⟩:=List.mem_iff_getElem?.1 hx
 rw [List.getElem?_take] at hj
 split at hj
 · rw [List.getElem?_drop] at hj
   exact h x (List.mem_iff_getElem?.2 ⟨p+j,by rw [List.getElem?_take,if_pos (by omega)];exact hj⟩)
 · cases hj
theorem rdBlk_ok {H:HH} {E:Env} {w:World} {i b k sz o n:Nat} {B:Blk} {hh:Option Hint} {cs:List AV} {ob:List Bool} (hB:BlkOk H E w i B) (hb:E.ι i=some b)
 (h:rdBlk hh B k sz o n=some (cs,ob)) (ho:All ob) :
 ∃ vs:List Value,vs.length=n/\(∀ j u,vs[j]? = some u->w.cell? ⟨b,k*sz+o+j,none⟩=some u)/\RelL cs H E vs/\ones vs:=by
 cases B with
 | dead=>simp [rdBlk] at h
 | mp es ck=>simp [rdBlk] at h
 | mi kk vk has c=>simp [rdBlk] at h
 | mit m since seen last=>simp [rdBlk] at h
 | any=>simp [rdBlk] at h
 | tmap q has c n kn=>simp [rdBlk] at h
 | trow ty sz' m cap c op zs =>
   obtain ⟨_,h0,hκ,_,h1⟩:=hB
   rw [hb] at h1
   obtain ⟨_,vs,F,h2,h4⟩:=h1
   simp only [rdBlk] at h
   split at h
   case h_2=>cases h
   rename_i k0 as r
   split at h
   case isFalse=>cases h
   rename_i hle
   simp only [Bool.and_eq_true,beq_iff_eq,Nat.ble_eq] at hle
   obtain ⟨rfl,hle⟩:=hle
   split at h
   case h_2=>cases h
   rename_i ob' hc
   cases h
   have hk:k=k0:=by simpa using chk_ok hc ho
   subst hk
   have hkm:=h4.lt (k,as) (by simp)
   have hkn:=h4.known (k,as) (by simp)
   simp only at hkm hkn
   have hms:m*sz'<=E.κ i*sz':=Nat.mul_le_mul_right _ h0.2
   have hk1:(k+1)*sz'<=m*sz':=Nat.mul_le_mul_right _ hkm
   rw [Nat.add_mul,Nat.one_mul] at hk1
   have hsize:=h4.size
   have hlen:=RelL.length hkn
   simp only [List.length_take,List.length_drop] at hlen
   refine ⟨(vs.toList.drop (k*sz'+o)).take n,by simp at hsize ⊢;omega,fun j u hu=>?_,relL_mk (by rw [length_takeL];simp at hsize ⊢;omega) fun j u hu=>?_,ones_sub h4.one (by omega)⟩
   · rw [cell_of_row w b _ vs ty (0,0) h2]
     rw [List.getElem?_take] at hu
     split at hu
     · rw [List.getElem?_drop] at hu;simpa using hu
     · cases hu
   · rw [List.getElem?_take] at hu
     split at hu
     · rename_i hj
       rw [get_takeL _ _ _ _ hj]
       rw [List.getElem?_drop] at hu
       exact relL_get hkn _ _ (by rw [List.getElem?_take,if_pos (by omega),List.getElem?_drop,<- Nat.add_assoc];exact hu)
     · cases hu
 | box ty l =>
   obtain ⟨_,b',vs,h1,h2,h3,h4⟩:=hB
   rw [hb] at h1;cases h1
   cases k with
   | succ k=>simp [rdBlk] at h
   | zero =>
     simp only [rdBlk,len_eq] at h
     split at h
     · rename_i hle
       cases h
       have hlen:=RelL.length h4
       refine ⟨(vs.toList.drop o).take n,by simp;simp at hlen;omega,fun j u hu=>?_,relL_mk (by rw [length_takeL];simp;simp at hlen;omega) fun j u hu=>?_,fun x hx=>h3 x (List.mem_of_mem_drop (List.mem_of_mem_take hx))⟩
       · rw [cell_of_row w b _ vs ty (0,0) h2]
         rw [List.getElem?_take] at hu
         split at hu
         · rw [List.getElem?_drop] at hu;simpa using hu
         · cases hu
       · rw [List.getElem?_take] at hu
         split at hu
         · rename_i hj
           rw [get_takeL _ _ _ _ hj]
           rw [List.getElem?_drop] at hu
           exact relL_get h4 _ _ hu
         · cases hu
     · cases h
 | lst ty sz' m cap l =>
   obtain ⟨_,h0,hκ,_,h1⟩:=hB
   rw [hb] at h1
   obtain ⟨vs,h2,h3,h5,h4⟩:=h1
   simp only [rdBlk] at h
   split at h
   · rename_i hle
     cases h
     simp only [Bool.and_eq_true,beq_iff_eq,Nat.ble_eq,len_eq] at hle
     obtain ⟨rfl,hle⟩:=hle
     have hlen:=RelL.length h4
     have hm:m*sz'<=vs.toList.length:=by simp [h5];exact Nat.mul_le_mul_right _ h0.2
     have hll:l.length=m*sz':=by simp at hlen;simp at hm;omega
     refine ⟨(vs.toList.drop (k*sz'+o)).take n,by simp;simp at hm;omega,fun j u hu=>?_,relL_mk (by rw [length_takeL];simp;simp at hm;omega) fun j u hu=>?_,ones_sub h3 (by rw [<- hll];exact hle)⟩
     · rw [cell_of_row w b _ vs ty (0,0) h2]
       rw [List.getElem?_take] at hu
       split at hu
       · rw [List.getElem?_drop] at hu;simpa using hu
       · cases hu
     · rw [List.getElem?_take] at hu
       split at hu
       · rename_i hj
         rw [get_takeL _ _ _ _ hj]
         rw [List.getElem?_drop] at hu
         exact relL_get h4 _ _ (by rw [List.getElem?_take,if_pos (by omega)];exact hu)
       · cases hu
   · cases h
 | row ty sz' m cap c =>
   obtain ⟨_,h0,hκ,_,h1⟩:=hB
   rw [hb] at h1
   obtain ⟨vs,h2,h3,h5,h4⟩:=h1
   simp only [rdBlk] at h
   split at h
   · rename_i hle
     simp only [Bool.and_eq_true,beq_iff_eq,Nat.ble_eq] at hle
     obtain ⟨rfl,hle⟩:=hle
     split at h
     case h_2=>cases h
     rename_i ob' hc
     cases h
     have hk:k<m:=by simpa using chk_ok hc ho
     have hcell:∀ j,j<n->∃ x,vs[k*sz'+(o+j)]? = some x/\Rel (c k (o+j)) H E0 x:=fun j hj=>h4 k hk (o+j) (by omega)
     have hkm:k*sz'+o+n<=m*sz':=by
      have:(k+1)*sz'<=m*sz':=Nat.mul_le_mul_right _ hk
      rw [Nat.add_mul] at this;omega
     have hsz:k*sz'+(o+n)<=vs.size:=by
      have:m*sz'<=E.κ i*sz':=Nat.mul_le_mul_right _ h0.2
      omega
     refine ⟨(vs.toList.drop (k*sz'+o)).take n,by simp;omega,fun j u hu=>?_,relL_mk (by rw [length_tab];simp;omega) fun j u hu=>?_,ones_sub h3 hkm⟩
     · rw [cell_of_row w b _ vs ty (0,0) h2]
       rw [List.getElem?_take] at hu
       split at hu
       · rw [List.getElem?_drop] at hu;simpa using hu
       · cases hu
     · rw [List.getElem?_take] at hu
       split at hu
       · rename_i hj
         rw [get_tab _ _ _ _ hj]
         rw [List.getElem?_drop] at hu
         obtain ⟨x,hx,hr⟩:=hcell j hj
         have:x=u:=by
          have:vs[k*sz'+(o+j)]? = some u:=by rw [<- Nat.add_assoc];simpa using hu
          rw [hx] at this;simpa using this
         subst this
         exact rel_e0 hr
       · cases hu
   · cases h
theorem rdPtr_ok {H:HH} {E:Env} {w:World} {M:List Blk} {hh:Option Hint} {av:AV} {v:Value} {n:Nat} {cs:List AV} {ob:List Bool} (hC:Conc H E w M) (hr:Rel av H E v)
 (h:rdPtr hh (getM M) av n=some (cs,ob)) (ho:All ob) :
 ∃ ad,∃ vs:List Value,v=.pointer (some ad)/\vs.length=n/\(∀ j u,vs[j]? = some u->w.cell? (ad.add j)=some u)/\RelL cs H E vs/\ones vs:=by
 cases av with
 | ptr i k sz o =>
   obtain ⟨hl,b,hb,rfl⟩:=hr
   obtain ⟨vs,h1,h2,h3,h4⟩:=rdBlk_ok (hC.blk i) hb h ho
   exact ⟨_,vs,rfl,h1,fun j u hu=>by rw [addr_add];exact h2 j u hu,h3,h4⟩
 | ip b m c =>
   obtain ⟨ad,rfl,hc⟩:=hr
   simp only [rdPtr] at h
   split at h
   · rename_i hle
     cases h
     have hle:n<=m:=by simpa using hle
     have hex:∀ n',n'<=m->∃ vs:List Value,vs.length=n'/\∀ j u,vs[j]? = some u->w.cell? (ad.add j)=some u/\Rel (c j) H E u/\u.oneCell'=true:=by
      intro n'
      induction n' with
      | zero=>intro _;exact ⟨[],rfl,fun j u hu=>by simp at hu⟩
      | succ q ih =>
        intro hq
        obtain ⟨vs,hl,hv⟩:=ih (by omega)
        obtain ⟨x,hx,h1,hrx⟩:=hc q (by omega)
        refine ⟨vs++[x],by simp [hl],fun j u hu=>?_⟩
        rw [List.getElem?_append] at hu
        split at hu
        · exact hv j u hu
        · rename_i hj
          have:j=q:=by
           rcases Nat.lt_or_ge (j - vs.length) 1 with h' | h'
           · omega
           · rw [List.getElem?_eq_none (by simpa using h')] at hu;cases hu
          subst this
          simp [hl] at hu
          subst hu
          exact ⟨imm_cell hC.imm hC.tf.1 hx,rel_in hC.tf.1 hrx,h1⟩
     obtain ⟨vs,hl,hv⟩:=hex n hle
     refine ⟨ad,vs,rfl,hl,fun j u hu=>(hv j u hu).1,relL_mk (by rw [length_tab,hl]) fun j u hu=>?_,fun x hx=>?_⟩
     · have hj:j<n:=by rw [<- hl];exact (List.getElem?_eq_some_iff.1 hu).1
       rw [get_tab _ _ _ _ hj,Nat.zero_add]
       exact (hv j u hu).2.1
     · obtain ⟨j,hj⟩:=List.mem_iff_getElem?.1 hx
       exact (hv j x hj).2.2
   · cases h
 | _=>simp [rdPtr] at h
structure Plain (e:Eff):Prop where
 wr:e.wr=[]
 kl:e.kl=[]
theorem plain_pur {r:AV} {e:Eff} (h:pur r=some e):Plain e/\e.r=r/\e.ob=[]:=by cases h;exact ⟨⟨rfl,rfl⟩,rfl,rfl⟩
theorem plain_purO {r:AV} {ob:List Bool} {e:Eff} (h:purO r ob=some e):Plain e/\e.r=r/\e.ob=ob:=by cases h;exact ⟨⟨rfl,rfl⟩,rfl,rfl⟩
theorem agree_eq {y x:Bool} (h:agree y x=true):x=y:=by cases y<;>cases x<;>simp_all [agree]
theorem boolR_ok {hh:Option Hint} {x:Bool} {e:Eff} {H:HH} {E:Env} (h:boolR hh x=some e) (ho:All e.ob):Plain e/\Rel e.r H E (.bool x):=by
 unfold boolR at h
 split at h
 · rename_i y
   obtain ⟨hp,hr,hob⟩:=plain_purO h
   refine ⟨hp,?_⟩
   rw [hr]
   have hxy:x=y:=agree_eq (ho (agree y x) (by rw [hob];simp))
   subst hxy
   exact ⟨rfl,rfl⟩
 · obtain ⟨hp,hr,_⟩:=plain_pur h
   exact ⟨hp,by rw [hr];exact ⟨rfl,rfl⟩⟩
theorem load_ok {P:Program} {H:HH} {E:Env} {w:World} {M:List Blk} {hh:Option Hint} {t:TypeId} {av:AV} {v:Value} {e:Eff} (hC:Conc H E w M) (hr:Rel av H E v)
 (hu:∃ d,P.underlying t=some d) (h:aLoad P hh (getM M) t av=some e) (ho:All e.ob):Plain e/\∃ u,(Instr.loadAt t v).run P w=.ok u w/\Rel e.r H E u:=by
 unfold aLoad at h
 split at h
 · rename_i hagg
   split at h
   case h_2=>cases h
   rename_i n hn
   split at h
   case h_2=>cases h
   rename_i cs ob hp
   obtain ⟨hpl,hr',hob⟩:=plain_purO h
   obtain ⟨ad,vs,rfl,hl,hc,hrel,_⟩:=rdPtr_ok hC hr hp (by rw [<- hob];exact ho)
   refine ⟨hpl,.agg vs.toArray,?_,by rw [hr'];exact ⟨_,rfl,hrel⟩⟩
   have hlc:=run_loadCells_list (P:=P) w ad vs hc
   rw [hl] at hlc
   simp [Instr.loadAt,Instr.sureAddr,loadVar,run_isAgg' w hu,hagg,run_sizeOf' w hn,hlc]
 · rename_i hagg
   split at h
   · rename_i c _ ob hp
     have hone:∀ {ob':List Bool},All ob'->ob'=ob->∃ ad u,v=.pointer (some ad)/\w.cell? ad=some u/\Rel c H E u:=by
      rintro _ ho' rfl
      obtain ⟨ad,vs,rfl,hl,hc,hrel,_⟩:=rdPtr_ok hC hr hp ho'
      obtain ⟨u,r,rfl,h1,_⟩:=hrel
      exact ⟨ad,u,rfl,by have:=hc 0 u rfl;simpa [Addr.add] using this,h1⟩
     have hrun:∀ ad u,w.cell? ad=some u->(Instr.loadAt t (.pointer (some ad))).run P w=.ok u w:=by
      intro ad u hc
      simp [Instr.loadAt,Instr.sureAddr,loadVar,run_isAgg' w hu,hagg,hc]
     split at h
     · rename_i y x
       obtain ⟨hpl,hr',hob⟩:=plain_purO h
       obtain ⟨ad,u,rfl,hc,h1⟩:=hone (fun b hb=>ho b (by rw [hob];simp [hb])) rfl
       refine ⟨hpl,u,hrun ad u hc,?_⟩
       rw [hr']
       obtain ⟨rfl,_⟩:=h1
       have hxy:x=y:=agree_eq (ho (agree y x) (by rw [hob];simp))
       subst hxy
       exact ⟨rfl,rfl⟩
     · obtain ⟨hpl,hr',hob⟩:=plain_purO h
       obtain ⟨ad,u,rfl,hc,h1⟩:=hone ho hob
       exact ⟨hpl,u,hrun ad u hc,by rw [hr'];exact h1⟩
   · cases h
end Go.Ax
