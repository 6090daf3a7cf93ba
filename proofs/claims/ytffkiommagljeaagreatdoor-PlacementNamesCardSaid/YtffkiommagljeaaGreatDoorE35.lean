import Derived.Test.YtffkiommagljeaaGreatDoorE1
import Derived.Test.YtffkiommagljeaaGreatDoorE9
set_option linter.unusedVariables false
set_option linter.unusedSimpArgs false
set_option linter.unusedSectionVars false
set_option linter.unusedVariables false
namespace Go.Ax
open Go Go.Proofs Go.Shelf Go.RowKit Go.Lib
variable [Inhabited Gl0]
variable {P:Program} {ρ:Ren}
set_option maxHeartbeats 4000000 in
set_option maxRecDepth 100000 in
theorem ins_end {sz bytes:Nat} {zv:Value} {nm:String} (L:InsLay P ρ sz bytes zv nm) (base:Option Addr) (n c vb voff m vc:Nat) (w w1:World) (v':Value) (hm:0<m) (hnc:n<=c) (hc63:c<=9223372036854775807) (hnil:base=none->n=0)
 (hrun:(Builtin.append_ #[(ρ.t 24),(ρ.t 24)] (ρ.t 24) #[.slice base n c,.slice (some ⟨vb,voff,none⟩) m vc]).run P w=.ok v' w1) :
 Calls P (ρ.f 22) #[.slice base n c,.int .i64 n,.slice (some ⟨vb,voff,none⟩) m vc] w fun e w'=>e=.returned v'/\w'=w1:=by
 have t0:=L.t0;have a0:=L.a0;have z0:=L.z0;have v0:=L.v0;have t3:=L.t3;have a3:=L.a3;have z3:=L.z3;have v3:=L.v3;have t4:=L.t4;have a4:=L.a4;have z4:=L.z4;have v4:=L.v4;have t24:=L.t24;have a24:=L.a24;have z24:=L.z24;have v24:=L.v24;have z9:=L.z9
 have u0:=run_underlying L.t0;have u3:=run_underlying L.t3;have u4:=run_underlying L.t4;have u24:=run_underlying L.t24
 have mixed:=L.mixed
 have hz1:¬ ((m:Int)=0):=by omega
 go_enter L.f22,Body2.n22_ntmps ρ
 cases base with
 | none =>
   have h0:=hnil rfl
   subst h0
   go_wp2_with (at_builtin;refine Lib.wpList_append_run _ rfl _ _ _ _ rfl _ _ rfl rfl _ _ hrun ?_)
   go_ret
   exact ⟨rfl,rfl⟩
 | some a =>
   obtain ⟨ab,ao,asp⟩:=a
   go_wp2_with (at_builtin;refine Lib.wpList_append_run _ rfl _ _ _ _ rfl _ _ rfl rfl _ _ hrun ?_)
   all_goals (go_ret;exact ⟨rfl,rfl⟩)
structure SetAt (w w':World) (b o:Nat) (vs:List Value) (cur cur':Array Value) (el:TypeId) (fz:Nat×Nat):Prop where
 at':w'.heap[b]? = some (.cells cur' el fz)
 size:cur'.size=cur.size
 get:∀ j,cur'[j]? = if o<=j/\j<o+vs.length then vs[j - o]? else cur[j]?
 hsize:w'.heap.size=w.heap.size
 other:∀ k,k≠b->w'.heap[k]? = w.heap[k]?
 os:w'.os=w.os
 tape:w'.tape=w.tape
 output:w'.output=w.output
theorem setCell_at (w:World) (b o:Nat) (v:Value) (cur:Array Value) (el:TypeId) (fz:Nat×Nat) (h:w.heap[b]? = some (.cells cur el fz)) (ho:o<cur.size) :
 SetAt w (w.setCell ⟨b,o,none⟩ v) b o [v] cur (cur.setIfInBounds o v) el fz:=by
 refine ⟨?_,by simp,fun j=>?_,by simp [World.setCell],fun k hk=>?_,rfl,rfl,rfl⟩
 · simp [World.setCell,Array.getElem?_modify,h]
 · rw [Array.getElem?_setIfInBounds]
   by_cases hj:o=j
   · subst hj
     have e:o<=o/\o<o + [v].length:=⟨Nat.le_refl _,by simp⟩
     simp [ho]
   · rw [if_neg hj,if_neg (by simp;omega)]
 · simp [World.setCell,Array.getElem?_modify,Ne.symm hk]
theorem setCells_at (b:Nat) (el:TypeId) (fz:Nat×Nat):∀ (vs:List Value) (o:Nat) (w:World) (cur:Array Value),w.heap[b]? = some (.cells cur el fz)->o+vs.length<=cur.size->∃ cur',SetAt w (w.setCells b o vs) b o vs cur cur' el fz
 | [],o,w,cur,h,_=>⟨cur,h,rfl,fun j=>by rw [if_neg (by simp only [List.length_nil];omega)],rfl,fun _ _=>rfl,rfl,rfl,rfl⟩
 | v::r,o,w,cur,h,hl=>by
   simp only [List.length_cons] at hl
   have h1:=setCell_at w b o v cur el fz h (by omega)
   obtain ⟨cur',h2⟩:=setCells_at b el fz r (o+1) _ _ h1.at' (by rw [h1.size];omega)
   refine ⟨cur',h2.at',h2.size.trans h1.size,fun j=>?_,h2.hsize.trans h1.hsize,fun k hk=>(h2.other k hk).trans (h1.other k hk),h2.os.trans h1.os,h2.tape.trans h1.tape,h2.output.trans h1.output⟩
   rw [h2.get,h1.get]
   simp only [List.length_cons,List.length_nil]
   by_cases a:o+1<=j/\j<o+1+r.length
   · rw [if_pos a,if_pos (by omega),show j - o=(j - (o+1))+1 by omega,List.getElem?_cons_succ]
   · rw [if_neg a]
     by_cases c:o=j
     · subst c
       rw [if_pos (by omega),if_pos (by omega)];simp
     · rw [if_neg (by omega),if_neg (by omega)]
theorem frozen_of_row {w:World} {b:Nat} {cur:Array Value} {el:TypeId} (h:w.heap[b]? = some (.cells cur el (0,0))) (j:Nat):w.frozen? ⟨b,j,none⟩=false:=by
 simp [World.frozen?,h]
theorem insert_run {sz bytes:Nat} {zv:Value} {nm:String} (L:InsLay P ρ sz bytes zv nm) {i0:TypeInfo} (hi0:P.info? (ρ.t 9)=some i0) (hz0:i0.zero=some zv) (hs0:i0.size=sz) (hb0:i0.bytes=bytes)
 {w:World} {s:Value} {n m i vb voff vc:Nat} {xs news:List Value} {vcur:Array Value} {tA:TypeId} (hown:w.ownsRow 0 (ρ.t 9) sz s n xs) (hin:i<=n) (hm:0<m) (hvb:s.ownBlock≠some vb)
 (hvh:w.heap[vb]? = some (.cells vcur tA (0,0))) (hvl:news.length=m*sz) (hvs:∀ j v,news[j]? = some v->vcur[voff+j]? = some v) (h1c:ones xs) (h1v:ones news) (h63:n+m<=maxLen) (hbig:(n+m)*bytes<=140737488355328) :
 Calls P (ρ.f 22) #[s,.int .i64 i,.slice (some ⟨vb,voff,none⟩) m vc] w fun e w'=>∃ s',e=.returned s'/\w'.ownsRow 0 (ρ.t 9) sz s' (n+m) (xs.take (i*sz)++news++xs.drop (i*sz))/\w.grownBy w' s.ownBlock /\
  (s'.ownBlock=s.ownBlock∨s'.ownBlock=some w.heap.size):=by
 have hm63:maxLen=9223372036854775807:=rfl
 have h0:0<sz:=L.pos
 have hle:∀ x y:Nat,x<=y->x*sz<=y*sz:=fun x y h=>Nat.mul_le_mul_right _ h
 have hvc:∀ j v,news[j]? = some v->w.cell? ⟨vb,voff+j,none⟩=some v:=fun j v hj=>by
  rw [cell_of_row w vb _ vcur tA (0,0) hvh];exact hvs j v hj
 by_cases hie:i=n
 · subst hie
   obtain ⟨v',w',hrun,hown',hgrow,_,hat⟩:=append_run (P:=P) (ty:=ρ.t 24) (t:=ρ.t 24) (c:=vc) (news:=news) (A:=some ⟨vb,voff,none⟩) (m:=m) L.t24 hi0 hz0 (by rw [hs0];exact L.zc) (by omega) (by rw [hs0];exact hown) (by rw [hs0];exact hvl) (fun h=>by cases h)
    (fun ad had j u hu=>by cases had;rw [addr_add];exact hvc j u hu) h1v h63 (by rw [hb0];exact hbig)
   have hx:xs.take (i*sz)=xs/\xs.drop (i*sz)=[]:=by
    have:=hown.1
    exact ⟨List.take_of_length_le (by omega),List.drop_of_length_le (by omega)⟩
   rw [hx.1,hx.2,List.append_nil]
   rw [hs0] at hown'
   have key:∀ base c,s=.slice base i c->(base=none->i=0)->i<=c->c<=9223372036854775807->Calls P (ρ.f 22) #[s,.int .i64 i,.slice (some ⟨vb,voff,none⟩) m vc] w fun e w'=>∃ s',e=.returned s'/\w'.ownsRow 0 (ρ.t 9) sz s' (i+m) (xs++news)/\w.grownBy w' s.ownBlock /\
    (s'.ownBlock=s.ownBlock∨s'.ownBlock=some w.heap.size):=by
    intro base c hs hb hic hc
    subst hs
    refine (ins_end L base i c vb voff m vc w w' v' hm hic hc hb hrun).mono ?_
    rintro e w2 ⟨rfl,rfl⟩
    exact ⟨v',rfl,hown',hgrow,hat⟩
   rcases hown.2 with ⟨rfl,rfl⟩ | ⟨g,cap,cur,rfl,_,hg,hn,hmx,hs,ht⟩
   · exact key none 0 rfl (fun _=>rfl) (Nat.le_refl _) (by omega)
   · exact key (some ⟨g,0,none⟩) cap rfl (fun h=>by cases h) hn (by omega)
 · have hin':i<n:=by omega
   rcases hown.2 with ⟨rfl,rfl⟩ | ⟨g,c,cur,rfl,_,hg,hn,hmx,hs,ht⟩
   · omega
   have hxl:=hown.1
   have hcur:∀ j,j<n*sz->cur[j]? = xs[j]?:=fun j hj=>by
    rw [<- ht,List.getElem?_take,if_pos hj];simp
   have hcs:∀ j v,xs[j]? = some v->w.cell? ⟨g,j,none⟩=some v:=fun j v hj=>by
    have hj':=(List.getElem?_eq_some_iff.1 hj).1
    rw [cell_of_row w g _ cur (ρ.t 9) (0,0) hg,hcur j (by omega)];exact hj
   have hne:vb≠g:=fun e=>hvb (by subst e;rfl)
   have hnc:=hle n c hn
   have hdl:(xs.drop (i*sz)).length=(n - i)*sz:=by rw [List.length_drop,hxl,Nat.sub_mul]
   have him:(i+m)*sz+(n - i)*sz=(n+m)*sz:=by rw [<- Nat.add_mul];congr 1;omega
   have him2:(i+m)*sz=i*sz+m*sz:=Nat.add_mul _ _ _
   have hnm2:(n+m)*sz=n*sz+m*sz:=Nat.add_mul _ _ _
   have hil:=hle i n hin
   -- what the cells are in the end
   have fin:∀ (c2:Array Value),(∀ j,j<(n+m)*sz->c2[j]? = if i*sz<=j/\j<i*sz+m*sz then news[j - i*sz]? else if (i+m)*sz<=j/\j<(i+m)*sz+(n - i)*sz then (xs.drop (i*sz))[j - (i+m)*sz]? else xs[j]?)->(n+m)*sz<=c2.size ->
    c2.toList.take ((n+m)*sz)=xs.take (i*sz)++news++xs.drop (i*sz):=by
    intro c2 hc2 hl2
    apply List.ext_getElem?
    intro j
    rw [List.getElem?_take]
    by_cases hj:j<(n+m)*sz
    · rw [if_pos hj,Array.getElem?_toList,hc2 j hj]
      by_cases a:j<i*sz
      · rw [if_neg (by omega),if_neg (by omega),List.append_assoc,List.getElem?_append_left (by rw [List.length_take];omega),List.getElem?_take,if_pos a]
      · by_cases b:j<i*sz+m*sz
        · rw [if_pos (by omega),List.append_assoc,List.getElem?_append_right (by rw [List.length_take];omega),List.getElem?_append_left (by rw [List.length_take];omega)]
          rw [List.length_take,Nat.min_eq_left (by omega)]
        · rw [if_neg (by omega),if_pos (by omega),List.getElem?_append_right (by rw [List.length_append,List.length_take];omega)]
          rw [List.length_append,List.length_take,Nat.min_eq_left (by omega),hvl]
          congr 1;omega
    · rw [if_neg hj,List.getElem?_eq_none]
      rw [List.length_append,List.length_append,List.length_take,hdl,hvl];omega
   have hlen:(xs.take (i*sz)++news++xs.drop (i*sz)).length=(n+m)*sz:=by
    rw [List.length_append,List.length_append,List.length_take,hdl,hvl];omega
   by_cases hroom:n+m<=c
   · have hcc:=hle (n+m) c hroom
     have hin0:0<cur.size:=by have:=Nat.mul_pos (show 0<n by omega) h0;omega
     refine (ins_shift L g n c i vb voff m vc xs news w hin' hm hroom (by omega) hne hxl hvl hcs (fun j hj=>?_) (fun j _=>frozen_of_row hg j) hvc h1c h1v tA (ρ.t 9) vcur.size cur.size ?_ ?_ (by omega) (frozen_of_row hvh _) (frozen_of_row hvh _)).mono ?_
     · rw [cell_of_row w g _ cur (ρ.t 9) (0,0) hg,Array.getElem?_eq_getElem (by omega)];rfl
     · simp [World.shape?,hvh]
     · simp [World.shape?,hg]
     · rintro e w' ⟨rfl,rfl⟩
       obtain ⟨c1,a1⟩:=setCells_at g (ρ.t 9) (0,0) (xs.drop (i*sz)) ((i+m)*sz) w.drew cur hg (by rw [hdl];omega)
       obtain ⟨c2,a2⟩:=setCells_at g (ρ.t 9) (0,0) news (i*sz) _ c1 a1.at' (by rw [hvl,a1.size];omega)
       refine ⟨_,rfl,⟨hlen,.inr ⟨g,c,c2,rfl,Nat.zero_le _,a2.at',hroom,hmx,by rw [a2.size,a1.size,hs],?_⟩⟩,⟨a2.os.trans a1.os,a2.tape.trans a1.tape,a2.output.trans a1.output,by rw [a2.hsize,a1.hsize];exact Nat.le_refl _,fun k hk hkn=>?_⟩,.inl rfl⟩
       · refine fin c2 (fun j hj=>?_) (by rw [a2.size,a1.size,hs];exact hcc)
         rw [a2.get,hvl,a1.get,hdl]
         by_cases x:i*sz<=j/\j<i*sz+m*sz
         · rw [if_pos x,if_pos x]
         · rw [if_neg x,if_neg x]
           by_cases y:(i+m)*sz<=j/\j<(i+m)*sz+(n - i)*sz
           · rw [if_pos y,if_pos y]
           · rw [if_neg y,if_neg y];exact hcur j (by omega)
       · have:k≠g:=fun e=>hkn (by subst e;rfl)
         rw [a2.other k this,a1.other k this];rfl
   · refine (ins_grow L g n c i vb voff m vc xs news w hin' hm hn (by omega) hbig h63 hxl hvl hcs hvc h1c h1v).mono ?_
     rintro e w' ⟨rfl,rfl⟩
     have hG:=grownCap_ge w (n+m) c (ρ.t 9)
     have hG2:=grownCap_le_maxLen w (n+m) c (ρ.t 9) (by omega)
     generalize grownCap w (n+m) c (ρ.t 9)=G at hG hG2 ⊢
     have hRs:((xs.take (i*sz)).toArray++Builtin.zeroCells zv.cells (n+m - i)++Builtin.zeroCells zv.cells (G - (n+m))).size=G*sz:=by
      simp only [Array.size_append,zeroCells_size,L.zc,List.size_toArray,List.length_take,hxl]
      rw [Nat.min_eq_left (by omega),<- Nat.add_mul,<- Nat.add_mul];congr 1;omega
     have hRg:∀ j,j<i*sz->((xs.take (i*sz)).toArray++Builtin.zeroCells zv.cells (n+m - i)++Builtin.zeroCells zv.cells (G - (n+m)))[j]? = xs[j]?:=fun j hj=>by
      rw [Array.append_assoc,Array.getElem?_append_left (by simp;omega)]
      simp [List.getElem?_take,hj]
     generalize ((xs.take (i*sz)).toArray++Builtin.zeroCells zv.cells (n+m - i)++Builtin.zeroCells zv.cells (G - (n+m)))=ROW at hRs hRg ⊢
     have hGs:=hle (n+m) G hG
     have b0:(w.alloc (.cells ROW (ρ.t 9))).drew.heap[w.heap.size]? = some (.cells ROW (ρ.t 9) (0,0)):=heap_alloc_new w _
     obtain ⟨c1,a1⟩:=setCells_at w.heap.size (ρ.t 9) (0,0) news (i*sz) _ ROW b0 (by rw [hvl,hRs];omega)
     obtain ⟨c2,a2⟩:=setCells_at w.heap.size (ρ.t 9) (0,0) (xs.drop (i*sz)) ((i+m)*sz) ((w.alloc (.cells ROW (ρ.t 9))).drew.setCells w.heap.size (i*sz) news).drew c1 a1.at' (by rw [hdl,a1.size,hRs];omega)
     have hold:∀ k,k<w.heap.size->(w.alloc (.cells ROW (ρ.t 9))).drew.heap[k]? = w.heap[k]?:=fun k hk=>Go.RowKit.Below.heap_alloc w _ k hk
     have hszs:(w.alloc (.cells ROW (ρ.t 9))).drew.heap.size=w.heap.size+1:=Array.size_push _
     refine ⟨_,rfl,⟨hlen,.inr ⟨w.heap.size,G,c2,rfl,Nat.zero_le _,a2.at',hG,hG2,by rw [a2.size,a1.size,hRs],?_⟩⟩,⟨a2.os.trans a1.os,a2.tape.trans a1.tape,a2.output.trans a1.output,?_,fun k hk hkn=>?_⟩,.inr rfl⟩
     · refine fin c2 (fun j hj=>?_) (by rw [a2.size,a1.size,hRs];exact hGs)
       rw [a2.get,hdl,a1.get,hvl]
       by_cases y:(i+m)*sz<=j/\j<(i+m)*sz+(n - i)*sz
       · rw [if_pos y,if_neg (by omega),if_pos y]
       · rw [if_neg y]
         by_cases x:i*sz<=j/\j<i*sz+m*sz
         · rw [if_pos x,if_pos x]
         · rw [if_neg x,if_neg x,if_neg y];exact hRg j (by omega)
     · rw [a2.hsize]
       have:=a1.hsize
       rw [hszs] at this
       show w.heap.size<=((w.alloc (.cells ROW (ρ.t 9))).drew.setCells w.heap.size (i*sz) news).heap.size
       omega
     · have:k≠w.heap.size:=by omega
       rw [a2.other k this]
       show ((w.alloc (.cells ROW (ρ.t 9))).drew.setCells w.heap.size (i*sz) news).heap[k]? = _
       rw [a1.other k this,hold k hk]
end Go.Ax
