import Derived.Shelf.Spec.SlicesInsertGrow
set_option linter.unusedVariables false
set_option linter.unusedSimpArgs false
set_option linter.unusedSectionVars false
set_option linter.unusedVariables false
set_option linter.unusedSimpArgs false
namespace Go.Ax
open Go Go.Proofs Go.Shelf Go.RowKit Go.Lib
variable {P:Program} {ρ:Ren}
theorem run_copy_row (w:World) (dT sT ty elem:TypeId) (sz b o dLen dCap:Nat) (a:Addr) (sLen sCap:Nat) (cs:List Value)
 (hu:P.underlying dT=some (.slice elem)) (hs:(P.info? elem).map (·.size)=some sz) (hn:cs.length=Nat.min sLen dLen*sz)
 (hsrc:∀ j v,cs[j]? = some v->w.cell? (a.add j)=some v) (hc:∀ j,j<cs.length->(w.cell? ⟨b,o+j,none⟩).isSome=true) (hf:∀ j,j<cs.length->w.frozen? ⟨b,o+j,none⟩=false) (h1:∀ v∈cs,v.oneCell'=true) :
 (Builtin.copy_ #[dT,sT] ty #[.slice (some ⟨b,o,none⟩) dLen dCap,.slice (some a) sLen sCap]).run P w=.ok (goInt (Nat.min sLen dLen)) (w.setCells b o cs):=by
 have hl:=run_loadCells_list (P:=P) w a cs hsrc
 have hst:=run_storeCells_cells (P:=P) b o cs 0 w (by simpa using hc) (by simpa using hf) h1
 cases hq:P.info? elem with
 | none=>simp [hq] at hs
 | some i =>
   have hi:i.size=sz:=by simpa [hq] using hs
   simp [Builtin.copy_,run_underlying hu,Builtin.lenOf,Builtin.firstCells,sizeOf,typeInfo,hq,hi,<- hn,hl,hst]
structure InsLay (P:Program) (ρ:Ren) (sz bytes:Nat) (zv:Value) (nm:String):Prop where
 mixed:P.follows .mixedOrders=true
 f22:P.funcs[ρ.f 22]? = some { Body2.n22 ρ with name:=nm }
 ov:∀ (w:World) (args:Array Value),(callFunc (ρ.f 29) args).run P w=((Extern.SlicesOverlaps.overlaps #[(ρ.t 24),(ρ.t 24)] #[(ρ.t 4)] args).run P w).andThen fun v w'=>.ok (.value v) w'
 t0:P.underlying (ρ.t 0)=some (TypeDesc.tuple #[])
 a0:∀ w,(isAgg (ρ.t 0)).run P w=.ok false w
 z0:∀ w,(Go.sizeOf (ρ.t 0)).run P w=.ok 1 w
 v0:∀ w,(zeroValue (ρ.t 0)).run P w=.ok (Value.tuple #[]) w
 t3:P.underlying (ρ.t 3)=some (TypeDesc.int IntKind.i64)
 a3:∀ w,(isAgg (ρ.t 3)).run P w=.ok false w
 z3:∀ w,(Go.sizeOf (ρ.t 3)).run P w=.ok 1 w
 v3:∀ w,(zeroValue (ρ.t 3)).run P w=.ok (Value.int IntKind.i64 0) w
 t4:P.underlying (ρ.t 4)=some (TypeDesc.bool)
 a4:∀ w,(isAgg (ρ.t 4)).run P w=.ok false w
 z4:∀ w,(Go.sizeOf (ρ.t 4)).run P w=.ok 1 w
 v4:∀ w,(zeroValue (ρ.t 4)).run P w=.ok (Value.bool false) w
 t24:P.underlying (ρ.t 24)=some (TypeDesc.slice (ρ.t 9))
 a24:∀ w,(isAgg (ρ.t 24)).run P w=.ok false w
 z24:∀ w,(Go.sizeOf (ρ.t 24)).run P w=.ok 1 w
 v24:∀ w,(zeroValue (ρ.t 24)).run P w=.ok (Value.slice none 0 0) w
 z9:∀ w,(Go.sizeOf (ρ.t 9)).run P w=.ok sz w
 i9s:(P.info? (ρ.t 9)).map (·.size)=some sz
 i9:(P.info? (ρ.t 9)).map (fun i=>(i.zero,i.size,i.bytes))=some (some zv,sz,bytes)
 pos:0<sz
 zc:zv.cells.size=sz
set_option maxHeartbeats 4000000 in
set_option maxRecDepth 100000 in
theorem ins_shift {sz bytes:Nat} {zv:Value} {nm:String} (L:InsLay P ρ sz bytes zv nm) (b n c i vb voff m vc:Nat) (cs vs:List Value) (w:World) (hi:i<n) (hm:0<m) (hroom:n+m<=c) (hc63:c<=9223372036854775807) (hvb:vb≠b)
 (hcl:cs.length=n*sz) (hvl:vs.length=m*sz)
 (hcs:∀ j v,cs[j]? = some v->w.cell? ⟨b,j,none⟩=some v) (hsp:∀ j,j<(n+m)*sz->(w.cell? ⟨b,j,none⟩).isSome=true) (hfz:∀ j,j<(n+m)*sz->w.frozen? ⟨b,j,none⟩=false)
 (hvs:∀ j v,vs[j]? = some v->w.cell? ⟨vb,voff+j,none⟩=some v) (h1c:∀ v∈cs,v.oneCell'=true) (h1v:∀ v∈vs,v.oneCell'=true)
 (tA tB:TypeId) (kA kB:Nat) (hsa:w.shape? vb=some (tA,kA)) (hsb:w.shape? b=some (tB,kB)) (hkB:kB≠0) (hfa:w.frozen? ⟨vb,voff,none⟩=false) (hfe:w.frozen? ⟨vb,kA,none⟩=false) :
 Calls P (ρ.f 22) #[.slice (some ⟨b,0,none⟩) n c,.int .i64 i,.slice (some ⟨vb,voff,none⟩) m vc] w fun e w' =>
  e=.returned (.slice (some ⟨b,0,none⟩) (n+m) c)/\w'=(w.drew.setCells b ((i+m)*sz) (cs.drop (i*sz))).setCells b (i*sz) vs:=by
 have t0:=L.t0;have a0:=L.a0;have z0:=L.z0;have v0:=L.v0;have t3:=L.t3;have a3:=L.a3;have z3:=L.z3;have v3:=L.v3;have t4:=L.t4;have a4:=L.a4;have z4:=L.z4;have v4:=L.v4;have t24:=L.t24;have a24:=L.a24;have z24:=L.z24;have v24:=L.v24;have z9:=L.z9
 have u0:=run_underlying L.t0;have u3:=run_underlying L.t3;have u4:=run_underlying L.t4;have u24:=run_underlying L.t24
 have hz1:¬ ((m:Int)=0):=by omega
 have hz2:¬ ((i:Int)=(n:Int)):=by omega
 have hsz:(P.info? (ρ.t 9)).map (·.size)=some sz:=L.i9s
 have h0:0<sz:=L.pos
 have hov:∀ lb cb,(callFunc (ρ.f 29) #[.slice (some ⟨vb,voff,none⟩) m vc,.slice (some ⟨b,(i+m)*sz,none⟩) lb cb]).run P w=.ok (.value (.bool false)) w:=fun lb cb=>by
  rw [L.ov,Lib.run_overlaps_apart w (ρ.t 24) (ρ.t 4) (ρ.t 9) L.t24 sz L.z9 ⟨vb,voff,none⟩ ⟨b,(i+m)*sz,none⟩ m vc lb cb hvb tA tB kA kB hsa hsb hkB hfa hfe]
  rfl
 have hdl:(cs.drop (i*sz)).length=(n - i)*sz:=by rw [List.length_drop,hcl,Nat.sub_mul]
 have mixed:=L.mixed
 have hw1:IntKind.i64.wrap ((i:Int)+(m:Int))=(i:Int)+(m:Int):=by rw [IntKind.wrap_i64];omega
 have hb1:(0:Int)<=(i:Int)+(m:Int):=by omega
 have hin:i<=n:=by omega
 have htn:((i:Int)+(m:Int)).toNat=i+m:=by omega
 have hb2:¬ (c=i+m):=by omega
 have hb3:(i:Int)<=(n:Int)+(m:Int):=by omega
 have hb4:¬ (c=i):=by omega
 have hle:∀ x y:Nat,x<=y->x*sz<=y*sz:=fun x y h=>Nat.mul_le_mul_right _ h
 have hcp1:∀ ty dc sc,(Builtin.copy_ #[(ρ.t 24),(ρ.t 24)] ty #[.slice (some ⟨b,(i+m)*sz,none⟩) (n+m - (i+m)) dc,.slice (some ⟨b,i*sz,none⟩) (n+m - i) sc]).run P w.drew=.ok (goInt (n - i:Nat)) (w.drew.setCells b ((i+m)*sz) (cs.drop (i*sz))):=fun ty dc sc=>by
  have e:Nat.min (n+m - i) (n+m - (i+m))=n - i:=by simp only [Nat.min_def];split<;>omega
  have:=run_copy_row (P:=P) w.drew (ρ.t 24) (ρ.t 24) ty (ρ.t 9) sz b ((i+m)*sz) (n+m - (i+m)) dc ⟨b,i*sz,none⟩ (n+m - i) sc (cs.drop (i*sz)) L.t24 hsz (by rw [hdl,e])
   (fun j v hj=>by rw [Addr.add_lit];exact hcs (i*sz+j) v (by rwa [List.getElem?_drop] at hj))
   (fun j hj=>hsp _ (by rw [hdl] at hj;have:=hle (i+m+(n - i)) (n+m) (by omega);rw [Nat.add_mul] at this;omega)) (fun j hj=>hfz _ (by rw [hdl] at hj;have:=hle (i+m+(n - i)) (n+m) (by omega);rw [Nat.add_mul] at this;omega)) (fun v hv=>h1c v (List.mem_of_mem_drop hv))
  rw [e] at this
  exact this
 obtain ⟨W1,hW1⟩:∃ W1,W1=w.drew.setCells b ((i+m)*sz) (cs.drop (i*sz)):=⟨_,rfl⟩
 have hsp1:∀ k,k<(n+m)*sz->(W1.cell? ⟨b,k,none⟩).isSome=true:=fun k hk=>by
  rw [hW1]
  exact isSome_setCells b (cs.drop (i*sz)) ((i+m)*sz) w.drew (fun j hj=>hsp _ (by rw [hdl] at hj;have:=hle (i+m+(n - i)) (n+m) (by omega);rw [Nat.add_mul] at this;omega)) _ (hsp k hk)
 have hcp2:∀ (W:World),(∀ x,W.cell? x=W1.cell? x)->(∀ x,W.frozen? x=W1.frozen? x)->∀ ty dc,(Builtin.copy_ #[(ρ.t 24),(ρ.t 24)] ty #[.slice (some ⟨b,i*sz,none⟩) (n+m - i) dc,.slice (some ⟨vb,voff,none⟩) m vc]).run P W=.ok (goInt m) (W.setCells b (i*sz) vs):=fun W hWc hWf ty dc=>by
  have e:Nat.min m (n+m - i)=m:=by simp only [Nat.min_def];split<;>omega
  have:=run_copy_row (P:=P) W (ρ.t 24) (ρ.t 24) ty (ρ.t 9) sz b (i*sz) (n+m - i) dc ⟨vb,voff,none⟩ m vc vs L.t24 hsz (by rw [hvl,e])
   (fun j v hj=>by
     rw [Addr.add_lit,hWc,hW1,World.cell?_setCells_out b _ _ _ _ (fun h _=>absurd h hvb)]
     exact hvs j v hj)
   (fun j hj=>by rw [hWc];exact hsp1 _ (by rw [hvl] at hj;have:=hle (i+m) (n+m) (by omega);rw [Nat.add_mul] at this;omega)) (fun j hj=>by rw [hWf,hW1,World.frozen?_setCells];exact hfz _ (by rw [hvl] at hj;have:=hle (i+m) (n+m) (by omega);rw [Nat.add_mul] at this;omega)) h1v
  rw [e] at this
  exact this
 rw [<- hW1] at hcp1
 go_enter L.f22,Body2.n22_ntmps ρ
 go_wp2_with (simp only [hov])
 go_region_law_o (refine step_copy_runI rfl _ _ (ρ.t 24) (ρ.t 24) rfl _ _ (by simp [Act.eval,Act.put]) (by simp [Act.eval,Act.put]) (hcp1 _ _ _) ?_)
 go_wp2_with (at_builtin;refine wpList_copy_runI _ rfl _ _ (ρ.t 24) (ρ.t 24) rfl _ _ rfl rfl (hcp2 _ (fun _=>rfl) (fun _=>rfl) _ _) ?_)
 go_ret
 first | exact ⟨rfl,rfl⟩ | exact ⟨rfl,by rw [hW1]⟩
theorem zeroCells_size (z:Array Value) (k:Nat):(Builtin.zeroCells z k).size=k*z.size:=by
 simp [Builtin.zeroCells]
set_option maxHeartbeats 4000000 in
set_option maxRecDepth 100000 in
theorem ins_grow {sz bytes:Nat} {zv:Value} {nm:String} (L:InsLay P ρ sz bytes zv nm) (b n c i vb voff m vc:Nat) (cs vs:List Value) (w:World) (hi:i<n) (hm:0<m) (hnc:n<=c) (hroom:c<n+m) (hbig:(n+m)*bytes<=140737488355328) (h63:n+m<=maxLen)
 (hcl:cs.length=n*sz) (hvl:vs.length=m*sz)
 (hcs:∀ j v,cs[j]? = some v->w.cell? ⟨b,j,none⟩=some v)
 (hvs:∀ j v,vs[j]? = some v->w.cell? ⟨vb,voff+j,none⟩=some v) (h1c:∀ v∈cs,v.oneCell'=true) (h1v:∀ v∈vs,v.oneCell'=true) :
 Calls P (ρ.f 22) #[.slice (some ⟨b,0,none⟩) n c,.int .i64 i,.slice (some ⟨vb,voff,none⟩) m vc] w fun e w' =>
  e=.returned (.slice (some ⟨w.heap.size,0,none⟩) (n+m) (grownCap w (n+m) c (ρ.t 9))) /\
  w'=(((w.alloc (.cells ((cs.take (i*sz)).toArray++Builtin.zeroCells zv.cells (n+m - i)++Builtin.zeroCells zv.cells (grownCap w (n+m) c (ρ.t 9) - (n+m))) (ρ.t 9))).drew.setCells w.heap.size (i*sz) vs).drew).setCells w.heap.size ((i+m)*sz) (cs.drop (i*sz)):=by
 have t0:=L.t0;have a0:=L.a0;have z0:=L.z0;have v0:=L.v0;have t3:=L.t3;have a3:=L.a3;have z3:=L.z3;have v3:=L.v3;have t4:=L.t4;have a4:=L.a4;have z4:=L.z4;have v4:=L.v4;have t24:=L.t24;have a24:=L.a24;have z24:=L.z24;have v24:=L.v24;have z9:=L.z9
 have u0:=run_underlying L.t0;have u3:=run_underlying L.t3;have u4:=run_underlying L.t4;have u24:=run_underlying L.t24
 have mixed:=L.mixed
 have h0:0<sz:=L.pos
 have hzc:zv.cells.size=sz:=L.zc
 obtain ⟨i0,hi0,hz0,hzs,hzb⟩:=info_parts L.i9
 have hle:∀ x y:Nat,x<=y->x*sz<=y*sz:=fun x y h=>Nat.mul_le_mul_right _ h
 have hz1:¬ ((m:Int)=0):=by omega
 have hz2:¬ ((i:Int)=(n:Int)):=by omega
 have hz3:(c:Int)<(n:Int)+(m:Int):=by omega
 have hsz:(P.info? (ρ.t 9)).map (·.size)=some sz:=L.i9s
 have hn0:0<n*sz:=Nat.mul_pos (by omega) h0
 have hm0:0<m*sz:=Nat.mul_pos hm h0
 have hbw:b<w.heap.size:=block_lt_of_cell (hcs 0 _ (List.getElem?_eq_getElem (by omega)))
 have hvw:vb<w.heap.size:=block_lt_of_cell (hvs 0 _ (List.getElem?_eq_getElem (by omega)))
 have hkk:(n:Int)+(m:Int) - (i:Int)=((n+m - i:Nat):Int):=by omega
 have hik:i+(n+m - i)=n+m:=by omega
 have hil:=hle i n (by omega)
 have hold:(Builtin.firstCells i0.size i (.slice (some ⟨b,0,none⟩) i c)).run P w.drew=.ok (cs.take (i*sz)).toArray w.drew:=by
  rw [hzs]
  exact run_firstCells_some w.drew sz i ⟨b,0,none⟩ i c (cs.take (i*sz)) (by rw [List.length_take];omega) (fun j v hj=>by
   rw [Addr.add_lit,Nat.zero_add]
   rw [List.getElem?_take] at hj
   split at hj
   · exact hcs j v hj
   · cases hj)
 have hm63:maxLen=9223372036854775807:=rfl
 have hkb:(n+m - i)*bytes<=(n+m)*bytes:=Nat.mul_le_mul_right _ (by omega)
 have hrz:∀ ty,(Builtin.append_ #[(ρ.t 24),(ρ.t 3)] ty #[.slice (some ⟨b,0,none⟩) i c,.int .i64 ((n:Int)+(m:Int) - (i:Int))]).run P w =
  .ok (.slice (some ⟨w.heap.size,0,none⟩) (n+m) (grownCap w (n+m) c (ρ.t 9))) (w.drew.alloc (.cells ((cs.take (i*sz)).toArray++Builtin.zeroCells zv.cells (n+m - i)++Builtin.zeroCells zv.cells (grownCap w (n+m) c (ρ.t 9) - (n+m))) (ρ.t 9))):=fun ty=>by
  have h:=Lib.run_append_grow_zeros w (ρ.t 24) (ρ.t 3) ty (ρ.t 9) i0 _ .i64 .i64 L.t24 L.t3 hi0 hz0 (some ⟨b,0,none⟩) i c (cs.take (i*sz)) hold (n+m - i) (by omega) (by omega) (by omega) (by omega) (by rw [hzb];omega) (by rw [hzb,hik];exact growslice_fits hroom hbig)
  rw [hik] at h
  rw [hkk]
  exact h
 obtain ⟨G,hG⟩:∃ G,G=grownCap w (n+m) c (ρ.t 9):=⟨_,rfl⟩
 obtain ⟨ROW,hROW⟩:∃ ROW:Array Value,ROW=(cs.take (i*sz)).toArray++Builtin.zeroCells zv.cells (n+m - i)++Builtin.zeroCells zv.cells (G - (n+m)):=⟨_,rfl⟩
 rw [<- hG] at hrz ⊢
 rw [<- hROW] at hrz ⊢
 have hRl:(n+m)*sz<=ROW.size:=by
  rw [hROW]
  simp only [Array.size_append,zeroCells_size,hzc,List.size_toArray,List.length_take,hcl]
  have:(n+m)*sz=i*sz+(n+m - i)*sz:=by rw [<- Nat.add_mul,hik]
  omega
 obtain ⟨W1,hW1⟩:∃ W1,W1=w.drew.alloc (.cells ROW (ρ.t 9)):=⟨_,rfl⟩
 rw [<- hW1] at hrz
 have hN:∀ j,j<(n+m)*sz->(W1.cell? ⟨w.heap.size,j,none⟩).isSome=true:=fun j hj=>by
  rw [hW1,World.cell?_alloc_at (w:=w.drew) ROW _ w.heap.size j rfl,Array.getElem?_eq_getElem (by omega)];rfl
 have hNf:∀ j,W1.frozen? ⟨w.heap.size,j,none⟩=false:=fun j=>by rw [hW1];exact World.frozen?_alloc_at (w:=w.drew) ROW _ w.heap.size j rfl
 have hOb:∀ j v,w.cell? ⟨b,j,none⟩=some v->W1.cell? ⟨b,j,none⟩=some v:=fun j v h=>by rw [hW1,World.cell?_alloc_past (w:=w.drew) _ b j hbw];exact h
 have hOv:∀ j v,w.cell? ⟨vb,j,none⟩=some v->W1.cell? ⟨vb,j,none⟩=some v:=fun j v h=>by rw [hW1,World.cell?_alloc_past (w:=w.drew) _ vb j hvw];exact h
 have him:i*sz+m*sz<=(n+m)*sz:=by rw [<- Nat.add_mul];exact hle _ _ (by omega)
 have hdl:(cs.drop (i*sz)).length=(n - i)*sz:=by rw [List.length_drop,hcl,Nat.sub_mul]
 have himn:(i+m)*sz+(n - i)*sz<=(n+m)*sz:=by rw [<- Nat.add_mul];exact hle _ _ (by omega)
 have hcpA:∀ (W:World),(∀ x,W.cell? x=W1.cell? x)->(∀ x,W.frozen? x=W1.frozen? x)->∀ ty dc,(Builtin.copy_ #[(ρ.t 24),(ρ.t 24)] ty #[.slice (some ⟨w.heap.size,i*sz,none⟩) (n+m - i) dc,.slice (some ⟨vb,voff,none⟩) m vc]).run P W=.ok (goInt m) (W.setCells w.heap.size (i*sz) vs):=fun W hWc hWf ty dc=>by
  have e:Nat.min m (n+m - i)=m:=by simp only [Nat.min_def];split<;>omega
  have:=run_copy_row (P:=P) W (ρ.t 24) (ρ.t 24) ty (ρ.t 9) sz w.heap.size (i*sz) (n+m - i) dc ⟨vb,voff,none⟩ m vc vs L.t24 hsz (by rw [hvl,e])
   (fun j v hj=>by rw [Addr.add_lit,hWc];exact hOv _ v (hvs j v hj))
   (fun j hj=>by rw [hWc];exact hN _ (by omega)) (fun j hj=>by rw [hWf];exact hNf _) h1v
  rw [e] at this
  exact this
 have hGn:n+m<=G:=by rw [hG];exact grownCap_ge w _ _ _
 have hG63:G<=9223372036854775807:=by
  have:=grownCap_le_maxLen w (n+m) c (ρ.t 9) (by omega)
  rw [<- hG] at this
  unfold maxLen at this
  omega
 have hGi:¬ (G=i):=by omega
 have hGim:¬ (G=i+m):=by omega
 have hci:¬ (c=i):=by omega
 have hbN:b≠w.heap.size:=by omega
 have hcpB:∀ (W:World),(∀ x,W.cell? x=(W1.setCells w.heap.size (i*sz) vs).cell? x)->(∀ x,W.frozen? x=(W1.setCells w.heap.size (i*sz) vs).frozen? x)->∀ ty dc sc,(Builtin.copy_ #[(ρ.t 24),(ρ.t 24)] ty #[.slice (some ⟨w.heap.size,(i+m)*sz,none⟩) (n+m - (i+m)) dc,.slice (some ⟨b,i*sz,none⟩) (n - i) sc]).run P W=.ok (goInt (n - i:Nat)) (W.setCells w.heap.size ((i+m)*sz) (cs.drop (i*sz))):=fun W hWc hWf ty dc sc=>by
  have e:Nat.min (n - i) (n+m - (i+m))=n - i:=by simp only [Nat.min_def];split<;>omega
  have:=run_copy_row (P:=P) W (ρ.t 24) (ρ.t 24) ty (ρ.t 9) sz w.heap.size ((i+m)*sz) (n+m - (i+m)) dc ⟨b,i*sz,none⟩ (n - i) sc (cs.drop (i*sz)) L.t24 hsz (by rw [hdl,e])
   (fun j v hj=>by
     rw [Addr.add_lit,hWc,World.cell?_setCells_out _ _ _ _ _ (fun h _=>absurd h hbN)]
     exact hOb _ v (hcs (i*sz+j) v (by rwa [List.getElem?_drop] at hj)))
   (fun j hj=>by rw [hWc];exact isSome_setCells w.heap.size vs (i*sz) W1 (fun t ht=>hN _ (by omega)) _ (hN _ (by omega)))
   (fun j hj=>by rw [hWf,World.frozen?_setCells];exact hNf _) (fun v hv=>h1c v (List.mem_of_mem_drop hv))
  rw [e] at this
  exact this
 subst hW1
 have hE1:∀ x,((w.alloc (.cells ROW (ρ.t 9))).drew).cell? x=(w.drew.alloc (.cells ROW (ρ.t 9))).cell? x:=fun x=>rfl
 have hE2:∀ x,((w.alloc (.cells ROW (ρ.t 9))).drew).frozen? x=(w.drew.alloc (.cells ROW (ρ.t 9))).frozen? x:=fun x=>rfl
 have hF1:∀ x,(((w.alloc (.cells ROW (ρ.t 9))).drew.setCells w.heap.size (i*sz) vs).drew).cell? x=((w.drew.alloc (.cells ROW (ρ.t 9))).setCells w.heap.size (i*sz) vs).cell? x:=fun x=>rfl
 have hF2:∀ x,(((w.alloc (.cells ROW (ρ.t 9))).drew.setCells w.heap.size (i*sz) vs).drew).frozen? x=((w.drew.alloc (.cells ROW (ρ.t 9))).setCells w.heap.size (i*sz) vs).frozen? x:=fun x=>rfl
 have hw1:IntKind.i64.wrap ((i:Int)+(m:Int))=(i:Int)+(m:Int):=by rw [IntKind.wrap_i64];omega
 have hb1:(0:Int)<=(i:Int)+(m:Int):=by omega
 have hin:i<=n:=by omega
 have htn:((i:Int)+(m:Int)).toNat=i+m:=by omega
 have hb3:(i:Int)<=(n:Int):=by omega
 clear hkk hik hold hROW hG hRl
 go_enter L.f22,Body2.n22_ntmps ρ
 go_wp2_with (first
  | (at_builtin;refine Lib.wpList_append_run _ rfl _ _ _ _ rfl _ _ rfl rfl _ _ (hrz _) ?_)
  | (at_builtin;refine wpList_copy_runI _ rfl _ _ (ρ.t 24) (ρ.t 24) rfl _ _ rfl rfl (hcpA _ hE1 hE2 _ _) ?_)
  | (at_builtin;refine wpList_copy_runI _ rfl _ _ (ρ.t 24) (ρ.t 24) rfl _ _ rfl rfl (hcpB _ (fun _=>rfl) (fun _=>rfl) _ _ _) ?_))
 go_region_law_o (refine step_copy_runI rfl _ _ (ρ.t 24) (ρ.t 24) rfl (.slice (some ⟨w.heap.size,(i+m)*sz,none⟩) (n+m - (i+m)) (G - (i+m))) (.slice (some ⟨b,i*sz,none⟩) (n - i) (c - i)) (by simp [Act.eval,Act.put]) (by simp [Act.eval,Act.put]) (hcpB _ hF1 hF2 (ρ.t 3) (G - (i+m)) (c - i)) ?_)
 go_wp2
 go_ret
 exact ⟨rfl,rfl⟩
end Go.Ax
