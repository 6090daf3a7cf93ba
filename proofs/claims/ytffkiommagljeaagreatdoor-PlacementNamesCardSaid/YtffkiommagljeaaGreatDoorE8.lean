import Derived.Maps.AppendAt
import Derived.Test.YtffkiommagljeaaGreatDoorE7
set_option linter.unusedVariables false
set_option linter.unusedSimpArgs false
set_option linter.unusedSectionVars false
namespace Go.Ax
open Go
variable [Inhabited Gl0]
theorem sbin_ok {P:Program} {t:TypeId} {op:BinOp} {a b r:Value} (w:World) (h:sbin P t op a b=some r):(binOp op t a b).run P w=.ok r w/\scalar r=true/\∀ x y,(eqGuard op t x y a b).run P w=.ok () w:=by
 unfold sbin at h
 split at h
 all_goals first
  | (rename_i k a k' b;split at h;(case isFalse=>cases h);rename_i hk;subst hk;cases h;refine ⟨by simp [binOp,Op.intArith,Op.intCmp],rfl,fun x y=>by simp [eqGuard]⟩)
  | (rename_i a b;cases h;refine ⟨?_,rfl,fun x y=>by simp [eqGuard]⟩;simp [binOp,Op.stringOp,ByteArray.toList_eq];done)
  | (rename_i a b;split at h;(case h_2=>cases h);rename_i hu;cases h;first | exact ⟨run_eql_bool w t a b hu,rfl,fun x y=>by simp [eqGuard]⟩ | exact ⟨run_neq_bool w t a b hu,rfl,fun x y=>by simp [eqGuard]⟩)
  | cases h
theorem part_cell {P:Program} {t:TypeId} {cs:Array Value} {off:Nat} {v:Value} (w:World) (h:isAgg P t=false) (hu:∃ d,P.underlying t=some d) (hv:cs[off]? = some v):(part t cs off).run P w=.ok v w:=by
 simp [part,run_isAgg' w hu,h,hv]
theorem eqCells_ok {P:Program} {H:HH} {E:Env} (w:World):∀ {fs:List Field} {xs ys:List AV} {xv yv:Array Value} {q:Bool},eqCells P fs xs ys=some q->RelL xs H E xv.toList->RelL ys H E yv.toList ->
 (Op.eqFields 9999 xv yv fs).run P w=.ok q w
 | [],xs,ys,xv,yv,q,h,_,_=>by simp [eqCells] at h;subst h;simp [Op.eqFields]
 | f::r,xs,ys,xv,yv,q,h,hx,hy=>by
   simp only [eqCells] at h
   split at h
   · rename_i hn
     simp only [Op.eqFields,hn,ne_eq,not_true_eq_false,if_false]
     exact eqCells_ok w h hx hy
   · rename_i hn
     have hcell:∀ {l:List AV} {lv:Array Value} {o:Nat} {u:Value},RelL l H E lv.toList->get l o=.s u->lv[o]? = some u:=by
      intro l lv o u hl hg
      rcases Nat.lt_or_ge o lv.size with ho | ho
      · have h1:lv.toList[o]? = some lv[o]:=by simp [ho]
        have h2:=relL_get hl o _ h1
        rw [hg] at h2
        obtain ⟨h3,_⟩:=h2
        rw [<- h3];simp [ho]
      · have h3:∀ (l:List AV) i,l.length<=i->get l i=.junk:=by
         intro l
         induction l with
         | nil=>intro i _;cases i<;>rfl
         | cons a l ih=>intro i hi;match i,hi with | 0,hi=>simp at hi | i+1,hi=>exact ih i (by simpa using hi)
        have h4:=RelL.length hl
        rw [h3 l o (by simp at h4;omega)] at hg
        cases hg
     split at h
     · rename_i k a k' b hu hgx hgy
       split at h
       case isFalse=>cases h
       rename_i hk
       subst hk
       split at h
       case h_2=>cases h
       rename_i q' hq
       cases h
       have ha:isAgg P f.type=false:=by simp [isAgg,hu]
       simp only [Op.eqFields,hn,ne_eq,not_false_eq_true,if_true,Sem.run_bind,part_cell w ha ⟨_,hu⟩ (hcell hx hgx),part_cell w ha ⟨_,hu⟩ (hcell hy hgy),Result.andThen_ok,run_equalIn_int w 9998 f.type k _ a b hu]
       cases hab:(a==b)
       · simp
       · simp;exact eqCells_ok w hq hx hy
     · rename_i a b hu hgx hgy
       split at h
       case h_2=>cases h
       rename_i q' hq
       cases h
       have ha:isAgg P f.type=false:=by simp [isAgg,hu]
       simp only [Op.eqFields,hn,ne_eq,not_false_eq_true,if_true,Sem.run_bind,part_cell w ha ⟨_,hu⟩ (hcell hx hgx),part_cell w ha ⟨_,hu⟩ (hcell hy hgy),Result.andThen_ok,run_equalIn_string w 9998 f.type a b hu,ByteArray.toList_eq]
       cases hab:(a.data.toList==b.data.toList)
       · simp
       · simp;exact eqCells_ok w hq hx hy
     · rename_i a b hu hgx hgy
       split at h
       case h_2=>cases h
       rename_i q' hq
       cases h
       have ha:isAgg P f.type=false:=by simp [isAgg,hu]
       simp only [Op.eqFields,hn,ne_eq,not_false_eq_true,if_true,Sem.run_bind,part_cell w ha ⟨_,hu⟩ (hcell hx hgx),part_cell w ha ⟨_,hu⟩ (hcell hy hgy),Result.andThen_ok,run_equalIn_bool' w 9998 f.type a b hu]
       cases hab:(a==b)
       · simp
       · simp;exact eqCells_ok w hq hx hy
     · cases h
theorem bin_ok {P:Program} {H:HH} {E:Env} {w:World} {hh:Option Hint} {op:BinOp} {t:TypeId} {xa ya:AV} {x y:Value} {e:Eff} (hx:Rel xa H E x) (hy:Rel ya H E y) (h:aBin P hh op t xa ya=some e)
 (ho:All e.ob):Plain e/\∃ u,(binOp op t x y).run P w=.ok u w/\Rel e.r H E u/\∀ p q,(eqGuard op t p q x y).run P w=.ok () w:=by
 unfold aBin at h
 split at h
 · rename_i a b
   obtain ⟨rfl,_⟩:=hx
   obtain ⟨rfl,_⟩:=hy
   split at h
   · rename_i r hs
     obtain ⟨h1,_,h3⟩:=sbin_ok w hs
     obtain ⟨hp,hr⟩:=boolR_ok (H:=H) (E:=E) h ho
     exact ⟨hp,_,h1,hr,h3⟩
   · rename_i r _ hs
     obtain ⟨h1,h2,h3⟩:=sbin_ok w hs
     obtain ⟨hp,hr,_⟩:=plain_pur h
     exact ⟨hp,_,h1,by rw [hr];exact ⟨rfl,h2⟩,h3⟩
   · cases h
 · rename_i xs ys
   obtain ⟨xv,rfl,hxr⟩:=hx
   obtain ⟨yv,rfl,hyr⟩:=hy
   split at h
   case h_2=>cases h
   rename_i fs hu
   split at h
   case isTrue=>cases h
   rename_i hg
   simp only [Bool.or_eq_true,not_or,Bool.not_eq_true] at hg
   have hf:P.fieldsOf t=fs:=by simp [Program.fieldsOf,hu]
   have hu':P.underlying t=some (.struct (P.fieldsOf t)):=by rw [hf];exact hu
   split at h
   · rename_i q hq
     obtain ⟨hp,hr⟩:=boolR_ok (H:=H) (E:=E) h ho
     refine ⟨hp,_,?_,hr,fun p q=>run_eqGuard_agg w _ t p q xv yv hg.2⟩
     rw [run_eql_struct,run_equalIn_struct w 9999 t xv yv hu' hg.1,hf,eqCells_ok w hq hxr hyr]
     rfl
   · rename_i q hq
     obtain ⟨hp,hr⟩:=boolR_ok (H:=H) (E:=E) h ho
     refine ⟨hp,_,?_,hr,fun p q=>run_eqGuard_agg w _ t p q xv yv hg.2⟩
     rw [run_neq_struct,run_equalIn_struct w 9999 t xv yv hu' hg.1,hf,eqCells_ok w hq hxr hyr]
     rfl
   · cases h
 · cases h
theorem conv_ok {P:Program} {H:HH} {E:Env} {w:World} {src dst:TypeId} {xa:AV} {x:Value} {e:Eff} (hx:Rel xa H E x) (h:aConv P dst src xa=some e) :
 Plain e/\∃ u,(convert src dst x).run P w=.ok u w/\Rel e.r H E u:=by
 unfold aConv at h
 split at h
 · rename_i k n h1 h2
   obtain ⟨rfl,_⟩:=hx
   obtain ⟨hp,hr,_⟩:=plain_pur h
   exact ⟨hp,_,by simp [convert,run_underlying h1,run_underlying h2,Conv.intToInt];rfl,by rw [hr];exact ⟨rfl,rfl⟩⟩
 · rename_i s h1 h2
   obtain ⟨rfl,_⟩:=hx
   obtain ⟨hp,hr,_⟩:=plain_pur h
   exact ⟨hp,_,by simp [convert,run_underlying h1,run_underlying h2];rfl,by rw [hr];exact ⟨rfl,rfl⟩⟩
 · cases h
theorem field_ok {P:Program} {H:HH} {E:Env} {w:World} {s:TypeId} {xa:AV} {x:Value} {f:Nat} {e:Eff} (hx:Rel xa H E x) (h:aField P s xa f=some e) :
 Plain e/\∃ u,(Instr.field s x f).run P w=.ok u w/\Rel e.r H E u:=by
 unfold aField at h
 split at h
 case h_2=>cases h
 rename_i fs cs hs
 obtain ⟨vs,rfl,hr⟩:=hx
 have hlen:=RelL.length hr
 split at h
 case h_2=>cases h
 rename_i fd hfd
 split at h
 case isTrue=>cases h
 rename_i hnn
 have hud:∃ d,P.underlying fd.type=some d:=by
  cases hq:P.underlying fd.type with
  | none=>simp [hq] at hnn
  | some d=>exact ⟨d,rfl⟩
 split at h
 · rename_i n ha hn
   split at h
   case isFalse=>cases h
   rename_i hle
   simp only [Nat.ble_eq,len_eq] at hle
   obtain ⟨hp,hr',_⟩:=plain_pur h
   refine ⟨hp,.agg (vs.extract fd.offset (fd.offset+n)),?_,?_⟩
   · simp [Instr.field,run_underlying hs,hfd,part,run_isAgg' w hud,ha,run_sizeOf' w hn,asAgg]
   · rw [hr']
     refine ⟨_,rfl,relL_mk (by simp at hlen;simp [length_takeL];omega) fun j u hj=>?_⟩
     have hjn:j<n:=by
      have:=(List.getElem?_eq_some_iff.1 hj).1
      simp at this;omega
     rw [get_takeL _ _ _ _ hjn]
     refine relL_get hr _ _ ?_
     simp only [Array.toList_extract,List.extract_eq_take_drop,Nat.add_sub_cancel_left] at hj
     rw [List.getElem?_take,if_pos hjn,List.getElem?_drop] at hj
     exact hj
 · rename_i ha
   split at h
   case isFalse=>cases h
   rename_i hle
   simp only [Nat.ble_eq,len_eq] at hle
   obtain ⟨hp,hr',_⟩:=plain_pur h
   have hlt:fd.offset<vs.size:=by simp at hlen;omega
   refine ⟨hp,vs[fd.offset],?_,by rw [hr'];exact relL_get hr _ _ (by simp [hlt])⟩
   simp [Instr.field,run_underlying hs,hfd,part,run_isAgg' w hud,ha,asAgg,hlt]
 · cases h
theorem fieldAddr_ok {P:Program} {H:HH} {E:Env} {w:World} {s:TypeId} {xa:AV} {x:Value} {f:Nat} {e:Eff} (hx:Rel xa H E x) (h:aFieldAddr P s xa f=some e) :
 Plain e/\∃ u,(Instr.fieldAt s x f).run P w=.ok u w/\Rel e.r H E u:=by
 unfold aFieldAddr at h
 split at h
 case h_2=>cases h
 rename_i fs hs
 split at h
 case h_2=>cases h
 rename_i fd hfd
 split at h
 case h_2=>cases h
 rename_i n hn
 have hrun:∀ a:Addr,(Instr.fieldAt s (.pointer (some a)) f).run P w=.ok (.pointer (some (a.add fd.offset))) w:=by
  intro a
  simp [Instr.fieldAt,run_underlying hs,hfd,Instr.sureAddr,fieldPlace,run_sizeOf' w hn]
 split at h
 · rename_i i k sz o
   obtain ⟨hl,b,hb,rfl⟩:=hx
   obtain ⟨hp,hr,_⟩:=plain_pur h
   refine ⟨hp,_,hrun _,?_⟩
   rw [hr,addr_add]
   exact ⟨hl,b,hb,by rw [Nat.add_assoc]⟩
 · rename_i b m c
   obtain ⟨ad,rfl,hc⟩:=hx
   split at h
   case isFalse=>cases h
   rename_i hle
   obtain ⟨hp,hr,_⟩:=plain_pur h
   refine ⟨hp,_,hrun _,?_⟩
   rw [hr]
   refine ⟨_,rfl,fun j hj=>?_⟩
   rw [add_add']
   exact hc (fd.offset+j) (by simp at hle;omega)
 · cases h
theorem index_ok {P:Program} {H:HH} {E:Env} {w:World} {hh:Option Hint} {t:TypeId} {xa ia:AV} {x i:Value} {e:Eff} (hx:Rel xa H E x) (hi:Rel ia H E i) (h:aIndexAddr P hh t xa ia=some e) (ho:All e.ob) :
 Plain e/\∃ u,(Instr.indexAt t x i).run P w=.ok u w/\Rel e.r H E u:=by
 unfold aIndexAddr at h
 split at h
 · rename_i el kd q hu
   obtain ⟨rfl,_⟩:=hi
   split at h
   case h_2=>cases h
   rename_i sz hsz
   split at h
   · rename_i b sz' n c
     split at h
     case isFalse=>cases h
     rename_i hs
     have hs:sz'=sz:=by simpa using hs
     subst hs
     split at h
     case h_2=>cases h
     rename_i ob hc
     obtain ⟨hp,hr,hob⟩:=plain_purO h
     have hb:=chk_ok hc (by rw [<- hob];exact ho)
     simp only [Bool.and_eq_true,decide_eq_true_eq] at hb
     obtain ⟨a,cap,rfl,hcap,hk⟩:=hx
     obtain ⟨ad,rfl,hk2⟩:=hk (by omega)
     refine ⟨hp,.pointer (some (ad.add (q.toNat*sz'))),?_,?_⟩
     · simp [Instr.indexAt,asIntOf,run_underlying hu,run_sizeOf' w hsz,hb]
     · rw [hr]
       refine ⟨_,rfl,fun j hj=>?_⟩
       rw [add_add']
       exact hk2 q.toNat (by omega) j hj
   · rename_i a sz' lo n
     split at h
     case isFalse=>cases h
     rename_i hs
     have hs:sz'=sz:=by simpa using hs
     subst hs
     split at h
     case h_2=>cases h
     rename_i ob hc
     obtain ⟨hp,hr,hob⟩:=plain_purO h
     have hb:=chk_ok hc (by rw [<- hob];exact ho)
     simp only [Bool.and_eq_true,decide_eq_true_eq] at hb
     obtain ⟨hl,hκ,hm⟩:=hx
     cases hι:E.ι a with
     | none=>rw [hι] at hm;omega
     | some b =>
       rw [hι] at hm
       obtain ⟨ad,rfl,had⟩:=hm
       obtain rfl:=had.1 (.inr (by omega))
       refine ⟨hp,.pointer (some ⟨b,(lo+q.toNat)*sz',none⟩),?_,by rw [hr];exact ⟨hl,b,hι,by simp⟩⟩
       simp [Instr.indexAt,asIntOf,run_underlying hu,run_sizeOf' w hsz,hb,addr_add,Nat.add_mul]
   · cases h
 · rename_i len el kd q hu
   obtain ⟨rfl,_⟩:=hi
   split at h
   case h_2=>cases h
   rename_i sz hsz
   split at h
   · rename_i a k sz' o
     split at h
     case h_2=>cases h
     rename_i ob hc
     obtain ⟨hp,hr,hob⟩:=plain_purO h
     have hb:=chk_ok hc (by rw [<- hob];exact ho)
     simp only [Bool.and_eq_true,decide_eq_true_eq] at hb
     obtain ⟨hl,b,hb',rfl⟩:=hx
     refine ⟨hp,.pointer (some ⟨b,k*sz'+(o+q.toNat*sz),none⟩),?_,by rw [hr];exact ⟨hl,b,hb',rfl⟩⟩
     simp [Instr.indexAt,asIntOf,run_underlying hu,run_sizeOf' w hsz,hb,Instr.sureAddr,addr_add,Nat.add_assoc]
   · rename_i b m c
     split at h
     case isFalse=>cases h
     rename_i hle
     split at h
     case h_2=>cases h
     rename_i ob hc
     obtain ⟨hp,hr,hob⟩:=plain_purO h
     have hb:=chk_ok hc (by rw [<- hob];exact ho)
     simp only [Bool.and_eq_true,decide_eq_true_eq] at hb
     obtain ⟨ad,rfl,hcc⟩:=hx
     refine ⟨hp,.pointer (some (ad.add (q.toNat*sz))),?_,?_⟩
     · simp [Instr.indexAt,asIntOf,run_underlying hu,run_sizeOf' w hsz,hb,Instr.sureAddr]
     · rw [hr]
       refine ⟨_,rfl,fun j hj=>?_⟩
       rw [add_add']
       refine hcc _ ?_
       have:(q.toNat+1)*sz<=len*sz:=Nat.mul_le_mul_right _ (by omega)
       rw [Nat.add_mul] at this
       simp at hle;omega
   · cases h
 · cases h
theorem run_bounds {P:Program} (w:World) {isS:Bool} {n cap:Nat} {lo hi:Option Value} {l u:Int} (hlo:(lo=none/\l=0)∨∃ k,lo=some (.int k l)) (hhi:(hi=none/\u=n)∨∃ k,hi=some (.int k u))
 (h0:0<=l) (h1:l<=u) (h2:u<=n) (h3:n<=cap):(Instr.sliceBounds isS n cap lo hi none).run P w=.ok (l.toNat,u.toNat,cap) w:=by
 rcases hhi with ⟨rfl,rfl⟩ | ⟨kh,rfl⟩
 · rcases hlo with ⟨rfl,rfl⟩ | ⟨kl,rfl⟩
   · simp [Instr.sliceBounds]
   · simp [Instr.sliceBounds,run_sliceBound w kl l n _ h0 h1]
 · have hu:=run_sliceBound (P:=P) w kh u cap (if isS then .sliceAcap else .sliceAlen) (by omega) (by omega)
   rcases hlo with ⟨rfl,rfl⟩ | ⟨kl,rfl⟩
   · simp [Instr.sliceBounds,hu]
   · have hl:=run_sliceBound (P:=P) w kl l u.toNat .sliceB h0 (by omega)
     simp [Instr.sliceBounds,hu,hl]
theorem bnd_ok {t:Nat->AV} {a:Act} {H:HH} {E:Env} (hT:RelT t H E a) {d:Nat} {x:Option Operand} {q:Int} (h:bnd d (x.map (ev t))=some q) :
 (x.map a.eval=none/\q=d)∨∃ k,x.map a.eval=some (.int k q):=by
 cases x with
 | none=>simp [bnd] at h;exact .inl ⟨rfl,h.symm⟩
 | some x =>
   have hr:=rel_ev hT x
   simp only [Option.map_some] at h ⊢
   generalize ev t x=av at h hr
   unfold bnd at h
   split at h
   · rename_i he;cases he
   · rename_i k q' he
     cases he
     cases h
     obtain ⟨h1,_⟩:=hr
     exact .inr ⟨k,by rw [h1]⟩
   · cases h
theorem slice_ok {P:Program} {H:HH} {E:Env} {w:World} {hh:Option Hint} {ty:TypeId} {t:Nat->AV} {a:Act} {x:Operand} {lo hi mx:Option Operand} {e:Eff} (hT:RelT t H E a)
 (h:aSlice P hh ty (ev t x) (lo.map (ev t)) (hi.map (ev t)) (mx.map (ev t))=some e) (ho:All e.ob) :
 Plain e/\∃ u,(Instr.sliceAt ty (a.eval x) (lo.map a.eval) (hi.map a.eval) (mx.map a.eval)).run P w=.ok u w/\Rel e.r H E u:=by
 have hx:=rel_ev hT x
 generalize ev t x=xa at h hx
 have hmx:∀ {q:Option AV},q=none->mx.map (ev t)=q->mx=none:=by
  rintro q rfl hq
  cases mx with
  | none=>rfl
  | some m=>cases hq
 unfold aSlice at h
 split at h
 · rename_i s hm hu
   have hmx:=hmx rfl hm
   subst hmx
   obtain ⟨hx,_⟩:=hx
   rw [hx]
   split at h
   case h_2=>cases h
   rename_i l u hl hu'
   split at h
   case h_2=>cases h
   rename_i ob hc
   obtain ⟨hp,hr,hob⟩:=plain_purO h
   have hb:=chk_ok hc (by rw [<- hob];exact ho)
   simp only [Bool.and_eq_true,decide_eq_true_eq] at hb
   obtain ⟨⟨h0,h1⟩,h2⟩:=hb
   have hrun:=run_bounds (P:=P) (isS:=false) w (bnd_ok hT hl) (bnd_ok hT hu') h0 h1 h2 (Nat.le_refl _)
   refine ⟨hp,.string (s.extract l.toNat u.toNat),?_,by rw [hr];exact ⟨rfl,rfl⟩⟩
   simp [Instr.sliceAt,run_underlying hu,Instr.slice,hrun]
 · rename_i el b sz n c hm hu
   have hmx:=hmx rfl hm
   subst hmx
   split at h
   case h_2=>cases h
   rename_i sz' l u hsz hl hu'
   split at h
   case isFalse=>cases h
   rename_i hs
   have hs:sz'=sz:=by simpa using hs
   subst hs
   split at h
   case h_2=>cases h
   rename_i ob hc
   obtain ⟨hp,hr,hob⟩:=plain_purO h
   have hb:=chk_ok hc (by rw [<- hob];exact ho)
   simp only [Bool.and_eq_true,decide_eq_true_eq] at hb
   obtain ⟨⟨h0,h1⟩,h2⟩:=hb
   obtain ⟨ad,cap,hv,hcap,hk⟩:=hx
   rw [hv]
   have hrun:=run_bounds (P:=P) (isS:=true) w (bnd_ok hT hl) (bnd_ok hT hu') h0 h1 h2 hcap.1
   refine ⟨hp,.slice (if cap=l.toNat then ad else ad.map (·.add (l.toNat*sz'))) (u.toNat - l.toNat) (cap - l.toNat),?_,?_⟩
   · simp [Instr.sliceAt,run_underlying hu,Instr.slice,hrun,run_sizeOf' w hsz]
   · rw [hr]
     refine ⟨_,_,rfl,⟨by have:=hcap.1;omega,fun h3=>?_⟩,fun h3=>?_⟩
     · have:ad=none:=by
        split at h3
        · exact h3
        · cases ad<;>simp_all
       have:=hcap.2 this
       omega
     have hcap:=hcap.1
     obtain ⟨ad',rfl,hk2⟩:=hk (by omega)
     rw [if_neg (by omega)]
     refine ⟨_,rfl,fun k hkk j hj=>?_⟩
     rw [add_add',<- Nat.add_assoc,<- Nat.add_mul]
     exact hk2 (l.toNat+k) (by omega) j hj
 · rename_i el i sz z n hm hu
   have hmx:=hmx rfl hm
   subst hmx
   split at h
   case h_2=>cases h
   rename_i sz' l u hsz hl hu'
   split at h
   case isFalse=>cases h
   rename_i hs
   have hs:sz'=sz:=by simpa using hs
   subst hs
   split at h
   case h_2=>cases h
   rename_i ob hc
   obtain ⟨hp,hr,hob⟩:=plain_purO h
   have hb:=chk_ok hc (by rw [<- hob];exact ho)
   simp only [Bool.and_eq_true,decide_eq_true_eq] at hb
   obtain ⟨⟨h0,h1⟩,h2⟩:=hb
   obtain ⟨hlv,hκ,hm2⟩:=hx
   cases hι:E.ι i with
   | none =>
     rw [hι] at hm2
     obtain ⟨rfl,rfl,hv⟩:=hm2
     rw [hv]
     have hrun:=run_bounds (P:=P) (isS:=true) (cap:=0) w (bnd_ok hT hl) (bnd_ok hT hu') h0 h1 h2 (Nat.le_refl _)
     have hl0:l.toNat=0:=by omega
     have hu0:u.toNat=0:=by omega
     refine ⟨hp,.slice none 0 0,?_,?_⟩
     · simp [Instr.sliceAt,run_underlying hu,Instr.slice,hrun,run_sizeOf' w hsz,hl0,hu0]
     · rw [hr,hl0,hu0]
       exact ⟨hlv,by omega,by rw [hι];exact ⟨rfl,rfl,rfl⟩⟩
   | some b =>
     rw [hι] at hm2
     obtain ⟨ad,hv,had⟩:=hm2
     rw [hv]
     have hrun:=run_bounds (P:=P) (isS:=true) w (bnd_ok hT hl) (bnd_ok hT hu') h0 h1 h2 (show n<=E.κ i - z by omega)
     refine ⟨hp,.slice (if E.κ i - z=l.toNat then ad else ad.map (·.add (l.toNat*sz'))) (u.toNat - l.toNat) (E.κ i - z - l.toNat),?_,?_⟩
     · simp [Instr.sliceAt,run_underlying hu,Instr.slice,hrun,run_sizeOf' w hsz]
     · rw [hr]
       refine ⟨hlv,by omega,?_⟩
       rw [hι]
       have e:E.κ i - z - l.toNat=E.κ i - (z+l.toNat):=by omega
       refine ⟨_,by rw [e],⟨fun h3=>?_,by have:=had.2;split<;>cases ad<;>simp_all⟩⟩
       rcases h3 with h3 | h3
       · have hz:z=0:=by omega
         have hl0:l.toNat=0:=by omega
         subst hz
         rw [had.1 (.inl rfl),hl0]
         simp [Addr.add]
       · rw [had.1 (by omega),if_neg (by omega)]
         simp [addr_add,Nat.add_mul]
 · cases h
theorem len_ok {P:Program} {H:HH} {E:Env} {w:World} {t ty:TypeId} {xa:AV} {x:Value} {e:Eff} (hx:Rel xa H E x) (h:aLen P t xa=some e) :
 Plain e/\∃ u,(Builtin.len_ #[t] ty #[x]).run P w=.ok u w/\Rel e.r H E u:=by
 unfold aLen at h
 split at h
 · rename_i s hu
   obtain ⟨rfl,_⟩:=hx
   obtain ⟨hp,hr,_⟩:=plain_pur h
   exact ⟨hp,_,by simp [Builtin.len_,run_underlying hu];rfl,by rw [hr];exact ⟨rfl,rfl⟩⟩
 · rename_i hu
   obtain ⟨rfl,_⟩:=hx
   obtain ⟨hp,hr,_⟩:=plain_pur h
   exact ⟨hp,_,by simp [Builtin.len_,run_underlying hu];rfl,by rw [hr];exact ⟨rfl,rfl⟩⟩
 · rename_i b sz n c hu
   obtain ⟨ad,cap,rfl,_⟩:=hx
   obtain ⟨hp,hr,_⟩:=plain_pur h
   exact ⟨hp,_,by simp [Builtin.len_,run_underlying hu];rfl,by rw [hr];exact ⟨rfl,rfl⟩⟩
 · rename_i i sz lo n hu
   obtain ⟨hp,hr,_⟩:=plain_pur h
   obtain ⟨_,_,hm⟩:=hx
   refine ⟨hp,.int .i64 n,?_,by rw [hr];exact ⟨rfl,rfl⟩⟩
   split at hm
   · obtain ⟨ad,rfl,_⟩:=hm
     simp [Builtin.len_,run_underlying hu,goInt]
   · obtain ⟨_,rfl,rfl⟩:=hm
     simp [Builtin.len_,run_underlying hu,goInt]
 · rename_i n el hu
   obtain ⟨hp,hr,_⟩:=plain_pur h
   exact ⟨hp,.int .i64 n,by simp [Builtin.len_,run_underlying hu,goInt],by rw [hr];exact ⟨rfl,rfl⟩⟩
 · cases h
theorem mm2_ok {P:Program} {w:World} {isMax:Bool} {x y v:Value} (h:mm2 isMax x y=some v):((if isMax then Builtin.max2 x y else Builtin.min2 x y)).run P w=.ok v w/\scalar v=true:=by
 unfold mm2 at h
 split at h
 · cases h
   cases isMax<;>exact ⟨rfl,rfl⟩
 · rename_i a b
   cases h
   cases isMax
   · refine ⟨?_,rfl⟩
     simp [Builtin.min2,Op.stringOp,ByteArray.toList_eq,asBool]
   · refine ⟨?_,rfl⟩
     simp [Builtin.max2,Op.stringOp,ByteArray.toList_eq,asBool]
 · cases h
theorem mmL_ok {P:Program} {H:HH} {E:Env} {w:World} {isMax:Bool}:∀ {r:List AV} {v u:Value} {vs:List Value},mmL isMax v r=some u->scalar v=true->RelL r H E vs ->
 (vs.foldlM (fun a b=>if isMax then Builtin.max2 a b else Builtin.min2 a b) v).run P w=.ok u w/\scalar u=true
 | [],v,u,vs,h,hs,hr=>by
   simp [RelL] at hr;subst hr
   simp [mmL] at h;subst h
   exact ⟨rfl,hs⟩
 | a::r,v,u,vs,h,hs,hr=>by
   obtain ⟨x,q,rfl,h1,h2⟩:=hr
   cases a<;>simp only [mmL] at h<;>try (cases h;done)
   obtain ⟨rfl,_⟩:=h1
   split at h
   case h_2=>cases h
   rename_i y hy
   obtain ⟨hm,hsy⟩:=mm2_ok (P:=P) (w:=w) hy
   obtain ⟨h3,h4⟩:=mmL_ok (P:=P) (w:=w) h hsy h2
   exact ⟨by rw [List.foldlM_cons,Sem.run_bind,hm];exact h3,h4⟩
theorem minmax_ok {P:Program} {H:HH} {E:Env} {w:World} {isMax:Bool} {l:List AV} {vs:Array Value} {ts:Array TypeId} {ty:TypeId} {e:Eff} (hr:RelL l H E vs.toList) (h:aMinMax isMax l=some e) :
 Plain e/\∃ u,(if isMax then Builtin.max_ ts ty vs else Builtin.min_ ts ty vs).run P w=.ok u w/\Rel e.r H E u:=by
 unfold aMinMax at h
 split at h
 case h_2=>cases h
 rename_i v r
 obtain ⟨x,q,hq,h1,h2⟩:=hr
 obtain ⟨rfl,hs⟩:=h1
 split at h
 case h_2=>cases h
 rename_i u hu
 obtain ⟨hp,hr',_⟩:=plain_pur h
 obtain ⟨h3,h4⟩:=mmL_ok (P:=P) (w:=w) hu hs h2
 refine ⟨hp,u,?_,by rw [hr'];exact ⟨rfl,h4⟩⟩
 cases isMax
 · simp only [Builtin.min_,hq];simpa using h3
 · simp only [Builtin.max_,hq];simpa using h3
end Go.Ax
