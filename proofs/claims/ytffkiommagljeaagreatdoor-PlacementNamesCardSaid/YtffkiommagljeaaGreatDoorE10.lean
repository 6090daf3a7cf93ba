import Derived.Test.YtffkiommagljeaaGreatDoorE9
set_option linter.unusedVariables false
set_option linter.unusedSimpArgs false
set_option linter.unusedSectionVars false
namespace Go.Ax
open Go
variable [Inhabited Gl0]
theorem good_of {H:HH} {E:Env} {w:World} {M:List Blk} {e:Eff} {u:Value} {w':World} {E':Env} {run:Result Next} (hrun:run=.ok (.value u) w') (hr:Rel e.r H E' u)
 (hC:Conc H E' w' (killM e.kl (applyW e.wr M))) (hE:Evol e.kl H E w H E' w'):Good H E w M e run:=⟨_,u,w',E',hrun,.inl rfl,hr,hC,hE⟩
theorem aop_good {P:Program} {H:HH} {E:Env} {w:World} {M:List Blk} {hh:Option Hint} {nid:Nat} {t:Nat->AV} {a:Act} {o:Oper} {e:Eff} (hC:Conc H E w M) (hd:getM M nid=.dead) (hT:RelT t H E a)
 (h:aop P hh (getM M) nid t o.op=some e) (ho:All e.ob):Good H E w M e ((execOp a.eval o).run P w):=by
 have mv:∀ x,aMove hh nid (ev t x)=some e->((execOp a.eval o).run P w=.ok (.value (a.eval x)) w)->Good H E w M e ((execOp a.eval o).run P w):=by
  intro x h hrun
  have hx:=rel_ev hT x
  unfold aMove at h
  split at h
  · rename_i ty sz he _
    cases h
    rw [he] at hx
    obtain ⟨hx,_⟩:=hx
    obtain ⟨e1,e2,e3,e4⟩:=E.set_same nid none 0 0
    obtain ⟨hc,hev⟩:=hC.new (w':=w) (i:=nid) (κ:=0) (η:=0) (bo:=none) (B:=.row ty sz 0 none (fun _ _=>.junk)) hd rfl rfl rfl (Nat.le_refl _) (fun _ _=>rfl) (fun b hb=>by cases hb)
     ⟨e1,by rw [e3,e4];exact ⟨rfl,Nat.le_refl _⟩,by rw [e3];exact Nat.zero_le _,(fun q hq=>by cases hq),by rw [e2];exact e3⟩
    refine good_of hrun ?_ hc hev
    rw [hx]
    exact ⟨e1,by rw [e3,e4];exact ⟨Nat.le_refl _,Nat.le_refl _⟩,by rw [e2];exact ⟨rfl,rfl,rfl⟩⟩
  · obtain ⟨hp,hr,_⟩:=plain_pur h
    exact good_plain hC hp (by rw [hr];exact hx) hrun
 cases hop:o.op with
 | move x=>exact mv x (by simpa only [aop,hop] using h) (by simp [execOp,hop])
 | assign x=>exact mv x (by simpa only [aop,hop] using h) (by simp [execOp,hop])
 | pick c x y =>
   simp only [aop,hop] at h
   have hc:=rel_ev hT c
   split at h
   · rename_i he
     rw [he] at hc
     obtain ⟨hc,_⟩:=hc
     obtain ⟨hp,hr,_⟩:=plain_pur h
     exact good_plain hC hp (by rw [hr];exact rel_ev hT x) (by simp [execOp,hop,hc,asBool])
   · rename_i he
     rw [he] at hc
     obtain ⟨hc,_⟩:=hc
     obtain ⟨hp,hr,_⟩:=plain_pur h
     exact good_plain hC hp (by rw [hr];exact rel_ev hT y) (by simp [execOp,hop,hc,asBool])
   · cases h
 | alloc ty =>
   simp only [aop,hop] at h
   split at h
   case h_2=>cases h
   rename_i z hz
   cases h
   obtain ⟨i,zv,hi,hz',hrz,hoz⟩:=zeroL_ok H E hz
   obtain ⟨h1,h2,h3⟩:=box_new (nid:=nid) ty hC hd hrz hoz
   exact good_of (by simp [execOp,hop,Instr.alloc,zeroValue,typeInfo,hi,hz',newVar,newRow]) h1 h2 h3
 | box ty x =>
   simp only [aop,hop] at h
   split at h
   case h_2=>cases h
   rename_i l hl
   cases h
   obtain ⟨hrl,hones,_⟩:=cellsOf_ok hl (rel_ev hT x)
   obtain ⟨h1,h2,h3⟩:=box_new (nid:=nid) ty hC hd hrl hones
   exact good_of (by simp [execOp,hop,Instr.box,newVar,newRow]) h1 h2 h3
 | build ty parts =>
   simp only [aop,hop] at h
   have hpr:=pr_ev hT parts.toList
   obtain ⟨hp,u,hrun,hr⟩:=build_ok (w:=w) (pv:=parts.map fun p=>(p.1,a.eval p.2)) (by simpa using hpr) h
   exact good_plain hC hp hr (by simp [execOp,hop,hrun])
 | buildSlice ty n parts =>
   simp only [aop,hop] at h
   have hpr:=pr_ev hT parts.toList
   obtain ⟨u,w',E',hrun,hr,hc,hev⟩:=buildSlice_good (pv:=parts.map fun p=>(p.1,a.eval p.2)) hC hd (by simpa using hpr) h
   exact good_of (by simp [execOp,hop,hrun]) hr hc hev
 | load ty x =>
   simp only [aop,hop] at h
   split at h
   case h_2=>cases h
   rename_i d hu
   obtain ⟨hp,u,hrun,hr⟩:=load_ok (P:=P) hC (rel_ev hT x) ⟨d,hu⟩ h ho
   exact good_plain hC hp hr (by simp [execOp,hop,hrun])
 | store ty x y =>
   simp only [aop,hop] at h
   obtain ⟨w',hrun,hr,hk,hc,hev⟩:=store_good hC (rel_ev hT x) (rel_ev hT y) h ho
   refine ⟨.skip,undef,w',E,by simp [execOp,hop,hrun],.inr ⟨rfl,rfl⟩,by rw [hr];trivial,?_,?_⟩
   · rw [hk];exact hc
   · rw [hk];exact hev
 | nilCheck x =>
   simp only [aop,hop] at h
   have hx:=rel_ev hT x
   split at h
   · rename_i i k sz o' he
     rw [he] at hx
     obtain ⟨hp,hr,_⟩:=plain_pur h
     obtain ⟨hl,b,hb,hv⟩:=hx
     exact good_plain hC hp (v:=a.eval x) (by rw [hr,hv];exact ⟨hl,b,hb,rfl⟩) (by simp [execOp,hop,hv])
   · rename_i b m c he
     rw [he] at hx
     obtain ⟨hp,hr,_⟩:=plain_pur h
     have hx2:=hx
     obtain ⟨ad,hv,hcc⟩:=hx
     exact good_plain hC hp (v:=a.eval x) (by rw [hr];exact hx2) (by simp [execOp,hop,hv])
   · rename_i f p q he
     rw [he] at hx
     obtain ⟨hp,hr,_⟩:=plain_pur h
     have hx2:=hx
     obtain ⟨y,z,hv,_⟩:=hx
     exact good_plain hC hp (v:=a.eval x) (by rw [hr];exact hx2) (by simp [execOp,hop,hv])
   · cases h
 | binOp op ty x y yt =>
   simp only [aop,hop] at h
   obtain ⟨hp,u,hrun,hr,hg⟩:=bin_ok (w:=w) (rel_ev hT x) (rel_ev hT y) h ho
   exact good_plain hC hp hr (by simp [execOp,hop,hg x y,hrun])
 | unOp op ty x =>
   cases op<;>simp only [aop,hop] at h<;>try (cases h;done)
   have hx:=rel_ev hT x
   split at h
   case h_2=>cases h
   rename_i b he
   rw [he] at hx
   obtain ⟨hv,_⟩:=hx
   obtain ⟨hp,hr⟩:=boolR_ok (H:=H) (E:=E) h ho
   exact good_plain hC hp hr (by simp [execOp,hop,hv,Op.unary])
 | convert src dst x =>
   simp only [aop,hop] at h
   obtain ⟨hp,u,hrun,hr⟩:=conv_ok (w:=w) (rel_ev hT x) h
   exact good_plain hC hp hr (by simp [execOp,hop,hrun])
 | makeInterface ty x =>
   simp only [aop,hop] at h
   split at h
   · cases h
   · rename_i d hni hu
     obtain ⟨hp,hr,_⟩:=plain_pur h
     have hc:P.concrete ty=true:=by
      unfold Program.concrete
      rw [hu]
      cases d<;>first | rfl | exact absurd rfl (hni _)
     exact good_plain hC hp (v:=.iface ty (a.eval x)) (by rw [hr];exact ⟨_,rfl,rel_ev hT x⟩) (by simp [execOp,hop,run_makeInterface w ty _ hc])
   · cases h
 | makeFunc fn first cap =>
   simp only [aop,hop] at h
   obtain ⟨hp,hr,_⟩:=plain_pur h
   exact good_plain hC hp (v:=.func fn (first.map a.eval) (cap.map a.eval)) (by rw [hr];exact ⟨_,_,rfl,by simpa using relL_ev hT first.toList,by simpa using relL_ev hT cap.toList⟩) (by simp [execOp,hop,Instr.makeFunc])
 | slice ty x lo hi mx =>
   simp only [aop,hop] at h
   obtain ⟨hp,u,hrun,hr⟩:=slice_ok (w:=w) hT h ho
   exact good_plain hC hp hr (by simp [execOp,hop,hrun])
 | fieldAddr s x f =>
   simp only [aop,hop] at h
   obtain ⟨hp,u,hrun,hr⟩:=fieldAddr_ok (w:=w) (rel_ev hT x) h
   exact good_plain hC hp hr (by simp [execOp,hop,hrun])
 | field s x f =>
   simp only [aop,hop] at h
   obtain ⟨hp,u,hrun,hr⟩:=field_ok (w:=w) (rel_ev hT x) h
   exact good_plain hC hp hr (by simp [execOp,hop,hrun])
 | indexAddr ty x i =>
   simp only [aop,hop] at h
   obtain ⟨hp,u,hrun,hr⟩:=index_ok (w:=w) (rel_ev hT x) (rel_ev hT i) h ho
   exact good_plain hC hp hr (by simp [execOp,hop,hrun])
 | extract x i =>
   simp only [aop,hop] at h
   have hx:=rel_ev hT x
   split at h
   case h_2=>cases h
   rename_i l he
   split at h
   case isFalse=>cases h
   rename_i hle
   rw [he] at hx
   obtain ⟨vs,hv,hr⟩:=hx
   obtain ⟨hp,hr',_⟩:=plain_pur h
   simp only [Nat.ble_eq,len_eq] at hle
   have hlt:i<vs.size:=by have:=RelL.length hr;simp at this;omega
   exact good_plain hC hp (v:=vs[i]) (by rw [hr'];exact relL_get hr _ _ (by simp [hlt])) (by simp [execOp,hop,hv,Instr.extract,hlt])
 | call c =>
   obtain ⟨callee,args,argTypes⟩:=c
   cases callee with
   | value f=>simp [aop,hop] at h
   | invoke r m=>simp [aop,hop] at h
   | builtin b =>
     cases b<;>simp only [aop,hop] at h<;>try (cases h;done)
     case append =>
      split at h
      case h_2=>cases h
      rename_i t1 t2 s x hat har
      split at h
      case isFalse=>cases h
      rename_i htt
      have htt:t1=t2:=by simpa using htt
      subst htt
      obtain ⟨u,w',E',hrun,hr,hc,hev⟩:=append_good (ty:=o.type) hC hd (rel_ev hT s) (rel_ev hT x) h ho
      have hargs:args=#[s,x]:=by apply Array.ext';simpa using har
      have htys:argTypes=#[t1,t1]:=by apply Array.ext';simpa using hat
      subst hargs;subst htys
      exact good_of (by simp [execOp,hop,resolve,invoke,builtin,hrun]) hr hc hev
     case len =>
      split at h
      case h_2=>cases h
      rename_i ty x hat har
      have hargs:args=#[x]:=by apply Array.ext';simpa using har
      have htys:argTypes=#[ty]:=by apply Array.ext';simpa using hat
      subst hargs;subst htys
      obtain ⟨hp,u,hrun,hr⟩:=len_ok (P:=P) (ty:=o.type) (w:=w) (rel_ev hT x) h
      exact good_plain hC hp hr (by simp [execOp,hop,resolve,invoke,builtin,hrun])
     case max =>
      obtain ⟨hp,u,hrun,hr⟩:=minmax_ok (P:=P) (w:=w) (isMax:=true) (ts:=argTypes) (ty:=o.type) (vs:=args.map a.eval) (by simpa using relL_ev hT args.toList) h
      exact good_plain hC hp hr (by simp at hrun;simp [execOp,hop,resolve,invoke,builtin,hrun])
     case min =>
      obtain ⟨hp,u,hrun,hr⟩:=minmax_ok (P:=P) (w:=w) (isMax:=false) (ts:=argTypes) (ty:=o.type) (vs:=args.map a.eval) (by simpa using relL_ev hT args.toList) h
      exact good_plain hC hp hr (by simp at hrun;simp [execOp,hop,resolve,invoke,builtin,hrun])
 | _=>simp [aop,hop] at h
end Go.Ax
