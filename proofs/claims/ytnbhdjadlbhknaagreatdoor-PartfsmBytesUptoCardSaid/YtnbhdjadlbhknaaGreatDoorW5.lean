import Derived.Test.YtnbhdjadlbhknaaGreatDoorW4
set_option linter.unusedVariables false
set_option linter.unusedSimpArgs false
set_option maxRecDepth 1000000
namespace Go.Proofs.YtnbhdjadlbhknaaGreatDoor
open Go.Ax
namespace J
theorem wU {α β:Type} [Inhabited α] (f:α->List β) (l:List α) (k:Nat) (h:k<l.length):(l.take (k+1)).flatMap f=(l.take k).flatMap f++f (l.getD k default):=by
 rw [List.take_add_one,List.flatMap_append]
 simp [h]
theorem Ui {α β:Type} (f:α->List β) (l:List α) (k:Nat):((l.take k).flatMap f).length<=(l.flatMap f).length:=by
 have:l.flatMap f=(l.take k).flatMap f++(l.drop k).flatMap f:=by rw [<- List.flatMap_append,List.take_append_drop]
 rw [this,List.length_append]
 omega
theorem FQ {recs:List Rec} {l:List Int} {k:Nat} (h:k<recs.length):vE recs l (k+1)=vE recs l k++g_ (recs.getD k default):=by
 unfold vE
 rw [wU g_ recs k h]
 simp only [List.append_assoc]
theorem Xn (recs:List Rec) (l:List Int):vE recs l recs.length=l++gy recs:=by
 unfold vE gy
 rw [List.take_length,List.append_assoc]
theorem Xl {recs:List Rec} {l:List Int} (k:Nat) (h:DC (l++gy recs).length):DC (vE recs l k).length:=by
 have h1:=h.h
 have h2:=Ui g_ recs k
 refine ⟨?_⟩
 unfold vE
 unfold gy at h1
 simp only [List.length_append] at h1 ⊢
 omega
structure JZ (recs:List Rec) (l:List Int):Prop where
 u:∀ k,k<recs.length->FL (recs.getD k default)
 n:DC (l++gy recs).length
theorem O4 (x:Rec):1<=(g_ x).length:=by
 have h:1<=(aj x.off).length:=by
  unfold aj xL
  split<;>simp
 unfold g_
 simp only [List.length_append]
 omega
theorem DU (l:List Rec):l.length<=(l.flatMap g_).length:=by
 induction l with
 | nil=>simp
 | cons a l ih =>
   have:=O4 a
   simp only [List.flatMap_cons,List.length_append,List.length_cons]
   omega
theorem Xf (f:Bool) (recs:List Rec) (l:List Int) (hu:JZ recs l) (k:Up recs.length):aQ Tryz.prog 92 2 (aS Tryz.prog 92 2) ⟨wlT f recs k.1,wM (vE recs l k.1),[]⟩ (T.map (bU [1,3] (wlS f recs l)) (.ret ())):=by
 have hb:recs.length<=140737488355327:=by
  have h1:=hu.n.h
  have h2:=DU recs
  unfold gy at h1
  simp only [List.length_append] at h1
  omega
 refine dU (P:=Tryz.prog) (f:=92) (k:=2) (ι:=Up recs.length) (μ:=fun k=>recs.length - k.1) (ht:=fun k=>wlH recs l k.1) (qG:=fun k=>wlT f recs k.1) (stM:=fun k=>wM (vE recs l k.1)) (X:=[1,3]) (o:=fun _=>.ret ()) (S:=wlS f recs l) Tryz.mixed (fun _=>rfl) (fun k=>?_) k
 rw [O9 f recs l k]
 unfold ZG
 obtain ⟨k,hk⟩:=k
 by_cases h:k<recs.length
 · have hd:decide ((k:Int)<(recs.length:Int))=true:=by simp;omega
   have hw:acw (recs.getD k default) (vE recs l k):=⟨hu.u k h,by rw [<- FQ h];exact Xl _ hu.n⟩
   have h1:IntKind.wrap IntKind.i64 ((k:Int)+1)=(k:Int)+1:=wrap_i64 (by omega) (by omega)
   simp only [hd,h1]
   simp
   have e:=FQ (l:=l) h
   simp at e
   refine ⟨by simpa using hw,k+1,?_⟩
   rw [e]
   simp
   omega
 · obtain rfl:k=recs.length:=by omega
   simp
theorem ag4 (f:Bool) (recs:List Rec) (l:List Int) (h:JZ recs l):(wR (l++gy recs)).Sat (au Tryz.prog 92 [wP,bZ f recs] (wM l)):=by
 have hb:recs.length<=140737488355327:=by
  have h1:=h.n.h
  have h2:=DU recs
  unfold gy at h1
  simp only [List.length_append] at h1
  omega
 have h1:=h.n.h
 simp only [List.length_append] at h1
 have lp:=Xf f recs l h ⟨0,Nat.zero_le _⟩
 refine dG (ht:=QZ f recs l) Tryz.mixed rfl ?_
 rw [XF f recs l]
 unfold ac5
 have e1:IntKind.wrap IntKind.u64 (recs.length:Int)=recs.length:=wrap_u64 (by omega) (by omega)
 have e2:jv (recs.length:Int) l:=⟨by omega,by omega,by omega⟩
 have e3:vE recs l 0=l++aj (recs.length:Int):=by unfold vE;simp
 simp only [e1,e3,Xn]
 simp only [e3] at lp
 simp [e2,lp]
noncomputable def wlC (f:Bool) (recs:List Rec) (l:List Int):dO Tryz.prog:=⟨92,[wP,bZ f recs],wM l,.need (JZ recs l) (J5 (l++gy recs)),T.Sat.need fun h=>Bp (ag4 f recs l h)⟩
structure R3 (c:R.bJ):Prop where
 kind:jC c.kind
 epoch:nO c.epoch
 prod:nO c.prod
 seq:nO c.seq
 off:nO c.off
 most:jC c.most
 plan:nO c.plan
 n:c.key.size+c.val.length+c.name.size+1000<=140737488355327
theorem fu (v:Int):(aF v).length<=11:=aG (zig v)
theorem agY (c:R.bJ) (h:R3 c):(T.ret (bn true (gT c),[],[]):T An).Sat (au Tryz.prog 23 [.agg (R.dV c)] []):=by
 refine aR (ht:=wcH c) Tryz.mixed rfl ?_
 rw [Xc c]
 unfold adl
 obtain ⟨h1,h2,h3,h4,h5,h6,h7,hn⟩:=h
 have a2:=aG c.epoch
 have a3:=aG c.prod
 have a4:=aG c.seq
 have a5:=aG c.off
 have a6:=kQ c.key
 have a7:=bD c.val
 have a8:=kQ c.name
 have a9:=fu c.most
 have a10:=aG c.plan
 have a11:=fu c.kind
 have tg:∀ l:List Int,∀ k,k<l.length->∀ j,j<1->dK (ah aD l k j)=true:=by
  intro l k hk j hj
  obtain rfl:j=0:=by omega
  rfl
 by_cases k1:c.kind=1
 · rw [k1] at a11 h1
   simp [k1,gT]
   repeat' with_reducible apply And.intro
   all_goals first | exact vC (by assumption) (by first | omega | (simp only [List.length_append,List.length_nil];omega)) | exact IL (by assumption) (by first | omega | (simp only [List.length_append,List.length_nil];omega)) | exact ⟨by first | omega | (simp only [List.length_append,List.length_nil];omega)⟩
 by_cases k2:c.kind=2
 · rw [k2] at a11 h1
   simp [k2,gT]
   repeat' with_reducible apply And.intro
   all_goals first | exact vC (by assumption) (by first | omega | (simp only [List.length_append,List.length_nil];omega)) | exact IL (by assumption) (by first | omega | (simp only [List.length_append,List.length_nil];omega)) | exact ⟨by first | omega | (simp only [List.length_append,List.length_nil];omega)⟩
 by_cases k3:c.kind=3
 · rw [k3] at a11 h1
   simp [k3,gT]
   repeat' with_reducible apply And.intro
   all_goals first | exact vC (by assumption) (by first | omega | (simp only [List.length_append,List.length_nil];omega)) | exact IL (by assumption) (by first | omega | (simp only [List.length_append,List.length_nil];omega)) | exact ⟨by first | omega | (simp only [List.length_append,List.length_nil];omega)⟩
 by_cases k4:c.kind=4
 · rw [k4] at a11 h1
   simp [k4,gT]
   repeat' with_reducible apply And.intro
   all_goals first | exact vC (by assumption) (by first | omega | (simp only [List.length_append,List.length_nil];omega)) | exact IL (by assumption) (by first | omega | (simp only [List.length_append,List.length_nil];omega)) | exact ⟨by first | omega | (simp only [List.length_append,List.length_nil];omega)⟩
 by_cases k5:c.kind=5
 · rw [k5] at a11 h1
   simp [k5,gT]
   repeat' with_reducible apply And.intro
   all_goals first | exact vC (by assumption) (by first | omega | (simp only [List.length_append,List.length_nil];omega)) | exact IL (by assumption) (by first | omega | (simp only [List.length_append,List.length_nil];omega)) | exact ⟨by first | omega | (simp only [List.length_append,List.length_nil];omega)⟩
 by_cases k6:c.kind=6
 · rw [k6] at a11 h1
   simp [k6,gT]
   repeat' with_reducible apply And.intro
   all_goals first | exact vC (by assumption) (by first | omega | (simp only [List.length_append,List.length_nil];omega)) | exact IL (by assumption) (by first | omega | (simp only [List.length_append,List.length_nil];omega)) | exact ⟨by first | omega | (simp only [List.length_append,List.length_nil];omega)⟩
 · simp [k1,k2,k3,k4,k5,k6,gT]
   repeat' with_reducible apply And.intro
   all_goals first | exact vC (by assumption) (by first | omega | (simp only [List.length_append,List.length_nil];omega)) | exact IL (by assumption) (by first | omega | (simp only [List.length_append,List.length_nil];omega)) | exact ⟨by first | omega | (simp only [List.length_append,List.length_nil];omega)⟩
noncomputable def wcC (c:R.bJ):dO Tryz.prog:=⟨23,[.agg (R.dV c)],[],.need (R3 c) (.ret (bn true (gT c),[],[])),T.Sat.need fun h=>agY c h⟩
def iL (x:R.gJ):List Int:=aF (x.err)++aj (x.off)++iW (x.old)++gy (x.recs)
noncomputable def wxH (x:R.gJ):aC Tryz.prog:=Lh (dS (hh _ bB ((cs1 31 2 3 (wiC (x.err) ([])) (cs1 31 3 3 (zq (x.off) ([]++aF (x.err))) (cs1 31 4 3 (wbC (x.old) ([]++aF (x.err)++aj (x.off))) (cs1 31 5 3 (wlC true (x.recs) ([]++aF (x.err)++aj (x.off)++iW (x.old))) (cs1 31 6 1 (Ze ([]++aF (x.err)++aj (x.off)++iW (x.old)++gy (x.recs))) bA)))))) bq) (nk 31 1 0 1001 noSh))
def ae8 (x:R.gJ):Prop :=
 ((0=0/\0=0)/\x.err=x.err/\True)/\((0=0/\ak 0 1 (fun (x x_1:Nat)=>AV.junk) (ah aD []))/\((0=0/\0=0)/\True)/\True)/\Nl x.err []/\((0=0/\0=0)/\x.off=x.off/\True)/\(fQ ([]++aF x.err) ([]++aF x.err))/\jv x.off ([]++aF x.err)/\((0=0/\0=0)/\x.old=x.old/\True)/\(fQ ([]++aF x.err++aj x.off) ([]++aF x.err++aj x.off))/\Vf ([]++aF x.err++aj x.off)/\((0=0/\0=0)/\(true=true/\x.recs.length=x.recs.length/\ak x.recs.length 5 (ah encR x.recs) (ah encR x.recs))/\True)/\(fQ ([]++aF x.err++aj x.off++[if x.old=true then 1 else 0]) ([]++aF x.err++aj x.off++[if x.old=true then 1 else 0]))/\JZ x.recs ([]++aF x.err++aj x.off++[if x.old=true then 1 else 0])/\((0=0/\0=0)/\True)/\(fQ ([]++aF x.err++aj x.off++[if x.old=true then 1 else 0]++gy x.recs) ([]++aF x.err++aj x.off++[if x.old=true then 1 else 0]++gy x.recs))/\DC ([]++aF x.err++aj x.off++[if x.old=true then 1 else 0]++gy x.recs).length/\(dI ([]++aF x.err++aj x.off++[if x.old=true then 1 else 0]++gy x.recs) (iL x))/\True
theorem V4 (x:R.gJ):(aZ Tryz.prog (wxH x) 31 [.agg (R.oJ x)] [] (.ret (bn true (iL x),[],[])))=ae8 x:=by kernel_rfl
def kN (x:P.Producer):List Int:=aj (x.id)++aj (x.seq)++iW (x.here)++aj (x.offset)
def pR (x:Con):List Int:=aA (aM (x.name))++aj (x.off)
def Jh (p:Part):List Int:=eu (p.rng)++aj (p.epoch)++aj (p.frozen)++gy (p.recs)
def nM (l:List P.Producer):List Int:=aj (l.length:Int)++l.flatMap kN
def Bv (l:List Con):List Int:=aj (l.length:Int)++l.flatMap pR
def gQ (p:Part):List Int:=Jh p++nM p.prods++Bv p.cons
def OI (b:Bool) (p:Part) (l:List Int):List aH:=[.box 30 (aW b p),.row 5 1 l.length none (ah aD l),.box 117 [.own 1 1 0 l.length]]
def kM (p:Part) (k:Nat):List Int:=Jh p++aj (p.prods.length:Int)++(p.prods.take k).flatMap kN
def nA (p:Part) (k:Nat):List Int:=Jh p++nM p.prods++aj (p.cons.length:Int)++(p.cons.take k).flatMap pR
def bpT (b:Bool) (p:Part) (k:Nat):List AV:=mkT 80 [(1,.ptr 0 0 0 0),(3,wP),(33,P.bG b p.prods),(34,.y (.int .i64 p.prods.length)),(35,.y (.int .i64 k))]
def bcT (b:Bool) (p:Part) (k:Nat):List AV:=mkT 80 [(1,.ptr 0 0 0 0),(3,wP),(63,dR b p.cons),(64,.y (.int .i64 p.cons.length)),(65,.y (.int .i64 k))]
def bpS (b:Bool) (p:Part) (_:Unit):Exit×List AV×List aH:=(.exit 0,bpT b p p.prods.length,OI b p (kM p p.prods.length))
def bcS (b:Bool) (p:Part) (_:Unit):Exit×List AV×List aH:=(.exit 2,bcT b p p.cons.length,OI b p (nA p p.cons.length))
noncomputable def bpH (p:Part) (k:Nat):aC Tryz.prog:=Lh (hh _ bB ((cs1 28 10 3 (zq ((p.prods.getD k default).id) (kM p k)) (cs1 28 11 3 (zq ((p.prods.getD k default).seq) (kM p k++aj ((p.prods.getD k default).id))) (cs1 28 12 3 (wbC ((p.prods.getD k default).here) (kM p k++aj ((p.prods.getD k default).id)++aj ((p.prods.getD k default).seq))) (cs1 28 13 3 (zq ((p.prods.getD k default).offset) (kM p k++aj ((p.prods.getD k default).id)++aj ((p.prods.getD k default).seq)++iW ((p.prods.getD k default).here))) bA))))) bq)
def afk (b:Bool) (p:Part) (k:Up p.prods.length):Prop :=
 (decide ((k.val:Int)<(p.prods.length:Int))=true->(true&&decide ((k.val:Int)<(p.prods.length:Int)))=true/\((0=0/\0=0)/\(p.prods.getD (Int.toNat (k.val:Int)) default).id=(p.prods.getD k.val default).id/\True)/\(fQ (kM p k.val) (kM p k.val))/\jv (p.prods.getD k.val default).id (kM p k.val)/\((0=0/\0=0)/\(p.prods.getD (Int.toNat (k.val:Int)) default).seq=(p.prods.getD k.val default).seq/\True)/\(fQ (kM p k.val++aj (p.prods.getD k.val default).id) (kM p k.val++aj (p.prods.getD k.val default).id))/\jv (p.prods.getD k.val default).seq (kM p k.val++aj (p.prods.getD k.val default).id)/\((0=0/\0=0)/\(p.prods.getD (Int.toNat (k.val:Int)) default).here=(p.prods.getD k.val default).here/\True)/\(fQ (kM p k.val++aj (p.prods.getD k.val default).id++aj (p.prods.getD k.val default).seq) (kM p k.val++aj (p.prods.getD k.val default).id++aj (p.prods.getD k.val default).seq))/\Vf (kM p k.val++aj (p.prods.getD k.val default).id++aj (p.prods.getD k.val default).seq)/\((0=0/\0=0)/\(p.prods.getD (Int.toNat (k.val:Int)) default).offset=(p.prods.getD k.val default).offset/\True)/\(fQ (kM p k.val++aj (p.prods.getD k.val default).id++aj (p.prods.getD k.val default).seq++[if (p.prods.getD k.val default).here=true then 1 else 0]) (kM p k.val++aj (p.prods.getD k.val default).id++aj (p.prods.getD k.val default).seq++[if (p.prods.getD k.val default).here=true then 1 else 0]))/\jv (p.prods.getD k.val default).offset (kM p k.val++aj (p.prods.getD k.val default).id++aj (p.prods.getD k.val default).seq++[if (p.prods.getD k.val default).here=true then 1 else 0])/\∃ (j:Up p.prods.length),p.prods.length - j.val<p.prods.length - k.val/\(((0=0/\0=0)/\(0=0/\0=0)/\(b=b/\p.prods.length=p.prods.length/\ak p.prods.length 4 (ah P.ay p.prods) (ah P.ay p.prods))/\(p.prods.length:Int)=(p.prods.length:Int)/\IntKind.i64.wrap ((k.val:Int)+1)=(j.val:Int)/\True)/\((bE b b p p)/\((kM p k.val++aj (p.prods.getD k.val default).id++aj (p.prods.getD k.val default).seq++[if (p.prods.getD k.val default).here=true then 1 else 0]++aj (p.prods.getD k.val default).offset).length=(kM p j.val).length/\ak (kM p k.val++aj (p.prods.getD k.val default).id++aj (p.prods.getD k.val default).seq++[if (p.prods.getD k.val default).here=true then 1 else 0]++aj (p.prods.getD k.val default).offset).length 1 (ah aD (kM p k.val++aj (p.prods.getD k.val default).id++aj (p.prods.getD k.val default).seq++[if (p.prods.getD k.val default).here=true then 1 else 0]++aj (p.prods.getD k.val default).offset)) (ah aD (kM p j.val)))/\((0=0/\(kM p k.val++aj (p.prods.getD k.val default).id++aj (p.prods.getD k.val default).seq++[if (p.prods.getD k.val default).here=true then 1 else 0]++aj (p.prods.getD k.val default).offset).length=(kM p j.val).length)/\True)/\True)/\true=true)/\true=true/\()=())/\(decide ((k.val:Int)<(p.prods.length:Int))=false->((0=0/\0=0)/\(0=0/\0=0)/\(b=b/\p.prods.length=p.prods.length/\ak p.prods.length 4 (ah P.ay p.prods) (ah P.ay p.prods))/\(p.prods.length:Int)=(p.prods.length:Int)/\(k.val:Int)=(p.prods.length:Int)/\True)/\((bE b b p p)/\((kM p k.val).length=(kM p p.prods.length).length/\ak (kM p k.val).length 1 (ah aD (kM p k.val)) (ah aD (kM p p.prods.length)))/\((0=0/\(kM p k.val).length=(kM p p.prods.length).length)/\True)/\True)/\true=true)
theorem Yu (b:Bool) (p:Part) (k:Up p.prods.length):(cu Tryz.prog (bpH p k.1) 28 8 (fun k:Up p.prods.length=>p.prods.length - k.1) (fun k=>bpT b p k.1) (fun k=>OI b p (kM p k.1)) [1,3,4] (fun _=>.ret ()) (bpS b p) k)=afk b p k:=by kernel_rfl
noncomputable def bcH (p:Part) (k:Nat):aC Tryz.prog:=Lh (hh _ bB ((cs1 28 19 3 (wsC ((p.cons.getD k default).name) (nA p k)) (cs1 28 20 3 (zq ((p.cons.getD k default).off) (nA p k++aA (aM ((p.cons.getD k default).name)))) bA))) bq)
def aey (b:Bool) (p:Part) (k:Up p.cons.length):Prop :=
 (decide ((k.val:Int)<(p.cons.length:Int))=true->(true&&decide ((k.val:Int)<(p.cons.length:Int)))=true/\((0=0/\0=0)/\(p.cons.getD (Int.toNat (k.val:Int)) default).name=(p.cons.getD k.val default).name/\True)/\(fQ (nA p k.val) (nA p k.val))/\yO (p.cons.getD k.val default).name (nA p k.val)/\((0=0/\0=0)/\(p.cons.getD (Int.toNat (k.val:Int)) default).off=(p.cons.getD k.val default).off/\True)/\(fQ (nA p k.val++aA (aM (p.cons.getD k.val default).name)) (nA p k.val++aA (aM (p.cons.getD k.val default).name)))/\jv (p.cons.getD k.val default).off (nA p k.val++aA (aM (p.cons.getD k.val default).name))/\∃ (j:Up p.cons.length),p.cons.length - j.val<p.cons.length - k.val/\(((0=0/\0=0)/\(0=0/\0=0)/\(b=b/\p.cons.length=p.cons.length/\ak p.cons.length 2 (ah aJ p.cons) (ah aJ p.cons))/\(p.cons.length:Int)=(p.cons.length:Int)/\IntKind.i64.wrap ((k.val:Int)+1)=(j.val:Int)/\True)/\((bE b b p p)/\((nA p k.val++aA (aM (p.cons.getD k.val default).name)++aj (p.cons.getD k.val default).off).length=(nA p j.val).length/\ak (nA p k.val++aA (aM (p.cons.getD k.val default).name)++aj (p.cons.getD k.val default).off).length 1 (ah aD (nA p k.val++aA (aM (p.cons.getD k.val default).name)++aj (p.cons.getD k.val default).off)) (ah aD (nA p j.val)))/\((0=0/\(nA p k.val++aA (aM (p.cons.getD k.val default).name)++aj (p.cons.getD k.val default).off).length=(nA p j.val).length)/\True)/\True)/\true=true)/\true=true/\()=())/\(decide ((k.val:Int)<(p.cons.length:Int))=false->((0=0/\0=0)/\(0=0/\0=0)/\(b=b/\p.cons.length=p.cons.length/\ak p.cons.length 2 (ah aJ p.cons) (ah aJ p.cons))/\(p.cons.length:Int)=(p.cons.length:Int)/\(k.val:Int)=(p.cons.length:Int)/\True)/\((bE b b p p)/\((nA p k.val).length=(nA p p.cons.length).length/\ak (nA p k.val).length 1 (ah aD (nA p k.val)) (ah aD (nA p p.cons.length)))/\((0=0/\(nA p k.val).length=(nA p p.cons.length).length)/\True)/\True)/\true=true)
theorem YF (b:Bool) (p:Part) (k:Up p.cons.length):(cu Tryz.prog (bcH p k.1) 28 17 (fun k:Up p.cons.length=>p.cons.length - k.1) (fun k=>bcT b p k.1) (fun k=>OI b p (nA p k.1)) [1,3,4] (fun _=>.ret ()) (bcS b p) k)=aey b p k:=by kernel_rfl
noncomputable def Hg (b:Bool) (p:Part):aC Tryz.prog:=Lh (dS (hh _ (nu 28 8 (eP (fun k:Up p.prods.length=>bpT b p k.1) (fun k=>OI b p (kM p k.1)) [1,3,4] (fun _=>.ret ()) (bpS b p) ⟨0,Nat.zero_le _⟩) (nu 28 17 (eP (fun k:Up p.cons.length=>bcT b p k.1) (fun k=>OI b p (nA p k.1)) [1,3,4] (fun _=>.ret ()) (bcS b p) ⟨0,Nat.zero_le _⟩) bB)) ((cs1 28 2 3 (wgC (p.rng) ([])) (cs1 28 3 3 (zq (p.epoch) ([]++eu (p.rng))) (cs1 28 4 3 (zq (p.frozen) ([]++eu (p.rng)++aj (p.epoch))) (cs1 28 5 3 (wlC b (p.recs) ([]++eu (p.rng)++aj (p.epoch)++aj (p.frozen))) (cs1 28 6 5 (zq ((p.prods.length:Int)) ([]++eu (p.rng)++aj (p.epoch)++aj (p.frozen)++gy (p.recs))) (cs1 28 15 5 (zq ((p.cons.length:Int)) (kM p p.prods.length)) (cs1 28 22 1 (Ze (nA p p.cons.length)) bA)))))))) bq) (nk 28 1 0 1001 noSh))
def Ht (b:Bool) (p:Part):Prop :=
 ((0=0/\0=0)/\(p.rng.lo=p.rng.lo/\p.rng.hi=p.rng.hi/\True)/\True)/\((0=0/\ak 0 1 (fun (x x_1:Nat)=>AV.junk) (ah aD []))/\((0=0/\0=0)/\True)/\True)/\DC ([]++eu p.rng).length/\((0=0/\0=0)/\p.epoch=p.epoch/\True)/\(fQ ([]++eu p.rng) ([]++eu p.rng))/\jv p.epoch ([]++eu p.rng)/\((0=0/\0=0)/\p.frozen=p.frozen/\True)/\(fQ ([]++eu p.rng++aj p.epoch) ([]++eu p.rng++aj p.epoch))/\jv p.frozen ([]++eu p.rng++aj p.epoch)/\((0=0/\0=0)/\(b=b/\p.recs.length=p.recs.length/\ak p.recs.length 5 (ah encR p.recs) (ah encR p.recs))/\True)/\(fQ ([]++eu p.rng++aj p.epoch++aj p.frozen) ([]++eu p.rng++aj p.epoch++aj p.frozen))/\JZ p.recs ([]++eu p.rng++aj p.epoch++aj p.frozen)/\((0=0/\0=0)/\IntKind.u64.wrap (p.prods.length:Int)=(p.prods.length:Int)/\True)/\(fQ ([]++eu p.rng++aj p.epoch++aj p.frozen++gy p.recs) ([]++eu p.rng++aj p.epoch++aj p.frozen++gy p.recs))/\jv (p.prods.length:Int) ([]++eu p.rng++aj p.epoch++aj p.frozen++gy p.recs)/\(((0=0/\0=0)/\(0=0/\0=0)/\(b=b/\p.prods.length=p.prods.length/\ak p.prods.length 4 (ah P.ay p.prods) (ah P.ay p.prods))/\(p.prods.length:Int)=(p.prods.length:Int)/\(0:Int)=0/\True)/\((bE b b p p)/\(([]++eu p.rng++aj p.epoch++aj p.frozen++gy p.recs++aj (p.prods.length:Int)).length=(kM p 0).length/\ak ([]++eu p.rng++aj p.epoch++aj p.frozen++gy p.recs++aj (p.prods.length:Int)).length 1 (ah aD ([]++eu p.rng++aj p.epoch++aj p.frozen++gy p.recs++aj (p.prods.length:Int))) (ah aD (kM p 0)))/\((0=0/\([]++eu p.rng++aj p.epoch++aj p.frozen++gy p.recs++aj (p.prods.length:Int)).length=(kM p 0).length)/\True)/\True)/\true=true)/\aQ Tryz.prog 28 8 (aS Tryz.prog 28 8) { t:=bpT b p (⟨0,Hg._proof_1 p⟩:{ k:Nat // k<=p.prods.length }).val,m:=OI b p (kM p (⟨0,Hg._proof_1 p⟩:{ k:Nat // k<=p.prods.length }).val),mv:=[]:St } (T.map (bU [1,3,4] (bpS b p)) ((fun (x:Up p.prods.length)=>T.ret ()) (⟨0,Hg._proof_1 p⟩:{ k:Nat // k<=p.prods.length })))/\((0=0/\0=0)/\IntKind.u64.wrap (p.cons.length:Int)=(p.cons.length:Int)/\True)/\(fQ (kM p p.prods.length) (kM p p.prods.length))/\jv (p.cons.length:Int) (kM p p.prods.length)/\(((0=0/\0=0)/\(0=0/\0=0)/\(b=b/\p.cons.length=p.cons.length/\ak p.cons.length 2 (ah aJ p.cons) (ah aJ p.cons))/\(p.cons.length:Int)=(p.cons.length:Int)/\(0:Int)=0/\True)/\((bE b b p p)/\((kM p p.prods.length++aj (p.cons.length:Int)).length=(nA p 0).length/\ak (kM p p.prods.length++aj (p.cons.length:Int)).length 1 (ah aD (kM p p.prods.length++aj (p.cons.length:Int))) (ah aD (nA p 0)))/\((0=0/\(kM p p.prods.length++aj (p.cons.length:Int)).length=(nA p 0).length)/\True)/\True)/\true=true)/\aQ Tryz.prog 28 17 (aS Tryz.prog 28 17) { t:=bcT b p (⟨0,Hg._proof_2 p⟩:{ k:Nat // k<=p.cons.length }).val,m:=OI b p (nA p (⟨0,Hg._proof_2 p⟩:{ k:Nat // k<=p.cons.length }).val),mv:=[]:St } (T.map (bU [1,3,4] (bcS b p)) ((fun (x:Up p.cons.length)=>T.ret ()) (⟨0,Hg._proof_2 p⟩:{ k:Nat // k<=p.cons.length })))/\((0=0/\0=0)/\True)/\(fQ (nA p p.cons.length) (nA p p.cons.length))/\DC (nA p p.cons.length).length/\(dI (nA p p.cons.length) (gQ p))/\True
theorem vG (b:Bool) (p:Part):(aZ Tryz.prog (Hg b p) 28 [.agg (aW b p)] [] (.ret (bn true (gQ p),[],[])))=Ht b p:=by kernel_rfl
structure BU (x:R.gJ):Prop where
 err:jC x.err
 off:nO x.off
 u:∀ k,k<x.recs.length->FL (x.recs.getD k default)
 n:DC (iL x).length
theorem sO (b:Bool):(iW b).length=1:=rfl
theorem ZH (l:List Int):∀ k,k<l.length->∀ j,j<1->dK (ah aD l k j)=true:=by
 intro k hk j hj
 obtain rfl:j=0:=by omega
 rfl
theorem agO (x:R.gJ) (h:BU x):(T.ret (bn true (iL x),[],[]):T An).Sat (au Tryz.prog 31 [.agg (R.oJ x)] []):=by
 refine aR (ht:=wxH x) Tryz.mixed rfl ?_
 rw [V4 x]
 unfold ae8
 obtain ⟨h1,h2,h3,h4⟩:=h
 have hn:=h4.h
 have a1:=fu x.err
 have a2:=aG x.off
 have a3:=sO x.old
 simp only [iL,List.length_append] at hn
 have b4:JZ x.recs (aF x.err++(aj x.off++iW x.old)):=⟨h3,⟨by simp only [List.length_append];omega⟩⟩
 simp only [iW] at b4
 simp [iL,iW]
 repeat' with_reducible apply And.intro
 all_goals first | exact b4 | exact vC (by assumption) (by first | omega | (simp only [List.length_append,List.length_cons,List.length_nil];omega)) | exact IL (by assumption) (by first | omega | (simp only [List.length_append,List.length_cons,List.length_nil];omega)) | exact ⟨by first | omega | (simp only [List.length_append,List.length_cons,List.length_nil];omega)⟩
noncomputable def wxC (x:R.gJ):dO Tryz.prog:=⟨31,[.agg (R.oJ x)],[],.need (BU x) (.ret (bn true (iL x),[],[])),T.Sat.need fun h=>agO x h⟩
structure Dl (x:P.Producer):Prop where
 id:nO x.id
 seq:nO x.seq
 offset:nO x.offset
structure PtU (p:Part):Prop where
 epoch:nO p.epoch
 frozen:nO p.frozen
 recs:∀ k,k<p.recs.length->FL (p.recs.getD k default)
 prods:∀ k,k<p.prods.length->Dl (p.prods.getD k default)
 cons:∀ k,k<p.cons.length->nO (p.cons.getD k default).off
 n:DC (gQ p).length
theorem Ga {α β:Type} (f:α->List β) (l:List α) (k:Nat):((l.take k).flatMap f).length<=(l.flatMap f).length:=by
 have:l.flatMap f=(l.take k).flatMap f++(l.drop k).flatMap f:=by rw [<- List.flatMap_append,List.take_append_drop]
 rw [this,List.length_append]
 omega
theorem F8 {α β:Type} (f:α->List β) (hf:∀ x,1<=(f x).length) (l:List α):l.length<=(l.flatMap f).length:=by
 induction l with
 | nil=>simp
 | cons a l ih =>
   have:=hf a
   simp only [List.flatMap_cons,List.length_append,List.length_cons]
   omega
theorem Dw (v:Int):1<=(aj v).length:=by
 unfold aj xL
 split<;>simp
theorem NZ (x:P.Producer):1<=(kN x).length:=by
 have:=Dw x.id
 unfold kN
 simp only [List.length_append]
 omega
theorem QY (x:Con):1<=(pR x).length:=by
 have:=Dw x.off
 unfold pR
 simp only [List.length_append]
 omega
theorem Qc {p:Part} {k:Nat} (h:k<p.prods.length):kM p (k+1)=kM p k++kN (p.prods.getD k default):=by
 unfold kM
 rw [wU kN p.prods k h]
 simp only [List.append_assoc]
theorem Pf {p:Part} {k:Nat} (h:k<p.cons.length):nA p (k+1)=nA p k++pR (p.cons.getD k default):=by
 unfold nA
 rw [wU pR p.cons k h]
 simp only [List.append_assoc]
theorem WK (p:Part):kM p p.prods.length=Jh p++nM p.prods:=by
 unfold kM nM
 rw [List.take_length,List.append_assoc]
theorem WO (p:Part):nA p p.cons.length=gQ p:=by
 unfold nA gQ Bv
 rw [List.take_length]
 simp only [List.append_assoc]
theorem U6 (p:Part) (k:Nat):(kM p k).length<=(gQ p).length:=by
 have:=Ga kN p.prods k
 unfold kM gQ nM
 simp only [List.length_append]
 omega
theorem V_ (p:Part) (k:Nat):(nA p k).length<=(gQ p).length:=by
 have:=Ga pR p.cons k
 unfold nA gQ Bv
 simp only [List.length_append]
 omega
theorem EZ (p:Part) (h:PtU p):p.prods.length<=140737488355327/\p.cons.length<=140737488355327/\p.recs.length<=140737488355327:=by
 have hn:=h.n.h
 have h1:=F8 kN NZ p.prods
 have h2:=F8 pR QY p.cons
 have h3:=DU p.recs
 simp only [gQ,Jh,gy,nM,Bv,List.length_append] at hn
 omega
theorem Ws (b:Bool) (p:Part) (hu:PtU p) (k:Up p.prods.length):aQ Tryz.prog 28 8 (aS Tryz.prog 28 8) ⟨bpT b p k.1,OI b p (kM p k.1),[]⟩ (T.map (bU [1,3,4] (bpS b p)) (.ret ())):=by
 have hb:=(EZ p hu).1
 have hn:=hu.n.h
 refine dU (P:=Tryz.prog) (f:=28) (k:=8) (ι:=Up p.prods.length) (μ:=fun k=>p.prods.length - k.1) (ht:=fun k=>bpH p k.1) (qG:=fun k=>bpT b p k.1) (stM:=fun k=>OI b p (kM p k.1)) (X:=[1,3,4]) (o:=fun _=>.ret ()) (S:=bpS b p) Tryz.mixed (fun _=>rfl) (fun k=>?_) k
 rw [Yu b p k]
 unfold afk
 obtain ⟨k,hk⟩:=k
 by_cases h:k<p.prods.length
 · have hd:decide ((k:Int)<(p.prods.length:Int))=true:=by simp;omega
   have h1:IntKind.wrap IntKind.i64 ((k:Int)+1)=(k:Int)+1:=wrap_i64 (by omega) (by omega)
   have e:=Qc h
   have hl:=U6 p (k+1)
   obtain ⟨u1,u2,u3⟩:=hu.prods k h
   rw [e] at hl
   have a1:=aG (p.prods.getD k default).id
   have a2:=aG (p.prods.getD k default).seq
   have a3:=aG (p.prods.getD k default).offset
   have a4:=sO (p.prods.getD k default).here
   simp only [kN,List.length_append] at hl
   simp only [hd,h1]
   simp at e hl a1 a2 a3 a4 u1 u2 u3
   simp
   repeat' with_reducible apply And.intro
   all_goals first | exact vC (by assumption) (by first | omega | (simp only [List.length_append,List.length_cons,List.length_nil];omega)) | exact ⟨by first | omega | (simp only [List.length_append,List.length_cons,List.length_nil];omega)⟩ | skip
   refine ⟨k+1,?_⟩
   rw [e]
   simp [kN,iW]
   omega
 · obtain rfl:k=p.prods.length:=by omega
   simp
theorem UJ (b:Bool) (p:Part) (hu:PtU p) (k:Up p.cons.length):aQ Tryz.prog 28 17 (aS Tryz.prog 28 17) ⟨bcT b p k.1,OI b p (nA p k.1),[]⟩ (T.map (bU [1,3,4] (bcS b p)) (.ret ())):=by
 have hb:=(EZ p hu).2.1
 have hn:=hu.n.h
 refine dU (P:=Tryz.prog) (f:=28) (k:=17) (ι:=Up p.cons.length) (μ:=fun k=>p.cons.length - k.1) (ht:=fun k=>bcH p k.1) (qG:=fun k=>bcT b p k.1) (stM:=fun k=>OI b p (nA p k.1)) (X:=[1,3,4]) (o:=fun _=>.ret ()) (S:=bcS b p) Tryz.mixed (fun _=>rfl) (fun k=>?_) k
 rw [YF b p k]
 unfold aey
 obtain ⟨k,hk⟩:=k
 by_cases h:k<p.cons.length
 · have hd:decide ((k:Int)<(p.cons.length:Int))=true:=by simp;omega
   have h1:IntKind.wrap IntKind.i64 ((k:Int)+1)=(k:Int)+1:=wrap_i64 (by omega) (by omega)
   have e:=Pf h
   have hl:=V_ p (k+1)
   have u1:=hu.cons k h
   rw [e] at hl
   have a1:=aG (p.cons.getD k default).off
   have a2:=kQ (p.cons.getD k default).name
   simp only [pR,List.length_append] at hl
   simp only [hd,h1]
   simp at e hl a1 a2 u1
   simp
   repeat' with_reducible apply And.intro
   all_goals first | exact vC (by assumption) (by first | omega | (simp only [List.length_append,List.length_cons,List.length_nil];omega)) | exact ⟨by first | omega | (simp only [List.length_append,List.length_cons,List.length_nil];omega)⟩ | skip
   refine ⟨k+1,?_⟩
   rw [e]
   simp [pR]
   omega
 · obtain rfl:k=p.cons.length:=by omega
   simp
theorem Rh (b:Bool) (p:Part) (hu:PtU p):(T.ret (bn true (gQ p),[],[]):T An).Sat (au Tryz.prog 28 [.agg (aW b p)] []):=by
 have hb:=EZ p hu
 have hn:=hu.n.h
 have lp:=Ws b p hu ⟨0,Nat.zero_le _⟩
 have lc:=UJ b p hu ⟨0,Nat.zero_le _⟩
 refine aR (ht:=Hg b p) Tryz.mixed rfl ?_
 rw [vG b p]
 unfold Ht
 have e1:IntKind.wrap IntKind.u64 (p.prods.length:Int)=p.prods.length:=wrap_u64 (by omega) (by omega)
 have e2:IntKind.wrap IntKind.u64 (p.cons.length:Int)=p.cons.length:=wrap_u64 (by omega) (by omega)
 have e3:kM p 0=Jh p++aj (p.prods.length:Int):=by unfold kM;simp
 have e4:nA p 0=Jh p++nM p.prods++aj (p.cons.length:Int):=by unfold nA;simp
 obtain ⟨h1,h2,h3,h4,h5,h6⟩:=hu
 have a1:=aG p.epoch
 have a2:=aG p.frozen
 have a3:=aG (p.prods.length:Int)
 have a4:=aG (p.cons.length:Int)
 have u1:nO (p.prods.length:Int):=⟨by omega,by omega⟩
 have u2:nO (p.cons.length:Int):=⟨by omega,by omega⟩
 have hm:=hn
 simp only [gQ,Jh,nM,Bv,List.length_append] at hm
 simp only [e1,e2,e3,e4,WK,WO] at lp lc ⊢
 simp only [Jh,gQ,nM,Bv,List.append_assoc,List.nil_append] at lp lc ⊢
 have b5:JZ p.recs (eu p.rng++(aj p.epoch++aj p.frozen)):=⟨h3,⟨by simp only [List.length_append];omega⟩⟩
 simp [-List.length_flatMap]
 repeat' with_reducible apply And.intro
 all_goals first | exact b5 | exact lp | exact lc | exact vC (by assumption) (by first | omega | (simp only [List.length_append,List.length_cons,List.length_nil];omega)) | exact ⟨by first | omega | (simp only [List.length_append,List.length_cons,List.length_nil];omega)⟩
noncomputable def byC (b:Bool) (p:Part):dO Tryz.prog:=⟨28,[.agg (aW b p)],[],.need (PtU p) (.ret (bn true (gQ p),[],[])),T.Sat.need fun h=>Rh b p h⟩
structure RS where
 at_:Nat
 e:Int
 bad:Int
instance:Inhabited RS:=⟨⟨0,0,0⟩⟩
def RS.f (s:RS):Bool:=s.e != 0
def TF (s:RS):AV:=.ip true 2 (get [.y (.int .i64 s.bad),.ifc 31 (.y (.int .i64 s.e))])
def bV (l:List Int) (s t:RS):Prop:=(true=true/\List.length l=List.length l/\ak (List.length l) (1:Nat) (ah aD l) (ah aD l))/\(↑s.at_:Int)=(↑t.at_:Int)/\(RS.f s=RS.f t/\true=true/\(2:Nat)<=(2:Nat)/\eT (2:Nat) (Ax.get [AV.y (Value.int IntKind.i64 s.bad),AV.ifc (31:Nat) (AV.y (Value.int IntKind.i64 s.e))]) (Ax.get [AV.y (Value.int IntKind.i64 t.bad),AV.ifc (31:Nat) (AV.y (Value.int IntKind.i64 t.e))]))/\True
@[simp] theorem agr (l:List Int) (s t:RS):bV l s t=((true=true/\List.length l=List.length l/\ak (List.length l) (1:Nat) (ah aD l) (ah aD l))/\(↑s.at_:Int)=(↑t.at_:Int)/\(RS.f s=RS.f t/\true=true/\(2:Nat)<=(2:Nat)/\eT (2:Nat) (Ax.get [AV.y (Value.int IntKind.i64 s.bad),AV.ifc (31:Nat) (AV.y (Value.int IntKind.i64 s.e))]) (Ax.get [AV.y (Value.int IntKind.i64 t.bad),AV.ifc (31:Nat) (AV.y (Value.int IntKind.i64 t.e))]))/\True):=rfl
def rM (l:List Int) (s:RS):List aH:=[.dead,.box 175 [bn true l,.y (.int .i64 s.at_),.opt s.f 206 (TF s)]]
def rP:AV:=.ptr 1 0 0 0
def dW (s:RS) (e:Int) (p:Nat):RS:=if s.e != 0 then s else ⟨p,e,p⟩
noncomputable def zZ:aC Tryz.prog->aC Tryz.prog:=fun h=>rW h [129,125,126,86,83,82,84,90,88,87,89,127,85,41,113]
def rR (l:List Int) (s:RS) (mv:List Nat):T An:=.ret (.tup [],rM l s,mv)
noncomputable def rfH:aC Tryz.prog:=zZ (dS (hT _) (nk 129 1 6 779 noSh))
def ad_ (l:List Int) (s:RS) (e:Int) (p:Nat):Prop :=
 ((!RS.f s)=true->((e != 0)=true->True/\((dI l l)/\(p:Int)=((dW s e p).at_:Int)/\(RS.f (dW s e p)=true/\true=true/\2<=2/\eT 2 (Ax.get [AV.y (.int .i64 (p:Int)),AV.ifc 31 (AV.y (.int .i64 e))]) (Ax.get [AV.y (.int .i64 (dW s e p).bad),AV.ifc 31 (AV.y (.int .i64 (dW s e p).e))]))/\True)/\True)/\((e != 0)=false->True/\(bV l s (dW s e p))/\True))/\((!RS.f s)=false->True/\(bV l s (dW s e p))/\True)
theorem U4 (l:List Int) (s:RS) (e:Int) (p:Nat):(eU Tryz.prog rfH 129 [rP,.y (.int .i64 e),.y (.int .i64 p)] (rM l s) (rR l (dW s e p) [2]))=ad_ l s e p:=by kernel_rfl
def rMg (l:List Int) (s:RS):List aH:=[.dead,.box 175 [bn true l,.y (.int .i64 s.at_),.s .nilIface]]
def rMf (l:List Int) (s:RS):List aH:=[.dead,.box 175 [bn true l,.y (.int .i64 s.at_),.ifc 206 (TF s)]]
def OL (l:List Int) (s:RS) (mv:List Nat):T An:=.ret (.tup [.y (.int .i64 s.e),.y (.int .i64 s.bad)],rM l s,mv)
def Zy (l:List Int) (s:RS):Prop :=
 (0=s.e/\0=s.bad/\True)/\((dI l l)/\(s.at_:Int)=(s.at_:Int)/\RS.f s=false/\True)/\True
theorem TT (l:List Int) (s:RS):(eU Tryz.prog (zZ (hT _)) 126 [rP] (rMg l s) (OL l s [2]))=Zy l s:=by kernel_rfl
def Z7 (l:List Int) (s:RS):Prop :=
 (s.e=s.e/\s.bad=s.bad/\True)/\((dI l l)/\(s.at_:Int)=(s.at_:Int)/\(RS.f s=true/\true=true/\2<=2/\eT 2 (Ax.get [AV.y (.int .i64 s.bad),AV.ifc 31 (AV.y (.int .i64 s.e))]) (Ax.get [AV.y (.int .i64 s.bad),AV.ifc 31 (AV.y (.int .i64 s.e))]))/\True)/\True
theorem QX (l:List Int) (s:RS):(eU Tryz.prog (zZ (hT _)) 126 [rP] (rMf l s) (OL l s [2]))=Z7 l s:=by kernel_rfl
def nrR (l:List Int):T An:=.ret (.ptr 0 0 0 0,[.box 175 [bn true l,.y (.int .i64 0),.opt false 206 (TF default)]],[])
noncomputable def nrH (b:Bool) (l:List Int):aC Tryz.prog:=dS (hh _ bB (cs1 81 1 1 (KQ b l.length (ah aD l)) bA) bq) (nk 81 1 2 779 noSh)
def aeX (b:Bool) (l:List Int):Prop :=
 ((b=b/\l.length=l.length/\ak l.length 1 (ah aD l) (ah aD l))/\True)/\True/\l.length<=140737488355328/\(∀ k,k<l.length->∀ j,j<1->dK (ah aD l k j)=true)/\(0=0/\0=0)/\((true=true/\l.length=l.length/\ak l.length 1 (Ax.rowAt 0 (ah aD l)) (ah aD l))/\(0:Int)=0/\false=false/\True)/\True
theorem UF (b:Bool) (l:List Int):(aZ Tryz.prog (nrH b l) 81 [bn b l] [] (nrR l))=aeX b l:=by kernel_rfl
theorem ahh (l:List Int) (s:RS) (e:Int) (p:Nat) (he:e≠0):(rR l (dW s e p) []).Sat (au Tryz.prog 129 [rP,.y (.int .i64 e),.y (.int .i64 p)] (rM l s)):=by
 have h3:(rR l (dW s e p) [2]).Sat (au Tryz.prog 129 [rP,.y (.int .i64 e),.y (.int .i64 p)] (rM l s)):=by
  refine dG (ht:=rfH) Tryz.mixed rfl ?_
  rw [U4 l s e p]
  unfold ad_
  cases hf:s.f
  · have h1:dW s e p=⟨p,e,p⟩:=by unfold dW;rw [show (s.e != 0)=false from hf];rfl
    have h2:(e != 0)=true:=by simpa using he
    rw [h1]
    simp [h2,RS.f]
  · have h1:dW s e p=s:=by unfold dW;rw [show (s.e != 0)=true from hf];rfl
    rw [h1]
    simp [hf]
 have h1:au Tryz.prog 129 [rP,.y (.int .i64 e),.y (.int .i64 p)] (rM l s) (.tup [],rM l (dW s e p),[2]):=jN h3
 have h2:au Tryz.prog 129 [rP,.y (.int .i64 e),.y (.int .i64 p)] (rM l s) (.tup [],rM l (dW s e p),[]):=lI h1 fun i hi=>by
  obtain rfl:=List.mem_singleton.1 hi
  exact .inr rfl
 exact T.Sat.ret h2
noncomputable def rfC (l:List Int) (s:RS) (e:Int) (p:Nat):dO Tryz.prog:=⟨129,[rP,.y (.int .i64 e),.y (.int .i64 p)],rM l s,.need (e≠0) (rR l (dW s e p) []),T.Sat.need fun h=>ahh l s e p h⟩
structure Oh (s:RS):Prop where
 bad:s.e=0->s.bad=0
theorem Zz {f:FuncId} {args:List AV} {M:List aH} {l:List Int} {s:RS} (hM:getM M 2=.dead) (h:(OL l s [2]).Sat (au Tryz.prog f args M)):(OL l s []).Sat (au Tryz.prog f args M):=by
 have h1:au Tryz.prog f args M (.tup [.y (.int .i64 s.e),.y (.int .i64 s.bad)],rM l s,[2]):=jN h
 have h2:au Tryz.prog f args M (.tup [.y (.int .i64 s.e),.y (.int .i64 s.bad)],rM l s,[]):=lI h1 fun i hi=>by
  obtain rfl:=List.mem_singleton.1 hi
  exact .inr hM
 exact T.Sat.ret h2
theorem ahD (l:List Int) (s:RS) (he:s.e=0) (hb:s.bad=0):(OL l s []).Sat (au Tryz.prog 126 [rP] (rMg l s)):=by
 refine Zz rfl (dG (ht:=zZ (hT _)) Tryz.mixed rfl ?_)
 rw [TT l s]
 unfold Zy
 simp [he,hb,RS.f]
theorem ahz (l:List Int) (s:RS) (he:s.f=true):(OL l s []).Sat (au Tryz.prog 126 [rP] (rMf l s)):=by
 refine Zz rfl (dG (ht:=zZ (hT _)) Tryz.mixed rfl ?_)
 rw [QX l s]
 unfold Z7
 simp [he]
noncomputable def afa (l:List Int) (s:RS) (he:s.e=0) (hb:s.bad=0):dO Tryz.prog:=⟨126,[rP],rMg l s,OL l s [],ahD l s he hb⟩
noncomputable def adU (l:List Int) (s:RS) (he:s.f=true):dO Tryz.prog:=⟨126,[rP],rMf l s,OL l s [],ahz l s he⟩
def ae5 (l:List Int) (s:RS) (he:s.e=0) (hb:s.bad=0):Prop :=
 ((0=0/\0=0)/\True)/\(((dI l l)/\(s.at_:Int)=(s.at_:Int)/\RS.f s=false/\True)/\True)/\(s.e=s.e/\s.bad=s.bad/\True)/\(bV l s s)/\True
theorem Xj (l:List Int) (s:RS) (he:s.e=0) (hb:s.bad=0):((wV (afa l s he hb) 126 [rP] (rM l s)).post fun a=>(OL l s []).post fun b=>Kc a b)=ae5 l s he hb:=by kernel_rfl
def adY (l:List Int) (s:RS) (he:s.f=true):Prop :=
 ((0=0/\0=0)/\True)/\(((dI l l)/\(s.at_:Int)=(s.at_:Int)/\(RS.f s=true/\true=true/\2<=2/\eT 2 (Ax.get [AV.y (.int .i64 s.bad),AV.ifc 31 (AV.y (.int .i64 s.e))]) (Ax.get [AV.y (.int .i64 s.bad),AV.ifc 31 (AV.y (.int .i64 s.e))]))/\True)/\True)/\(s.e=s.e/\s.bad=s.bad/\True)/\(bV l s s)/\True
theorem X3 (l:List Int) (s:RS) (he:s.f=true):((wV (adU l s he) 126 [rP] (rM l s)).post fun a=>(OL l s []).post fun b=>Kc a b)=adY l s he:=by kernel_rfl
theorem ahl (l:List Int) (s:RS) (h:Oh s):(OL l s []).Sat (au Tryz.prog 126 [rP] (rM l s)):=by
 cases hf:s.f
 · have he:s.e=0:=by simpa [RS.f] using hf
   refine (sw (afa l s he (h.bad he))).zA rfl (fun _ _=>zu) ?_
   rw [Xj l s he (h.bad he)]
   unfold ae5
   simp [hf]
 · refine (sw (adU l s hf)).zA rfl (fun _ _=>zu) ?_
   rw [X3 l s hf]
   unfold adY
   simp [hf]
noncomputable def erC (l:List Int) (s:RS):dO Tryz.prog:=⟨126,[rP],rM l s,.need (Oh s) (OL l s []),T.Sat.need fun h=>ahl l s h⟩
structure LOk (l:List Int):Prop where
 n:l.length<=140737488355328
theorem agX (b:Bool) (l:List Int) (h:LOk l):(nrR l).Sat (au Tryz.prog 81 [bn b l] []):=by
 refine aR (ht:=nrH b l) Tryz.mixed rfl ?_
 rw [UF b l]
 unfold aeX
 have hr:ak l.length 1 (Ax.rowAt 0 (ah aD l)) (ah aD l):=fun k hk j hj=>bN _
 have ht:=ZH l
 have hn:=h.n
 simp [hr]
 exact ⟨hn,fun k hk=>ht k hk 0 (by decide)⟩
noncomputable def nrC (b:Bool) (l:List Int):dO Tryz.prog:=⟨81,[bn b l],[],.need (LOk l) (nrR l),T.Sat.need fun h=>agX b l h⟩
structure Bytes (l:List Int):Prop where
 b:∀ x∈l,0<=x/\x<256
def OJ:List Int->Nat->Int->Int×Int×Nat
 | [],_,_=>(11,0,0)
 | c::r,i,v=>if i=9/\c≠1 then (12,0,0) else if 128<=c then OJ r (i+1) (v+(c % 128)*2 ^ (7*i)) else if c=0/\0<i then (12,0,0) else (0,v+(c % 128)*2 ^ (7*i),i+1)
def kP (l:List Int) (s:RS):Int×Int×Nat:=OJ (l.drop s.at_) 0 0
def aB (l:List Int) (s:RS):Int×RS:=if s.e != 0 then (0,s) else if (kP l s).1=0 then ((kP l s).2.1,⟨s.at_+(kP l s).2.2,s.e,s.bad⟩) else (0,dW s (kP l s).1 s.at_)
structure bL (l:List Int) (s:RS):Prop where
 n:l.length<=140737488355328
 at_:s.at_<=l.length
 b:Bytes l
 bad:s.e=0->s.bad=0
noncomputable def rFH (l:List Int) (s:RS) (e:Int):aC Tryz.prog:=zZ (hh _ bB (cs1 125 0 6 (rfC l s e s.at_) bA) bq)
def adn (l:List Int) (s:RS) (e:Int):Prop :=
 ((0=0/\0=0)/\e=e/\(s.at_:Int)=(s.at_:Int)/\True)/\((bV l s s)/\True)/\e≠0/\True/\(bV l (dW s e s.at_) (dW s e s.at_))/\True
theorem Ud (l:List Int) (s:RS) (e:Int):(eU Tryz.prog (rFH l s e) 125 [rP,.y (.int .i64 e)] (rM l s) (rR l (dW s e s.at_) []))=adn l s e:=by kernel_rfl
theorem agF (l:List Int) (s:RS) (e:Int) (he:e≠0):(rR l (dW s e s.at_) []).Sat (au Tryz.prog 125 [rP,.y (.int .i64 e)] (rM l s)):=by
 refine dG (ht:=rFH l s e) Tryz.mixed rfl ?_
 rw [Ud l s e]
 unfold adn
 simp [he]
noncomputable def rFC (l:List Int) (s:RS) (e:Int):dO Tryz.prog:=⟨125,[rP,.y (.int .i64 e)],rM l s,.need (e≠0) (rR l (dW s e s.at_) []),T.Sat.need fun h=>agF l s e h⟩
structure UQ (l:List Int) (s:RS) where
 i:Nat
 v:Int
 hi:i<=(l.drop s.at_).length
 hi9:i<=9
 e:OJ ((l.drop s.at_).drop i) i v=kP l s
 v0:0<=v
 v1:v<2 ^ (7*i)
def uT (l:List Int) (s:RS) (i:Nat) (v:Int):List AV:=mkT 65 [(0,rP),(3,.y (.int .u64 v)),(19,bn true (l.drop s.at_)),(20,.y (.int .i64 (l.drop s.at_).length)),(21,.y (.int .i64 i))]
def uS (l:List Int) (s:RS) (w:Int) (s':RS):Bool->Exit×List AV×List aH
 | true=>(.exit 0,mkT 65 [(0,rP)],rM l s)
 | false=>(.ret,mkT 65 [(2,.y (.int .u64 w))],rM l s')
noncomputable def uH (l:List Int) (s:RS):aC Tryz.prog:=zZ (hh _ bB (cs1 83 8 1 (rFC l s 12) (cs1 83 13 1 (rFC l s 12) (cs1 83 18 1 (rFC l s 11) bA))) bq)
def Ev (l:List Int) (s:RS) (sh:Bool) (w:Int) (s':RS) (q:UQ l s):Prop:=(sh=false->(IntKind.u64.wrap ((BitVec.toNat (BitVec.ofInt 64 q.v ||| BitVec.ofInt 64 (IntKind.u64.wrap (IntKind.u64.wrap (IntKind.u8.wrap ((BitVec.toNat (BitVec.ofInt 8 ((List.drop s.at_ l).getD (Int.toNat (q.i:Int)) 0) &&& BitVec.ofInt 8 127)):Int))*2 ^ min (Int.toNat (IntKind.i64.wrap (7*(q.i:Int)))) 64)))):Int)=w/\True)/\(((dI l l)/\IntKind.i64.wrap ((s.at_:Int)+IntKind.i64.wrap ((q.i:Int)+1))=(s'.at_:Int)/\(RS.f s=RS.f s'/\true=true/\2<=2/\eT 2 (Ax.get [AV.y (.int .i64 s.bad),AV.ifc 31 (AV.y (.int .i64 s.e))]) (Ax.get [AV.y (.int .i64 s'.bad),AV.ifc 31 (AV.y (.int .i64 s'.e))]))/\True)/\True)/\true=true)
def Fx (l:List Int) (s:RS) (sh:Bool) (q:UQ l s):Prop:=(decide (128<=(List.drop s.at_ l).getD (Int.toNat (q.i:Int)) 0)=true->∃ (j:UQ l s),10 - j.i<10 - q.i/\(((0=0/\0=0)/\IntKind.u64.wrap ((BitVec.toNat (BitVec.ofInt 64 q.v ||| BitVec.ofInt 64 (IntKind.u64.wrap (IntKind.u64.wrap (IntKind.u8.wrap ((BitVec.toNat (BitVec.ofInt 8 ((List.drop s.at_ l).getD (Int.toNat (q.i:Int)) 0) &&& BitVec.ofInt 8 127)):Int))*2 ^ min (Int.toNat (IntKind.i64.wrap (7*(q.i:Int)))) 64)))):Int)=j.v/\(dI (List.drop s.at_ l) (List.drop s.at_ l))/\((List.drop s.at_ l).length:Int)=((List.drop s.at_ l).length:Int)/\IntKind.i64.wrap ((q.i:Int)+1)=(j.i:Int)/\True)/\((bV l s s)/\True)/\true=true)/\true=true/\(sh=true->(sh=true->true=true)/\(sh=false->true=false))/\(sh=false->(sh=true->false=true)/\(sh=false->false=false)))
def EJ (l:List Int) (s:RS) (sh:Bool) (w:Int) (s':RS) (q:UQ l s):Prop:=(decide (128<=(List.drop s.at_ l).getD (Int.toNat (q.i:Int)) 0)=false->(((List.drop s.at_ l).getD (Int.toNat (q.i:Int)) (0:Int)==0)=true->(decide (0<(q.i:Int))=true->((0=0/\0=0)/\(12:Int)=12/\True)/\((bV l s s)/\True)/\(12:Int)≠0/\(sh=true->False)/\(sh=false->(0=w/\True)/\((bV l (dW s 12 s.at_) s')/\True)/\true=true))/\(decide (0<(q.i:Int))=false->(sh=true->False)/\(Ev l s sh w s' q)))/\(((List.drop s.at_ l).getD (Int.toNat (q.i:Int)) (0:Int)==0)=false->(sh=true->False)/\(Ev l s sh w s' q)))
def aeD (l:List Int) (s:RS) (sh:Bool) (w:Int) (s':RS) (q:UQ l s):Prop :=
 (decide ((q.i:Int)<((List.drop s.at_ l).length:Int))=true->(true&&decide ((q.i:Int)<((List.drop s.at_ l).length:Int)))=true/\(((q.i:Int)==9)=true->(((List.drop s.at_ l).getD (Int.toNat (q.i:Int)) 0 != 1)=true->((0=0/\0=0)/\(12:Int)=12/\True)/\((bV l s s)/\True)/\(12:Int)≠0/\(sh=true->False)/\(sh=false->(0=w/\True)/\((bV l (dW s 12 s.at_) s')/\True)/\true=true))/\(((List.drop s.at_ l).getD (Int.toNat (q.i:Int)) 0 != 1)=false->true=true/\decide (0<=IntKind.i64.wrap (7*(q.i:Int)))=true/\true=true/\(Fx l s sh q)/\(EJ l s sh w s' q)))/\(((q.i:Int)==9)=false->true=true/\decide (0<=IntKind.i64.wrap (7*(q.i:Int)))=true/\true=true/\(Fx l s sh q)/\(EJ l s sh w s' q)))/\(decide ((q.i:Int)<((List.drop s.at_ l).length:Int))=false->(sh=true->((0=0/\0=0)/\True)/\((bV l s s)/\True)/\true=true)/\(sh=false->False))
theorem WC (l:List Int) (s:RS) (sh:Bool) (w:Int) (s':RS) (q:UQ l s):(cu Tryz.prog (uH l s) 83 5 (fun q:UQ l s=>10 - q.i) (fun q=>uT l s q.i q.v) (fun q=>rM l s) [] (fun _=>.ite sh (.ret true) (.ret false)) (uS l s w s') q)=aeD l s sh w s' q:=by kernel_rfl
noncomputable def uH2 (l:List Int) (s:RS) (sh:Bool) (w:Int) (s':RS) (q:UQ l s):aC Tryz.prog:=zZ (hh _ (nu 83 5 (eP (fun q:UQ l s=>uT l s q.i q.v) (fun _=>rM l s) [] (fun _=>.ite sh (.ret true) (.ret false)) (uS l s w s') q) bB) (cs1 83 18 1 (rFC l s 11) bA) bq)
def uR (l:List Int) (w:Int) (s':RS):T An:=.ret (.y (.int .u64 w),rM l s',[])
def vcU (l:List Int) (s:RS) (sh:Bool) (w:Int) (s':RS) (q:UQ l s):Prop :=
 (RS.f s=true->(0:Int)=w/\(bV l s s')/\True)/\(RS.f s=false->(true&&decide ((↑s.at_:Int)<=(↑(List.length l):Int))&&decide ((↑(List.length l):Int)<=(↑(List.length l):Int)))=true/\((((0:Nat)=(0:Nat)/\(0:Nat)=(0:Nat))/\(0:Int)=q.v/\(true=true/\Int.toNat (↑(List.length l):Int) - Int.toNat (↑s.at_:Int)=List.length (List.drop s.at_ l)/\ak (Int.toNat (↑(List.length l):Int) - Int.toNat (↑s.at_:Int)) (1:Nat) (fun (k:Nat)=>ah aD l (Int.toNat (↑s.at_:Int)+k)) (ah aD (List.drop s.at_ l)))/\(↑(Int.toNat (↑(List.length l):Int) - Int.toNat (↑s.at_:Int)):Int)=(↑(List.length (List.drop s.at_ l)):Int)/\(0:Int)=(↑q.i:Int)/\True)/\((bV l s s)/\True)/\true=true)/\aQ Tryz.prog (83:Nat) (5:Nat) (aS Tryz.prog (83:Nat) (5:Nat)) { t:=uT l s q.i q.v,m:=rM l s,mv:=[]:St } (T.map (bU [] (uS l s w s')) ((fun (x:UQ l s)=>T.ite sh (T.ret true) (T.ret false)) q))/\(sh=true->(((0:Nat)=(0:Nat)/\(0:Nat)=(0:Nat))/\(11:Int)=(11:Int)/\True)/\((bV l s s)/\True)/\(11:Int)≠(0:Int)/\(0:Int)=w/\(bV l (dW s (11:Int) s.at_) s')/\True)/\(sh=false->w=w/\(bV l s' s')/\True))
theorem aci (l:List Int) (s:RS) (sh:Bool) (w:Int) (s':RS) (q:UQ l s):(eU Tryz.prog (uH2 l s sh w s' q) 83 [rP] (rM l s) (uR l w s'))=vcU l s sh w s' q:=by kernel_rfl
theorem II (c:Int) (h0:0<=c) (h1:c<256):(↑(BitVec.toNat (BitVec.ofInt 8 c &&& BitVec.ofInt 8 127)):Int)=c % 128:=by
 rw [BitVec.toNat_and]
 have e:(BitVec.ofInt 8 127).toNat=2 ^ 7 - 1:=by decide
 rw [e,Nat.and_two_pow_sub_one_eq_mod,BitVec.toNat_ofInt]
 omega
theorem Zd (x:Int):IntKind.wrap IntKind.u64 x=x % 18446744073709551616:=by
 unfold IntKind.wrap
 simp [IntKind.bits,IntKind.signed]
theorem RG {i:Nat} (h:i<=9):(2:Int) ^ (7*i)<=9223372036854775808/\(1:Int)<=2 ^ (7*i)/\(i<=8->(2:Int) ^ (7*i)<=72057594037927936):=by
 have:i=0∨i=1∨i=2∨i=3∨i=4∨i=5∨i=6∨i=7∨i=8∨i=9:=by omega
 rcases this with rfl | rfl | rfl | rfl | rfl | rfl | rfl | rfl | rfl | rfl<;>decide
theorem abK {i:Nat} {d:Int} (h:i<=9) (h0:0<=d) (h1:d<128) (h9:i=9->d<=1):0<=d*2 ^ (7*i)/\d*2 ^ (7*i)<18446744073709551616:=by
 obtain ⟨p1,p2,p3⟩:=RG h
 generalize (2:Int) ^ (7*i)=p at p1 p2 p3
 refine ⟨Int.mul_nonneg h0 (by omega),?_⟩
 by_cases hi:i=9
 · have:d=0∨d=1:=by have:=h9 hi;omega
   rcases this with rfl | rfl<;>omega
 · have p4:=p3 (by omega)
   have:d*p<=127*p:=Int.mul_le_mul_of_nonneg_right (by omega) (by omega)
   omega
theorem orU {v c:Int} {i:Nat} (hi:i<=9) (v0:0<=v) (v1:v<2 ^ (7*i)) (c0:0<=c) (c1:c<256) (h9:i=9->c=1) :
 IntKind.wrap IntKind.u64 (↑(BitVec.toNat (BitVec.ofInt (64:Nat) v ||| BitVec.ofInt (64:Nat) (IntKind.wrap IntKind.u64 (IntKind.wrap IntKind.u64 (IntKind.wrap IntKind.u8 (↑(BitVec.toNat (BitVec.ofInt (8:Nat) c &&& BitVec.ofInt (8:Nat) (127:Int))):Int))*(2:Int) ^ min (Int.toNat (IntKind.wrap IntKind.i64 ((7:Int)*(↑i:Int)))) (64:Nat))))):Int)=v+(c % 128)*2 ^ (7*i):=by
 rw [II c c0 c1,uF,wrap_i64 (by omega) (by omega)]
 have e1:c % 128 % 256=c % 128:=by omega
 have e2:min (Int.toNat (7*(i:Int))) 64=7*i:=by omega
 rw [e1,e2,Zd (c % 128)]
 have e3:c % 128 % 18446744073709551616=c % 128:=by omega
 rw [e3]
 obtain ⟨m0,m1⟩:=abK (d:=c % 128) hi (by omega) (by omega) (fun h=>by have:=h9 h;omega)
 rw [Zd (c % 128*2 ^ (7*i)),Int.emod_eq_of_lt m0 m1]
 obtain ⟨vn,rfl⟩:=Int.eq_ofNat_of_zero_le v0
 obtain ⟨dn,hdn⟩:=Int.eq_ofNat_of_zero_le (show 0<=c % 128 by omega)
 rw [hdn] at m0 m1 ⊢
 have hm:((dn:Int)*2 ^ (7*i))=((dn*2 ^ (7*i):Nat):Int):=by simp
 rw [hm] at m1 ⊢
 have hv:vn<2 ^ (7*i):=by
  have:((vn:Nat):Int)<((2 ^ (7*i):Nat):Int):=by simpa using v1
  omega
 have p:=(RG hi).1
 have hvb:(vn:Int)<9223372036854775808:=by omega
 have hor:vn ||| dn*2 ^ (7*i)=vn+dn*2 ^ (7*i):=by
  have:=Nat.two_pow_add_eq_or_of_lt hv dn
  rw [Nat.mul_comm dn,Nat.or_comm,<- this,Nat.add_comm]
 rw [BitVec.toNat_or,BitVec.toNat_ofInt,BitVec.toNat_ofInt]
 have f1:(((vn:Int) % ((2 ^ 64:Nat):Int)).toNat)=vn:=by omega
 have f2:((((dn*2 ^ (7*i):Nat):Int) % ((2 ^ 64:Nat):Int)).toNat)=dn*2 ^ (7*i):=by
  generalize dn*2 ^ (7*i)=z at m1
  omega
 rw [f1,f2,hor,Zd]
 have hsum:vn+dn*2 ^ (7*i)<2 ^ 64:=by
  rw [<- hor]
  refine Nat.or_lt_two_pow ?_ ?_
  · omega
  · generalize dn*2 ^ (7*i)=z at m1
    omega
 generalize dn*2 ^ (7*i)=z at hsum
 omega
theorem Mf {v c:Int} {i:Nat} (v0:0<=v) (v1:v<2 ^ (7*i)):0<=v+(c % 128)*2 ^ (7*i)/\v+(c % 128)*2 ^ (7*i)<2 ^ (7*(i+1)):=by
 have e:(2:Int) ^ (7*(i+1))=128*2 ^ (7*i):=by
  rw [show 7*(i+1)=7*i+7 by omega,Int.pow_add]
  omega
 have p:(0:Int)<2 ^ (7*i):=Int.pow_pos (by decide)
 rw [e]
 generalize (2:Int) ^ (7*i)=q at *
 have h0:0<=c % 128:=by omega
 have h1:c % 128<=127:=by omega
 generalize c % 128=d at *
 have:=Int.mul_nonneg h0 (by omega:0<=q)
 have:d*q<=127*q:=Int.mul_le_mul_of_nonneg_right h1 (by omega)
 omega
theorem GU (l:List Int) (i:Nat) (h:i<l.length):l.drop i=l.getD i 0::l.drop (i+1):=by
 rw [List.drop_eq_getElem_cons h]
 simp [List.getD,h]
structure aai (l:List Int) (s:RS) (sh:Bool) (w:Int) (s':RS):Prop where
 a:sh=decide ((kP l s).1=11)
 b:(kP l s).1=0->w=(kP l s).2.1/\s'=⟨s.at_+(kP l s).2.2,s.e,s.bad⟩
 c:(kP l s).1≠0->w=0/\s'=dW s (kP l s).1 s.at_
theorem abV (l:List Int) (s:RS) (hs:bL l s) (sh:Bool) (w:Int) (s':RS) (hp:aai l s sh w s') (q:UQ l s):aQ Tryz.prog 83 5 (aS Tryz.prog 83 5) ⟨uT l s q.i q.v,rM l s,[]⟩ (T.map (bU [] (uS l s w s')) (.ite sh (.ret true) (.ret false))):=by
 refine dU (P:=Tryz.prog) (f:=83) (k:=5) (ι:=UQ l s) (μ:=fun q=>10 - q.i) (ht:=fun _=>uH l s) (qG:=fun q=>uT l s q.i q.v) (stM:=fun q=>rM l s) (X:=[]) (o:=fun _=>.ite sh (.ret true) (.ret false)) (S:=uS l s w s') Tryz.mixed (fun _=>rfl) (fun q=>?_) q
 rw [WC l s sh w s' q]
 unfold aeD EJ Fx Ev
 obtain ⟨i,v,hi,hi9,he,v0,v1⟩:=q
 have hlen:(l.drop s.at_).length<=140737488355328:=by have:=hs.n;rw [List.length_drop];omega
 simp only [Int.toNat_natCast]
 by_cases h:i<(l.drop s.at_).length
 · have hd:decide ((i:Int)<((l.drop s.at_).length:Int))=true:=by simp only [decide_eq_true_eq];omega
   have hcm:(l.drop s.at_).getD i 0∈l:=by
    refine List.mem_of_mem_drop (i:=s.at_) ?_
    simp only [List.getD,List.getElem?_eq_getElem h,Option.getD_some]
    exact List.getElem_mem h
   obtain ⟨c0,c1⟩:=hs.b.b _ hcm
   rw [GU _ i h,OJ] at he
   obtain ⟨c,hc⟩:∃ c,(l.drop s.at_).getD i 0=c:=⟨_,rfl⟩
   rw [hc] at he c0 c1
   simp only [hc]
   have hw1:IntKind.wrap IntKind.i64 ((i:Int)+1)=(i:Int)+1:=wrap_i64 (by omega) (by omega)
   have hw7:decide ((0:Int)<=IntKind.wrap IntKind.i64 ((7:Int)*(i:Int)))=true:=by rw [wrap_i64 (by omega) (by omega)];simp;omega
   simp only [hd,hw1,hw7]
   by_cases hA:i=9/\c≠1
   · rw [if_pos hA] at he
     have e1:(kP l s).1=12:=by rw [<- he]
     obtain ⟨k1,k2⟩:=hp.c (by rw [e1];decide)
     have k3:sh=false:=by rw [hp.a,e1];rfl
     rw [e1] at k2
     have b1:((i:Int)==9)=true:=by simp;omega
     have b2:(c != 1)=true:=by simpa using hA.2
     simp [b1,b2,k1,k2,k3]
   · rw [if_neg hA] at he
     have h9:i=9->c=1:=fun h=>by
      by_cases hc:c=1
      · exact hc
      · exact absurd ⟨h,hc⟩ hA
     have hor:=orU hi9 v0 v1 c0 c1 h9
     obtain ⟨n0,n1⟩:=Mf (c:=c) v0 v1
     simp only [hor]
     have b12:(((i:Int)==9)=true->(c != 1)=false):=fun hb=>by
      have:i=9:=by simp at hb;omega
      rw [h9 this]
      rfl
     by_cases h128:128<=c
     · rw [if_pos h128] at he
       have hi8:i<=8:=by
        by_cases h:i=9
        · have:=h9 h;omega
        · omega
       have b1:((i:Int)==9)=false:=by simp;omega
       have b2:decide ((128:Int)<=c)=true:=by simpa using h128
       simp only [b1,b2]
       simp
       refine ⟨⟨i+1,v+(c % 128)*2 ^ (7*i),by omega,by omega,he,n0,n1⟩,by show 10 - (i+1)<10 - i;omega,rfl,rfl⟩
     · rw [if_neg h128] at he
       have b2:decide ((128:Int)<=c)=false:=by simpa using h128
       by_cases h0:c=0/\0<i
       · rw [if_pos h0] at he
         have e1:(kP l s).1=12:=by rw [<- he]
         obtain ⟨k1,k2⟩:=hp.c (by rw [e1];decide)
         have k3:sh=false:=by rw [hp.a,e1];rfl
         rw [e1] at k2
         have b1:((i:Int)==9)=false:=by
          by_cases h:i=9
          · have:=h9 h;omega
          · simp;omega
         have b3:decide ((0:Int)<(i:Int))=true:=by simp;omega
         simp [b1,b2,b3,h0.1,k1,k2,k3]
         intro hz
         exact absurd hz (by omega)
       · rw [if_neg h0] at he
         have e1:(kP l s).1=0:=by rw [<- he]
         obtain ⟨k1,k2⟩:=hp.b e1
         have k3:sh=false:=by rw [hp.a,e1];rfl
         have e2:(kP l s).2.1=v+(c % 128)*2 ^ (7*i):=by rw [<- he]
         have e3:(kP l s).2.2=i+1:=by rw [<- he]
         rw [e2] at k1
         rw [e3] at k2
         have hat:=hs.at_
         have hw2:IntKind.wrap IntKind.i64 ((s.at_:Int)+((i:Int)+1))=(s.at_:Int)+((i:Int)+1):=wrap_i64 (by omega) (by have:=hs.n;omega)
         have b3:((c==0)=true->decide ((0:Int)<(i:Int))=false):=fun hb=>by
          have:c=0:=by simpa using hb
          simp
          by_cases hh:0<i
          · exact absurd ⟨this,hh⟩ h0
          · omega
         simp only [b2,hw2]
         rw [k1,k2,k3]
         have fin:∀ x:Bool,((c==0)=x)->(x=true->decide ((0:Int)<(i:Int))=false):=fun x hx hb=>b3 (hx.trans hb)
         by_cases hi9':i=9
         · have hc1:=h9 hi9'
           have b1:((i:Int)==9)=true:=by simp;omega
           simp only [b1,b12 b1]
           simp [hc1,RS.f]
         · have b1:((i:Int)==9)=false:=by simp;omega
           simp only [b1]
           cases hz:(c==0)
           · simp [RS.f]
           · simp only [b3 hz]
             simp [RS.f]
 · obtain rfl:i=(l.drop s.at_).length:=by omega
   have e0:(l.drop s.at_).drop (l.drop s.at_).length=[]:=List.drop_length
   rw [e0,OJ] at he
   have e1:(kP l s).1=11:=by rw [<- he]
   have k3:sh=true:=by rw [hp.a,e1];rfl
   simp [k3]
theorem Ba (l:List Int) (s:RS) (he:s.e=0):aai l s (decide ((kP l s).1=11)) (aB l s).1 (aB l s).2:=by
 have h0:(s.e != 0)=false:=by simp [he]
 refine ⟨rfl,fun h=>?_,fun h=>?_⟩
 · unfold aB
   simp [h0,h]
 · unfold aB
   simp [h0,h]
theorem u_c (l:List Int) (s:RS) (hs:bL l s):(uR l (aB l s).1 (aB l s).2).Sat (au Tryz.prog 83 [rP] (rM l s)):=by
 have hat:=hs.at_
 have hn:=hs.n
 have q:UQ l s:=⟨0,0,by omega,by omega,rfl,by decide,by decide⟩
 have lp:=fun he=>abV l s hs _ _ _ (Ba l s he) ⟨0,0,by omega,by omega,rfl,by decide,by decide⟩
 refine dG (ht:=uH2 l s (decide ((kP l s).1=11)) (aB l s).1 (aB l s).2 ⟨0,0,by omega,by omega,rfl,by decide,by decide⟩) Tryz.mixed rfl ?_
 rw [aci l s (decide ((kP l s).1=11)) (aB l s).1 (aB l s).2 ⟨0,0,by omega,by omega,rfl,by decide,by decide⟩]
 unfold vcU
 cases hf:s.f
 · have he:s.e=0:=by simpa [RS.f] using hf
   have hp:=Ba l s he
   have lp:=lp he
   have hc:ak (l.length - s.at_) 1 (fun k=>ah aD l (s.at_+k)) (ah aD (l.drop s.at_)):=by
    intro k hk j hj
    unfold ah
    have:(l.drop s.at_).getD k default=l.getD (s.at_+k) default:=by simp [List.getD]
    rw [this]
    exact bN _
   have hl:(l.drop s.at_).length=l.length - s.at_:=List.length_drop
   simp only [Int.toNat_natCast,hl]
   by_cases h11:(kP l s).1=11
   · obtain ⟨k1,k2⟩:=hp.c (by rw [h11];decide)
     rw [h11] at k2
     simp only [h11] at lp
     simp [h11,hc]
     simp [h11] at lp
     refine ⟨by omega,by simpa using lp,?_⟩
     rw [k1,k2]
     simp
   · simp only [h11] at lp
     simp [h11,hc]
     simp [h11] at lp
     exact ⟨by omega,by simpa using lp⟩
 · have hw:aB l s=(0,s):=by unfold aB;rw [show (s.e != 0)=true from hf];rfl
   rw [hw]
   simp [hf]
noncomputable def uC (l:List Int) (s:RS) (w:Int) (s':RS):dO Tryz.prog:=⟨83,[rP],rM l s,.need (bL l s) (.need ((w,s')=aB l s) (uR l w s')),T.Sat.need fun h=>T.Sat.need fun e=>by
 have e1:w=(aB l s).1:=congrArg Prod.fst e
 have e2:s'=(aB l s).2:=congrArg Prod.snd e
 rw [e1,e2]
 exact u_c l s h⟩
def zag (v:Int):Int:=if v % 2=0 then v / 2 else -(v / 2) - 1
def jr (l:List Int) (s:RS):Int×RS:=(zag (aB l s).1,(aB l s).2)
noncomputable def iH (l:List Int) (s:RS) (w:Int) (s':RS):aC Tryz.prog:=zZ (hh _ bB (cs1 82 1 1 (uC l s w s') bA) bq)
def iR (l:List Int) (w:Int) (s':RS):T An:=.ret (.y (.int .i64 w),rM l s',[])
def vcI (l:List Int) (s:RS) (w:Int) (s':RS):Prop :=
 ((0=0/\0=0)/\True)/\((bV l s s)/\True)/\bL l s/\(w,s')=aB l s/\true=true/\true=true/\IntKind.i64.wrap ((BitVec.toNat (BitVec.ofInt 64 (IntKind.i64.wrap (w / 2)) ^^^ BitVec.ofInt 64 (IntKind.i64.wrap (0 - IntKind.i64.wrap (IntKind.u64.wrap ((BitVec.toNat (BitVec.ofInt 64 w &&& BitVec.ofInt 64 1)):Int)))))):Int)=zag w/\(bV l s' s')/\True
theorem abv (l:List Int) (s:RS) (w:Int) (s':RS):(eU Tryz.prog (iH l s w s') 82 [rP] (rM l s) (iR l (zag w) s'))=vcI l s w s':=by kernel_rfl
def dM (l:List Int) (s:RS):Bool×RS:=if s.e != 0 then (false,s) else if s.at_=l.length then (false,dW s 11 s.at_) else if 1<l.getD s.at_ 0 then (false,dW s 16 s.at_) else (l.getD s.at_ 0==1,⟨s.at_+1,s.e,s.bad⟩)
def bR (l:List Int) (w:Bool) (s':RS):T An:=.ret (.y (.bool w),rM l s',[])
noncomputable def bH (l:List Int) (s:RS):aC Tryz.prog:=zZ (hh _ bB (cs1 84 4 1 (rFC l s 11) (cs1 84 7 1 (rFC l s 16) bA)) bq)
def vcB (l:List Int) (s:RS) (w:Bool) (s':RS):Prop :=
 (RS.f s=true->false=w/\(bV l s s')/\True)/\(RS.f s=false->(((s.at_:Int)==(l.length:Int))=true->((0=0/\0=0)/\(11:Int)=11/\True)/\((bV l s s)/\True)/\(11:Int)≠0/\false=w/\(bV l (dW s 11 s.at_) s')/\True)/\(((s.at_:Int)==(l.length:Int))=false->(true&&decide ((s.at_:Int)<(l.length:Int)))=true/\(decide (1<l.getD (Int.toNat (s.at_:Int)) 0)=true->((0=0/\0=0)/\(16:Int)=16/\True)/\((bV l s s)/\True)/\(16:Int)≠0/\false=w/\(bV l (dW s 16 s.at_) s')/\True)/\(decide (1<l.getD (Int.toNat (s.at_:Int)) 0)=false->(decide (0<=IntKind.i64.wrap (IntKind.i64.wrap ((s.at_:Int)+1) - 1))&&decide (IntKind.i64.wrap (IntKind.i64.wrap ((s.at_:Int)+1) - 1)<(l.length:Int)))=true/\(l.getD (Int.toNat (IntKind.i64.wrap (IntKind.i64.wrap ((s.at_:Int)+1) - 1))) (0:Int)==1)=w/\((dI l l)/\IntKind.i64.wrap ((s.at_:Int)+1)=(s'.at_:Int)/\(RS.f s=RS.f s'/\true=true/\2<=2/\eT 2 (Ax.get [AV.y (.int .i64 s.bad),AV.ifc 31 (AV.y (.int .i64 s.e))]) (Ax.get [AV.y (.int .i64 s'.bad),AV.ifc 31 (AV.y (.int .i64 s'.e))]))/\True)/\True)))
theorem aa6 (l:List Int) (s:RS) (w:Bool) (s':RS):(eU Tryz.prog (bH l s) 84 [rP] (rM l s) (bR l w s'))=vcB l s w s':=by kernel_rfl
def aK (l:List Int) (s:RS) (most:Int):Int×RS:=if (aB l s).2.e != 0 then (0,(aB l s).2) else if most<0∨most<(aB l s).1 then (0,dW (aB l s).2 13 s.at_) else if (l.length - (aB l s).2.at_:Int)<(aB l s).1 then (0,dW (aB l s).2 11 s.at_) else aB l s
noncomputable def cH (l:List Int) (s:RS) (v:Int) (s1:RS):aC Tryz.prog:=zZ (hh _ bB (cs1 90 2 1 (uC l s v s1) (cs1 90 6 2 (rfC l s1 13 s.at_) (cs1 90 9 2 (rfC l s1 11 s.at_) bA))) bq)
def vcC (l:List Int) (s:RS) (most:Int) (v:Int) (s1:RS) (w:Int) (s':RS):Prop :=
 ((0=0/\0=0)/\True)/\((bV l s s)/\True)/\bL l s/\(v,s1)=aB l s/\(RS.f s1=true->0=w/\(bV l s1 s')/\True)/\(RS.f s1=false->(decide (most<0)=true->((0=0/\0=0)/\(13:Int)=13/\(s.at_:Int)=(s.at_:Int)/\True)/\((bV l s1 s1)/\True)/\(13:Int)≠0/\0=w/\(bV l (dW s1 13 s.at_) s')/\True)/\(decide (most<0)=false->(decide (IntKind.u64.wrap most<v)=true->((0=0/\0=0)/\(13:Int)=13/\(s.at_:Int)=(s.at_:Int)/\True)/\((bV l s1 s1)/\True)/\(13:Int)≠0/\0=w/\(bV l (dW s1 13 s.at_) s')/\True)/\(decide (IntKind.u64.wrap most<v)=false->(decide (IntKind.u64.wrap (IntKind.i64.wrap ((l.length:Int) - (s1.at_:Int)))<v)=true->((0=0/\0=0)/\(11:Int)=11/\(s.at_:Int)=(s.at_:Int)/\True)/\((bV l s1 s1)/\True)/\(11:Int)≠0/\0=w/\(bV l (dW s1 11 s.at_) s')/\True)/\(decide (IntKind.u64.wrap (IntKind.i64.wrap ((l.length:Int) - (s1.at_:Int)))<v)=false->IntKind.i64.wrap v=w/\(bV l s1 s')/\True))))
theorem aa7 (l:List Int) (s:RS) (most:Int) (v:Int) (s1:RS) (w:Int) (s':RS):(eU Tryz.prog (cH l s v s1) 90 [rP,.y (.int .i64 most)] (rM l s) (iR l w s'))=vcC l s most v s1 w s':=by kernel_rfl
theorem wrI (x:Int) (h0:-9223372036854775808<=x) (h1:x<=9223372036854775807):IntKind.wrap IntKind.i64 x=x:=wrap_i64 h0 h1
theorem Xd (v:Int):(↑(BitVec.toNat (BitVec.ofInt 64 v &&& BitVec.ofInt 64 1)):Int)=v % 2:=by
 rw [BitVec.toNat_and]
 have e:(BitVec.ofInt 64 1).toNat=2 ^ 1 - 1:=by decide
 rw [e,Nat.and_two_pow_sub_one_eq_mod,BitVec.toNat_ofInt]
 omega
theorem adZ (x:Int):IntKind.wrap IntKind.i64 x=(x+9223372036854775808) % 18446744073709551616 - 9223372036854775808:=by
 unfold IntKind.wrap
 simp [IntKind.bits,IntKind.signed]
 omega
theorem X8 (w:Int) (h0:0<=w) (h1:w<18446744073709551616):IntKind.wrap IntKind.i64 (↑(BitVec.toNat (BitVec.ofInt (64:Nat) (IntKind.wrap IntKind.i64 (w / (2:Int))) ^^^ BitVec.ofInt (64:Nat) (IntKind.wrap IntKind.i64 ((0:Int) - IntKind.wrap IntKind.i64 (IntKind.wrap IntKind.u64 (↑(BitVec.toNat (BitVec.ofInt (64:Nat) w &&& BitVec.ofInt (64:Nat) (1:Int))):Int)))))):Int)=zag w:=by
 rw [Xd,Zd,wrI (w / 2) (by omega) (by omega)]
 have e1:w % 2 % 18446744073709551616=w % 2:=by omega
 rw [e1,wrI (w % 2) (by omega) (by omega),wrI (0 - w % 2) (by omega) (by omega)]
 unfold zag
 by_cases h:w % 2=0
 · rw [if_pos h,h]
   have e3:BitVec.ofInt 64 (0 - 0)=0#64:=by decide
   rw [e3,BitVec.xor_zero,BitVec.toNat_ofInt,adZ]
   omega
 · rw [if_neg h]
   have h2:w % 2=1:=by omega
   rw [h2]
   have e3:BitVec.ofInt 64 (0 - 1)=BitVec.allOnes 64:=by decide
   rw [e3,BitVec.xor_allOnes,BitVec.toNat_not,BitVec.toNat_ofInt,adZ]
   omega
theorem LM:∀ (bs:List Int) (i:Nat) (v:Int),(∀ x∈bs,0<=x/\x<256)->i<=9->0<=v->v<2 ^ (7*i)->0<=(OJ bs i v).2.1/\(OJ bs i v).2.1<18446744073709551616/\(OJ bs i v).2.2<=i+bs.length
 | [],i,v,_,_,_,_=>by simp [OJ]
 | c::r,i,v,hb,hi,h0,h1=>by
   obtain ⟨c0,c1⟩:=hb c (by simp)
   unfold OJ
   by_cases hA:i=9/\c≠1
   · rw [if_pos hA];simp
   · rw [if_neg hA]
     obtain ⟨n0,n1⟩:=Mf (c:=c) h0 h1
     have h9:i=9->c=1:=fun h=>by
      by_cases hc:c=1
      · exact hc
      · exact absurd ⟨h,hc⟩ hA
     by_cases h2:128<=c
     · rw [if_pos h2]
       have hi8:i+1<=9:=by
        by_cases h:i=9
        · have:=h9 h;omega
        · omega
       have:=LM r (i+1) (v+(c % 128)*2 ^ (7*i)) (fun x hx=>hb x (by simp [hx])) hi8 n0 n1
       refine ⟨this.1,this.2.1,?_⟩
       simp only [List.length_cons]
       omega
     · rw [if_neg h2]
       by_cases h3:c=0/\0<i
       · rw [if_pos h3];simp
       · rw [if_neg h3]
         obtain ⟨m0,m1⟩:=abK (d:=c % 128) hi (by omega) (by omega) (fun h=>by have:=h9 h;omega)
         have hp:=(RG hi).1
         refine ⟨n0,?_,by simp only [List.length_cons];omega⟩
         by_cases hi9:i=9
         · have:=h9 hi9
           subst this
           subst hi9
           have e:((1:Int) % 128)*2 ^ (7*9)=9223372036854775808:=by decide
           have e2:(2:Int) ^ (7*9)=9223372036854775808:=by decide
           rw [e2] at h1
           show v+1 % 128*2 ^ (7*9)<_
           rw [e]
           omega
         · have hp9:(2:Int) ^ (7*(i+1))<=9223372036854775808:=(RG (by omega)).1
           show v+c % 128*2 ^ (7*i)<_
           omega
theorem PN {l:List Int} {s:RS} (h:bL l s):0<=(kP l s).2.1/\(kP l s).2.1<18446744073709551616/\s.at_+(kP l s).2.2<=l.length:=by
 have:=LM (l.drop s.at_) 0 0 (fun x hx=>h.b.b x (List.mem_of_mem_drop hx)) (by decide) (by decide) (by decide)
 have hat:=h.at_
 rw [List.length_drop] at this
 refine ⟨this.1,this.2.1,?_⟩
 unfold kP
 omega
theorem qH {l:List Int} {s:RS} (h:bL l s) {e:Int} (he:e≠0) {p:Nat} (hp:p<=l.length):bL l (dW s e p):=by
 unfold dW
 split
 · exact h
 · exact ⟨h.n,hp,h.b,fun h=>absurd h he⟩
theorem jT:nO 0:=⟨by decide,by decide⟩
theorem bf {l:List Int} {s:RS} (h:bL l s):bL l (aB l s).2/\nO (aB l s).1:=by
 obtain ⟨b0,b1,b2⟩:=PN h
 unfold aB
 split
 · exact ⟨h,jT⟩
 · split
   · exact ⟨⟨h.n,b2,h.b,h.bad⟩,b0,b1⟩
   · rename_i hz
     exact ⟨qH h hz h.at_,jT⟩
theorem iF {l:List Int} {s:RS} (h:bL l s) {v:Int} {s':RS} (e:(v,s')=aB l s):bL l s'/\nO v:=by
 have:=bf h
 rw [<- e] at this
 exact this
theorem i_c (l:List Int) (s:RS) (hs:bL l s):(iR l (jr l s).1 (jr l s).2).Sat (au Tryz.prog 82 [rP] (rM l s)):=by
 have hu:=(bf hs).2
 have hz:=X8 _ hu.lo hu.hi
 refine dG (ht:=iH l s (aB l s).1 (aB l s).2) Tryz.mixed rfl ?_
 unfold jr
 rw [abv l s (aB l s).1 (aB l s).2]
 unfold vcI
 simp only [hz]
 simp [hs]
noncomputable def iC (l:List Int) (s:RS) (w:Int) (s':RS):dO Tryz.prog:=⟨82,[rP],rM l s,.need (bL l s) (.need ((w,s')=jr l s) (iR l w s')),T.Sat.need fun h=>T.Sat.need fun e=>by
 have e1:w=(jr l s).1:=congrArg Prod.fst e
 have e2:s'=(jr l s).2:=congrArg Prod.snd e
 rw [e1,e2]
 exact i_c l s h⟩
theorem b_c (l:List Int) (s:RS) (hs:bL l s):(bR l (dM l s).1 (dM l s).2).Sat (au Tryz.prog 84 [rP] (rM l s)):=by
 have hat:=hs.at_
 have hn:=hs.n
 refine dG (ht:=bH l s) Tryz.mixed rfl ?_
 rw [aa6 l s (dM l s).1 (dM l s).2]
 unfold vcB
 cases hf:s.f
 · have h0:(s.e != 0)=false:=hf
   have he:s.e=0:=by simpa [RS.f] using hf
   by_cases h1:s.at_=l.length
   · have hw:dM l s=(false,dW s 11 s.at_):=by unfold dM;simp [h0,h1]
     have b1:((s.at_:Int)==(l.length:Int))=true:=by simp;omega
     rw [hw]
     simp only [b1]
     simp
   · have b1:((s.at_:Int)==(l.length:Int))=false:=by simp;omega
     have hlt:s.at_<l.length:=by omega
     have b2:decide ((s.at_:Int)<(l.length:Int))=true:=by simp;omega
     by_cases h2:1<l.getD s.at_ 0
     · have hw:dM l s=(false,dW s 16 s.at_):=by unfold dM;simp only [h0,h1,h2];simp
       have b3:decide ((1:Int)<l.getD s.at_ 0)=true:=by simpa using h2
       rw [hw]
       simp only [b1,b2,Int.toNat_natCast,b3]
       simp
     · have hw:dM l s=(l.getD s.at_ 0==1,⟨s.at_+1,s.e,s.bad⟩):=by unfold dM;simp only [h0,h1,h2];simp
       have b3:decide ((1:Int)<l.getD s.at_ 0)=false:=by simpa using h2
       have w1:IntKind.wrap IntKind.i64 ((s.at_:Int)+1)=(s.at_:Int)+1:=wrap_i64 (by omega) (by omega)
       have w2:IntKind.wrap IntKind.i64 ((s.at_:Int)+1 - 1)=(s.at_:Int):=by rw [wrap_i64 (by omega) (by omega)];omega
       rw [hw]
       simp only [b1,b2,Int.toNat_natCast,b3,w1,w2]
       simp [RS.f,he]
 · have hw:dM l s=(false,s):=by unfold dM;rw [show (s.e != 0)=true from hf];rfl
   rw [hw]
   simp [hf]
noncomputable def bC (l:List Int) (s:RS) (w:Bool) (s':RS):dO Tryz.prog:=⟨84,[rP],rM l s,.need (bL l s) (.need ((w,s')=dM l s) (bR l w s')),T.Sat.need fun h=>T.Sat.need fun e=>by
 have e1:w=(dM l s).1:=congrArg Prod.fst e
 have e2:s'=(dM l s).2:=congrArg Prod.snd e
 rw [e1,e2]
 exact b_c l s h⟩
theorem c_c (l:List Int) (s:RS) (most:Int) (hm:jC most) (hs:bL l s):(iR l (aK l s most).1 (aK l s most).2).Sat (au Tryz.prog 90 [rP,.y (.int .i64 most)] (rM l s)):=by
 obtain ⟨hs1,hu⟩:=bf hs
 have hn:=hs.n
 have hat:=hs1.at_
 refine dG (ht:=cH l s (aB l s).1 (aB l s).2) Tryz.mixed rfl ?_
 rw [aa7 l s most (aB l s).1 (aB l s).2 (aK l s most).1 (aK l s most).2]
 unfold vcC
 obtain ⟨v,s1,hv⟩:∃ v s1,aB l s=(v,s1):=⟨_,_,rfl⟩
 unfold aK
 rw [hv] at hs1 hu hat ⊢
 simp only at hs1 hu hat ⊢
 have hv0:=hu.lo
 have hv1:=hu.hi
 cases hf:s1.f
 · have h0:(s1.e != 0)=false:=hf
   have he:s1.e=0:=by simpa [RS.f] using hf
   by_cases h1:most<0
   · have b1:decide (most<0)=true:=by simpa using h1
     simp only [b1]
     simp [hs,h0,h1,RS.f,he]
   · have b1:decide (most<0)=false:=by simpa using h1
     have w1:IntKind.wrap IntKind.u64 most=most:=wrap_u64 (by omega) (by have:=hm.hi;omega)
     have w2:IntKind.wrap IntKind.i64 ((l.length:Int) - s1.at_)=(l.length:Int) - s1.at_:=wrap_i64 (by omega) (by omega)
     have w3:IntKind.wrap IntKind.u64 ((l.length:Int) - s1.at_)=(l.length:Int) - s1.at_:=wrap_u64 (by omega) (by omega)
     simp only [b1,w1,w2,w3]
     by_cases h2:most<v
     · have b2:decide (most<v)=true:=by simpa using h2
       simp only [b2]
       simp [hs,h0,h1,h2,RS.f,he]
     · have b2:decide (most<v)=false:=by simpa using h2
       simp only [b2]
       by_cases h3:(l.length:Int) - s1.at_<v
       · have b3:decide ((l.length:Int) - s1.at_<v)=true:=by simpa using h3
         simp only [b3]
         simp [hs,h0,h1,h2,h3,RS.f,he]
       · have b3:decide ((l.length:Int) - s1.at_<v)=false:=by simpa using h3
         have w4:IntKind.wrap IntKind.i64 v=v:=wrap_i64 (by omega) (by omega)
         simp only [b3,w4]
         simp [hs,h0,h1,h2,h3,RS.f,he]
 · have h0:(s1.e != 0)=true:=hf
   simp [hs,h0,hf]
noncomputable def cC (l:List Int) (s:RS) (most:Int) (w:Int) (s':RS):dO Tryz.prog:=⟨90,[rP,.y (.int .i64 most)],rM l s,.need (bL l s/\jC most) (.need ((w,s')=aK l s most) (iR l w s')),T.Sat.need fun h=>T.Sat.need fun e=>by
 have e1:w=(aK l s most).1:=congrArg Prod.fst e
 have e2:s'=(aK l s most).2:=congrArg Prod.snd e
 rw [e1,e2]
 exact c_c l s most h.2 h.1⟩
def aU (l:List Int) (s:RS) (most:Int):List Int×RS:=if (aK l s most).2.e != 0 then ([],(aK l s most).2) else ((l.drop (aK l s most).2.at_).take (aK l s most).1.toNat,⟨(aK l s most).2.at_+(aK l s most).1.toNat,(aK l s most).2.e,(aK l s most).2.bad⟩)
def yR (l:List Int) (t:List Int) (s':RS):T An:=.ret (bn true t,rM l s',[2])
noncomputable def yH (l:List Int) (s:RS) (most:Int) (n:Int) (s1:RS) (t:List Int):aC Tryz.prog:=zZ (dS (hh _ bB (cs1 88 1 2 (cC l s most n s1) (cs1 88 5 15 (KQ true t.length (ah aD t)) bA)) bq) (nk 88 5 16 779 noSh))
def vcY (l:List Int) (s:RS) (most:Int) (n:Int) (s1:RS) (t:List Int) (s':RS):Prop :=
 ((0=0/\0=0)/\most=most/\True)/\((bV l s s)/\True)/\(bL l s/\jC most)/\(n,s1)=aK l s most/\(RS.f s1=true->t.length=0/\(bV l s1 s')/\True)/\(RS.f s1=false->(decide (0<=IntKind.i64.wrap (IntKind.i64.wrap ((s1.at_:Int)+n) - n))&&decide (IntKind.i64.wrap (IntKind.i64.wrap ((s1.at_:Int)+n) - n)<=IntKind.i64.wrap ((s1.at_:Int)+n))&&decide (IntKind.i64.wrap ((s1.at_:Int)+n)<=(l.length:Int)))=true/\((true=true/\Int.toNat (IntKind.i64.wrap ((s1.at_:Int)+n)) - Int.toNat (IntKind.i64.wrap (IntKind.i64.wrap ((s1.at_:Int)+n) - n))=t.length/\ak (Int.toNat (IntKind.i64.wrap ((s1.at_:Int)+n)) - Int.toNat (IntKind.i64.wrap (IntKind.i64.wrap ((s1.at_:Int)+n) - n))) 1 (fun (k:Nat)=>ah aD l (Int.toNat (IntKind.i64.wrap (IntKind.i64.wrap ((s1.at_:Int)+n) - n))+k)) (ah aD t))/\True)/\True/\t.length<=140737488355328/\(∀ k,k<t.length->∀ j,j<1->dK (ah aD t k j)=true)/\(true=true/\t.length=t.length/\ak t.length 1 (Ax.rowAt 0 (ah aD t)) (ah aD t))/\((dI l l)/\IntKind.i64.wrap ((s1.at_:Int)+n)=(s'.at_:Int)/\(RS.f s1=RS.f s'/\true=true/\2<=2/\eT 2 (Ax.get [AV.y (.int .i64 s1.bad),AV.ifc 31 (AV.y (.int .i64 s1.e))]) (Ax.get [AV.y (.int .i64 s'.bad),AV.ifc 31 (AV.y (.int .i64 s'.e))]))/\True)/\True)
theorem aax (l:List Int) (s:RS) (most:Int) (n:Int) (s1:RS) (t:List Int) (s':RS):(eU Tryz.prog (yH l s most n s1 t) 88 [rP,.y (.int .i64 most)] (rM l s) (yR l t s'))=vcY l s most n s1 t s':=by kernel_rfl
def bS (l:List Int) (s:RS):Int:=if s.e=0/\s.at_<l.length then 15 else s.e
noncomputable def dH (l:List Int) (s:RS):aC Tryz.prog:=zZ (hh _ bB (cs1 86 1 1 (erC l s) bA) bq)
def vcD (l:List Int) (s:RS) (w:Int):Prop :=
 ((0=0/\0=0)/\True)/\((bV l s s)/\True)/\Oh s/\((s.e==0)=true->(decide ((s.at_:Int)<(l.length:Int))=true->15=w/\(bV l s s)/\True)/\(decide ((s.at_:Int)<(l.length:Int))=false->s.e=w/\(bV l s s)/\True))/\((s.e==0)=false->s.e=w/\(bV l s s)/\True)
theorem aaV (l:List Int) (s:RS) (w:Int):(eU Tryz.prog (dH l s) 86 [rP] (rM l s) (iR l w s))=vcD l s w:=by kernel_rfl
end J
end Go.Proofs.YtnbhdjadlbhknaaGreatDoor
