/- PROVED: PlacementNames -/
import Derived.Test.YtffkiommagljeaaGreatDoorRows
import Derived.Test.YtffkiommagljeaaGreatDoorTie
import Derived.Test.YtffkiommagljeaaGreatDoorCards
import Derived.OpenShut
import Derived.Lay
import Derived.Handed
import Derived.SevenTiedAt
import Derived.LaidHandle
import Derived.Test.YtffkiommagljeaaGreatDoorE37
import Derived.Test.YtffkiommagljeaaGreatDoorW1
import Derived.Test.YtffkiommagljeaaGreatDoorW5
set_option linter.unusedVariables false
set_option linter.unusedSimpArgs false
set_option maxRecDepth 1000000
namespace Go.Proofs.YtffkiommagljeaaGreatDoor
namespace S
open Go.Ax Go.Shelf Go.RowKit Go.ChangeShapes Go.WideShapes Go.ChangeAt
theorem Tryz.own:ownKnob Tryz.prog.godebug=Option.none:=by kernel_rfl
theorem Tryz.laidOut:laidOutB Tryz.prog=true:=by kernel_rfl
theorem Tryz.mapsRowed:mapsRowed Tryz.prog=true:=by kernel_rfl
theorem Tryz.slicesOk:slicesOk Tryz.prog=true:=by kernel_rfl
theorem underBool:Tryz.prog.underlying 4=some .bool:=by kernel_rfl
theorem hd_var:Tryz.prog.globalNamed "errors.errorType" = some 0:=by kernel_rfl
theorem hd_row:(Tryz.prog.cutTypes.find? (·.1 == "internal/reflectlite.rtype")).map (·.2)=some 230:=by kernel_rfl
theorem hd_one:((List.range Tryz.prog.types.size).filter fun t=>Tryz.prog.rowNamed t [101,114,114,111,114])=[86]:=by kernel_rfl
theorem gl_of {laid:List (String×DataW Unit)} {W:World} (hf:(laid.filter fun x=>x.2.handleName?.isSome)=[("errors.errorType",Rows.laid_errors_errorType)]) (h:laidMetH Tryz.prog laid W):GlOk W:=by
 unfold laidMetH at h
 rw [hf] at h
 obtain ⟨name,u,ty,e1,e2,e3,e4,e5⟩:=h.2 _ (List.mem_singleton.2 rfl)
 have en:name=[101,114,114,111,114]:=(Option.some.inj e1).symm
 subst en
 obtain rfl:=Option.some.inj (hd_row.symm.trans e2)
 have hm:ty∈(List.range Tryz.prog.types.size).filter fun t=>Tryz.prog.rowNamed t [101,114,114,111,114]:=List.mem_filter.2 ⟨List.mem_range.2 e3,e4⟩
 rw [hd_one] at hm
 obtain rfl:=List.mem_singleton.1 hm
 have hc:=World.var?_cell hd_var e5 0
 intro p hp
 obtain rfl:=List.mem_singleton.1 hp
 exact ⟨by kernel_rfl,hc⟩
noncomputable def hdWorld (os:Os):World :=
 { World.holding Tryz.prog os ⟨#[],#[],[]⟩ with heap:=(World.holding Tryz.prog os ⟨#[],#[],[]⟩).heap.modify 0 fun
  | .cells _ t frozen=>.cells #[.iface 230 (.agg #[typeHandle Tryz.prog 86])] t frozen
  | o=>o }
theorem laidMet_lay {P:Program} {w0:World} {laid:List (String×DataW Unit)} (args:Array Value) (hf:w0.layFits P laid []=true) (hi:w0.layIfaces P laid (w0.layVars P laid)=true) :
 laidMet P laid ((w0.layVars P laid).forCall (fun _ _=>0) ⟨#[],args,[]⟩).memory:=by
 have e1:(laid.filter fun x=>(laid.map (·.1)).contains x.1)=laid:=List.filter_eq_self.2 fun x hx=>List.contains_iff_mem.2 (List.mem_map.2 ⟨x,hx,rfl⟩)
 have e2:(laid.filter fun x=>!(laid.map (·.1)).contains x.1)=[]:=List.filter_eq_nil_iff.2 fun x hx=>by rw [List.contains_iff_mem.2 (List.mem_map.2 ⟨x,hx,rfl⟩)];simp
 have h:laidMet P laid (w0.layVars P laid):=laidMet_layVars (w0:=w0) (laid.map (·.1)) [] (by rw [e1]) (by rw [e1];exact hf) (by rw [e1];exact hi) (by rw [e2];exact LaidIn.none)
 exact h.of_heap (by simp [World.memory,World.forCall,Input.heap])
end S
namespace S
open Go.Ax Go.Shelf Go.RowKit Go.ChangeShapes Go.WideShapes Go.ChangeAt
theorem pn_a:ACall Tryz.prog 3 [] [] (.y (.bool true)) [] []:=by
 intro H E w vals hC ha
 exact k292 H E w vals hC ha
theorem pn_c:(T.ret ((.y (.bool true),[],[]):An)).Sat (ACall' Tryz.prog 3 [] []):=T.Sat.ret pn_a
def names_laidL:List (String×DataW Unit):=Rows.placementNamesRow.laid
noncomputable def names_layW (os:Os):World:=World.layVars Tryz.prog (hdWorld os) (names_laidL.filter fun x=>x.2.handleName?.isNone)
theorem names_lay_met (os:Os) (args:Array Value):laidMetH Tryz.prog names_laidL ((names_layW os).forCall (fun _ _=>0) ⟨#[],args,[]⟩).memory :=
 laidMetH_of_parts (laidMet_lay args (by kernel_rfl) (by kernel_rfl)) (by kernel_rfl)
theorem names_lifted (os:Os) (started:os.Started) (K:Type) (enc:TypeId×Value->K) :
 ReturnsInHanded {} Tryz.checked os 3 .any (fun w args=>(Rows.placementNamesSpec.pre enc Tryz.prog Tryz.f3 [] false w args/\laidMetH Tryz.prog names_laidL w)/\sizedMet enc Tryz.prog Tryz.f3 (OpenSpec.ofChange Rows.placementNamesSpec) false w args)
  (Rows.placementNamesSpec.post enc Tryz.prog Tryz.f3 false true false false):=by
 refine returnsInHanded_of_change_and (C:=Tryz.checked) (X:=fun w _=>laidMetH Tryz.prog names_laidL w) (fun _ _ _ hh h=>h.of_heap hh) Tryz.own started (by kernel_rfl) Tryz.func3
  (ChangeSpec.witness_at (enc:=enc) (C:=Tryz.checked) (os:=os) (X:=fun w _=>laidMetH Tryz.prog names_laidL w) false (names_layW os) #[] 8 rfl (by kernel_rfl) (by kernel_rfl) (by kernel_rfl) (by kernel_rfl) (by kernel_rfl) (names_lay_met os _)) ?_
 intro W base args ds gs before hval0 hW hcnd hsz hL _
 have hps:Tryz.f3.params.toList=[]:=by kernel_rfl
 obtain ⟨p,q,hA,hV,hbef,hfz,hnd⟩:=id hW
 rw [hps] at hA
 obtain ⟨h1,rfl,_⟩:=trodAll_nil hA
 have h2:args=#[]:=by cases args;simp_all
 subst h2
 refine open_calls (call_of pn_c) (t:=4) (ds:=[]) rfl (by kernel_rfl) underBool rfl rfl Tryz.laidOut Tryz.mapsRowed Tryz.slicesOk (by rw [hps];intro t ht;simp at ht) hW (gl_of (by kernel_rfl) hL)
theorem names_holds:Rows.PlacementNamesSaid :=
 OpenClaim.holds_of_wide 3 Tryz.f3 rfl rfl rfl rfl rfl rfl rfl ⟨rfl,rfl,rfl,rfl,rfl⟩ rfl rfl rfl rfl rfl (by kernel_rfl) Tryz.func3 (by kernel_rfl)
  (of_decide_eq_true (by kernel_rfl)) (by unfold Func.isWrapper;first | (rw [if_pos (by decide +kernel)];kernel_rfl) | (rw [if_neg (by decide +kernel)];exact ⟨rfl,rfl⟩))
  (fun os started H enc _=>names_lifted os started H enc)
theorem placementNames_said:Rows.PlacementNamesCardSaid :=
 Claim7.holds_tied_plain_at .later [] [.data,.handle,.pinned] true (true, "df0b8cdaab82cdf9d8e9088bb5a2729c31123a1cc2d6594e4dce59ae2328d9c6") true
  names_holds (fun _ h=>by cases h) (by kernel_rfl) (fun _ h=>by cases h) placementNames_row_tie rfl ⟨rfl,rfl⟩ (by kernel_rfl) rfl
  (fun f fn hf hfn=>by
    obtain rfl:f=3:=Option.some.inj ((show Tryz.prog.funcNamed "gazette/gazettelaw18.PlacementNames" = some 3 by kernel_rfl).symm.trans hf) |>.symm
    obtain rfl:fn=Tryz.f3:=(Option.some.inj (Tryz.func3.symm.trans hfn)).symm
    exact ⟨by kernel_rfl,fun j t ht=>by
     rw [show Tryz.f3.params=#[] by kernel_rfl] at ht
     simp at ht⟩)
  (by kernel_rfl)
end S
section
theorem names_said:Rows.PlacementNamesCardSaid:=S.placementNames_said
end
end Go.Proofs.YtffkiommagljeaaGreatDoor
