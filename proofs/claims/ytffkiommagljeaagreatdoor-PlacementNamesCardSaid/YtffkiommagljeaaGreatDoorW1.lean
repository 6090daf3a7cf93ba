import Derived.Test.YtffkiommagljeaaGreatDoorProg
import Derived.KernelRfl
import Derived.Test.YtffkiommagljeaaGreatDoorE36
import Derived.Test.YtffkiommagljeaaGreatDoorE37
set_option linter.unusedVariables false
set_option linter.unusedSimpArgs false
set_option maxRecDepth 1000000
namespace Go.Proofs.YtffkiommagljeaaGreatDoor
open Go.Ax
section
noncomputable instance glSeat:Inhabited Gl0:=⟨⟨[(0,230,typeHandle Tryz.prog 86)]⟩⟩
end
section
theorem Tryz.mixed:Tryz.prog.follows .mixedOrders=true:=by kernel_rfl
def rho0:Go.Shelf.Ren:=⟨fun f=>match f with | 22=>213 | 29=>223 | 30=>224 | x=>x,fun t=>match t with | 24=>32 | 9=>93 | x=>x,fun x=>x⟩
theorem lay0:InsLay Tryz.prog rho0 4 32 ((Tryz.prog.info? 93).bind (·.zero) |>.getD undef) "slices.Insert[[]gazette/api.Producer,gazette/api.Producer]" where
 mixed:=by kernel_rfl
 f22:=by kernel_rfl
 ov:=fun w args=>by
  rw [show rho0.f 29=223 from rfl,run_callFunc_extern (P:=Tryz.prog) (f:=223) (fn:=Tryz.f223) Tryz.func223 (by kernel_rfl) (by kernel_rfl) (by kernel_rfl) (e:=Extern.SlicesOverlaps.overlaps #[32,32] #[4]) (by kernel_rfl)]
  rfl
 t0:=by kernel_rfl
 a0:=fun w=>by kernel_rfl
 z0:=fun w=>by kernel_rfl
 v0:=fun w=>by kernel_rfl
 t3:=by kernel_rfl
 a3:=fun w=>by kernel_rfl
 z3:=fun w=>by kernel_rfl
 v3:=fun w=>by kernel_rfl
 t4:=by kernel_rfl
 a4:=fun w=>by kernel_rfl
 z4:=fun w=>by kernel_rfl
 v4:=fun w=>by kernel_rfl
 t24:=by kernel_rfl
 a24:=fun w=>by kernel_rfl
 z24:=fun w=>by kernel_rfl
 v24:=fun w=>by kernel_rfl
 z9:=fun w=>by kernel_rfl
 i9s:=by kernel_rfl
 i9:=by kernel_rfl
 pos:=by decide
 zc:=by kernel_rfl
def rho1:Go.Shelf.Ren:=⟨fun f=>match f with | 22=>114 | 29=>170 | 30=>171 | x=>x,fun t=>match t with | 24=>33 | 9=>58 | x=>x,fun x=>x⟩
theorem lay1:InsLay Tryz.prog rho1 2 40 ((Tryz.prog.info? 58).bind (·.zero) |>.getD undef) "slices.Insert[[]gazette/api.Topic,gazette/api.Topic]" where
 mixed:=by kernel_rfl
 f22:=by kernel_rfl
 ov:=fun w args=>by
  rw [show rho1.f 29=170 from rfl,run_callFunc_extern (P:=Tryz.prog) (f:=170) (fn:=Tryz.f170) Tryz.func170 (by kernel_rfl) (by kernel_rfl) (by kernel_rfl) (e:=Extern.SlicesOverlaps.overlaps #[33,33] #[4]) (by kernel_rfl)]
  rfl
 t0:=by kernel_rfl
 a0:=fun w=>by kernel_rfl
 z0:=fun w=>by kernel_rfl
 v0:=fun w=>by kernel_rfl
 t3:=by kernel_rfl
 a3:=fun w=>by kernel_rfl
 z3:=fun w=>by kernel_rfl
 v3:=fun w=>by kernel_rfl
 t4:=by kernel_rfl
 a4:=fun w=>by kernel_rfl
 z4:=fun w=>by kernel_rfl
 v4:=fun w=>by kernel_rfl
 t24:=by kernel_rfl
 a24:=fun w=>by kernel_rfl
 z24:=fun w=>by kernel_rfl
 v24:=fun w=>by kernel_rfl
 z9:=fun w=>by kernel_rfl
 i9s:=by kernel_rfl
 i9:=by kernel_rfl
 pos:=by decide
 zc:=by kernel_rfl
def clnR:T An:=.ret (.own 0 11 0 0,[.lst 68 11 0 none []],[])
noncomputable def clnH:HintsT Tryz.prog:=withSh (hT _) (sh1 103 2 0 (3000000+68) (sh1 103 3 2 781 noSh))
def vcCln0 (u:Unit):Prop :=
 ((0:Nat)=(0:Nat)/\(0:Nat)=(0:Nat))/\True/\True
theorem vcCln0_eq (u:Unit):(ctrVC Tryz.prog clnH 103 [.s (.slice none 0 0)] [] clnR)=vcCln0 u:=by kernel_rfl
def vcCln1 (u:Unit):Prop :=
 ((0:Nat)=(0:Nat)/\(0:Nat)=(0:Nat))/\True/\True
theorem vcCln1_eq (u:Unit):(ctrVC Tryz.prog clnH 103 [.yn false 11 0 fun _ _=>.junk] [] clnR)=vcCln1 u:=by kernel_rfl
theorem cln0_c:clnR.Sat (ACall' Tryz.prog 103 [.s (.slice none 0 0)] []):=by
 refine ctr_vc (ht:=clnH) Tryz.mixed rfl ?_
 rw [vcCln0_eq ()]
 unfold vcCln0
 simp
theorem cln1_c:clnR.Sat (ACall' Tryz.prog 103 [.yn false 11 0 fun _ _=>.junk] []):=by
 refine ctr_vc (ht:=clnH) Tryz.mixed rfl ?_
 rw [vcCln1_eq ()]
 unfold vcCln1
 simp
theorem clay:ClnLay Tryz.prog 103 68 11 where
 s:=by
  obtain ⟨a,ha,e⟩:=nil_cases (P:=Tryz.prog) (f:=103) (pre:=[]) (post:=[]) (b:=false) (sz:=11) (n:=0) (c:=fun _ _=>.junk) (M:=[]) (t:=clnR) (fun _=>cln0_c) cln1_c ⟨_,rfl⟩ (fun a=>a=(.own 0 11 0 0,[.lst 68 11 0 none []],[])) rfl
  subst e
  exact ha
noncomputable def cloH:HintsT Tryz.prog:={ withCln (withInsC (withInsC (closedH Tryz.prog (sh1 118 6 4 781 (sh1 118 5 6 781 (sh1 176 5 4 782 (sh1 189 1 4 1 noSh))))) lay0) lay1) clay with op:=op1 120 10 12 (.row 999999 0) (op1 117 8 12 (.row 999999 0) (op1 117 8 17 (.row 999999 0) noOp)) }
def v0:AV:=.own 0 4 0 1
def v1:AV:=.own 0 1 0 3
def v2:AV:=.s .nilIface
def v3:AV:=.own 1 4 0 1
def v4:AV:=.own 5 1 0 3
def v5:AV:=.own 4 1 0 3
def v6:AV:=.own 2 2 0 1
def v7:AV:=.own 7 1 0 3
def v8:AV:=.own 4 1 0 1
def v9:AV:=.own 1 2 0 1
def v10:AV:=.own 3 1 0 3
def v11:AV:=.ptr 0 0 0 0
def v12:AV:=.own 1 4 0 0
def v13:AV:=.own 0 4 0 0
def v14:AV:=.own 2 1 0 3
def v15:AV:=.own 6 1 0 3
def v16:AV:=.own 4 1 0 2
def v17:AV:=.own 1 1 0 2
def v18:AV:=.ptr 7 0 0 0
def v19:AV:=.own 12 1 0 3
def v20:AV:=.own 13 1 0 3
def v21:AV:=.ptr 8 0 0 0
def v22:AV:=.own 0 7 0 2
def v23:AV:=.own 8 1 0 3
def v24:AV:=.own 8 1 0 1
def v25:AV:=.s (.int .u64 1)
def v26:AV:=.s (.slice none 0 0)
def v27:AV:=.s (.int .i64 0)
def v28:AV:=.s (.int .i64 1)
def v29:AV:=.s (.int .u64 0)
def v30:AV:=.s (.bool false)
def v31:AV:=.fn (.func 211) [] []
def v32:AV:=.s (.string ⟨#[116]⟩)
def v33:AV:=.s (.string ⟨#[]⟩)
def v34:AV:=.s (.int .i64 2)
def v35:AV:=.s (.int .i64 3)
def v36:AV:=.s (.string ⟨#[97,98,99,100,101,102,103,104,105,106,107,108,109,110,111,112,113,114,115,116,117,118,119,120,121,122,48,49,50,51,52,53,54,55,56,57,45,95,46]⟩)
def v37:AV:=.s (.bool true)
def v38:AV:=.s (.int .u64 2)
def b0:Blk:=.lst 93 4 1 none [.junk,.junk,.junk,.junk]
def b1:Blk:=.lst 93 4 0 none []
def v39:AV:=.s (.string ⟨#[109]⟩)
def v40:AV:=.s (.int .u64 3)
def v41:AV:=.s (.int .u64 4)
def v42:AV:=.s (.int .i64 5)
def v43:AV:=.s (.int .u64 5)
def v44:AV:=.ifc 195 v11
def v45:AV:=.ifc 151 (.ptr 1 0 0 0)
def v46:AV:=.s (.int .i64 4)
def b2:Blk:=.lst 68 11 1 none [.junk,.junk,.junk,.junk,.junk,.junk,.junk,.junk,.junk,.junk,.junk]
def b3:Blk:=.lst 68 11 0 none []
def v47:AV:=.s (.int .u64 11)
def v48:AV:=.s (.int .u64 12)
def v49:AV:=.s (.int .u64 13)
def v50:AV:=.s (.int .u64 14)
def v51:AV:=.s (.string ⟨#[84]⟩)
def v52:AV:=.s (.int .u64 15)
def v53:AV:=.s (.int .i64 182)
def v54:AV:=.s (.int .u64 16)
def v55:AV:=.s (.string ⟨#[117]⟩)
def v56:AV:=.s (.int .u64 17)
def v57:AV:=.fn (.func 209) [] [v11]
def v58:AV:=.s (.int .i64 (-1))
def b4:Blk:=.box 151 [.ptr 1 0 0 0]
def v59:AV:=.fn (.func 184) [] [.ptr 3 0 0 0]
def v60:AV:=.agg [v25,v25,v26,v26,v26]
def v61:AV:=.tup [v28,v29]
def v62:AV:=.tup [v27,v30]
def b5:Blk:=.lst 93 4 1 none [v25,v25,v30,v29]
def v63:AV:=.agg [v28,v25,v25,v32,v1,v29,v29,v33,v27,v27,v29,v27]
def b6:Blk:=.lst 3 1 3 (some 3) [v28,v34,v35]
def b7:Blk:=.lst 3 1 3 none [v28,v34,v35]
def b8:Blk:=.lst 58 2 1 none [v32,.own 3 7 0 1]
def b9:Blk:=.lst 58 2 1 none [v32,.own 6 7 0 1]
def v64:AV:=.agg [v38,v25,v0,v9,v26]
def b10:Blk:=.lst 58 2 1 none [v32,.own 2 7 0 1]
def b11:Blk:=.lst 43 7 1 (some 1) [v25,v33,v33,v25,v10,v26,v29]
def b12:Blk:=.lst 25 1 1 (some 1) [v25]
def b13:Blk:=.lst 93 4 1 none [v25,v38,v30,v29]
def v65:AV:=.tup [v3,v27]
def v66:AV:=.agg [v34,v25,v38,v32,v26,v25,v29,v39,v27,v27,v29,v27]
def b14:Blk:=.lst 58 2 1 none [v32,.own 1 7 0 1]
def b15:Blk:=.lst 43 7 1 none [v25,v33,v33,v25,v10,v26,v29]
def b16:Blk:=.box 36 [v38,v25,v0,v9,v26]
def b17:Blk:=.lst 25 1 2 (some 2) [v38,v40]
def b18:Blk:=.lst 43 7 1 none [v25,v33,v33,v25,v10,v26,v25]
def v67:AV:=.agg [v41,v38,v0,v9,.own 2 11 0 1]
def b19:Blk:=.lst 68 11 1 none [v25,v28,v32,v25,v29,v39,v16,v4,v27,v27,v27]
def b20:Blk:=.lst 43 7 1 none [v25,v33,v33,v25,v15,v26,v25]
def v68:AV:=.agg [v32,.own 0 7 0 1]
def b21:Blk:=.box 36 [v41,v38,v0,v9,.own 2 11 0 1]
def b22:Blk:=.lst 43 7 1 none [v25,v33,v33,v25,v14,v26,v25]
def b23:Blk:=.box 58 [v32,.own 0 7 0 1]
def b24:Blk:=.lst 58 2 1 none [v32,.own 10 7 0 1]
def b25:Blk:=.lst 43 7 1 none [v25,v33,v33,v25,v20,v26,v25]
def b26:Blk:=.lst 25 1 2 none [v38,v40]
def v69:AV:=.agg [v41,v38,.own 7 4 0 1,.own 8 2 0 1,.own 9 11 0 1]
def b27:Blk:=.lst 68 11 1 none [v25,v28,v32,v25,v29,v39,v16,v4,v27,v27,v28]
def b28:Blk:=.lst 68 11 1 none [v25,v28,v32,v25,v29,v39,v16,v4,v27,v27,v34]
def b29:Blk:=.lst 68 11 1 none [v25,v28,v32,v25,v29,v39,.own 11 1 0 2,v19,v27,v27,v34]
def b30:Blk:=.box 30 [v27]
def b31:Blk:=.lst 43 7 2 none [v38,v33,v39,v38,v4,v26,v29,v40,v39,v33,v38,v15,v26,v29]
def b32:Blk:=.lst 58 2 1 none [v32,.own 3 7 0 2]
def b33:Blk:=.lst 68 11 1 none [v25,v28,v32,v25,v29,v39,v16,v4,v27,v27,v35]
def b34:Blk:=.lst 43 7 2 none [v38,v33,v39,v38,v15,v26,v29,v40,v39,v33,v38,v7,v26,v29]
def b35:Blk:=.lst 25 1 1 (some 1) [v38]
def b36:Blk:=.lst 25 1 1 (some 1) [v40]
def v70:AV:=.agg [v32,.own 3 7 0 2]
def v71:AV:=.agg [v32,v22]
def b37:Blk:=.lst 43 7 2 none [v38,v33,v39,v38,v10,v26,v29,v40,v39,v33,v38,v5,v26,v29]
def b38:Blk:=.lst 58 2 1 none [v32,.own 11 7 0 2]
def b39:Blk:=.box 36 [v41,v38,v0,v9,.own 2 11 0 0]
def v72:AV:=.agg [v41,v38,v0,v9,.own 2 11 0 0]
def b40:Blk:=.lst 43 7 2 none [v38,v33,v39,v38,v5,v26,v29,v40,v39,v33,v38,v4,v26,v29]
def b41:Blk:=.lst 58 2 1 none [v32,.own 9 7 0 2]
def b42:Blk:=.lst 43 7 2 none [v38,v33,v39,v38,.own 10 1 0 3,v26,v29,v40,v39,v33,v38,.own 11 1 0 3,v26,v29]
def v73:AV:=.agg [v41,v38,.own 6 4 0 1,.own 7 2 0 1,.own 8 11 0 0]
def b43:Blk:=.lst 93 4 1 none [v25,v47,v30,v29]
def v74:AV:=.agg [v35,v25,v47,v32,v26,v38,v40,v33,v27,v27,v29,v27]
def b44:Blk:=.lst 58 2 1 none [v32,.own 4 7 0 2]
def b45:Blk:=.lst 58 2 1 none [v32,.own 2 7 0 2]
def b46:Blk:=.lst 25 1 1 (some 1) [v41]
def b47:Blk:=.box 36 [v43,v40,v0,v9,.own 2 11 0 1]
def v75:AV:=.agg [v43,v40,v0,v9,.own 2 11 0 1]
def b48:Blk:=.lst 68 11 1 none [v38,v34,v32,v38,v40,v33,v8,v4,v27,v27,v27]
def b49:Blk:=.lst 43 7 2 none [v38,v33,v39,v38,v15,v26,v38,v40,v39,v33,v38,v7,v26,v38]
def b50:Blk:=.lst 43 7 2 none [v38,v33,v39,v38,.own 1 1 0 3,v26,v38,v40,v39,v33,v38,v14,v26,v38]
def v76:AV:=.agg [v38,v34,v32,v38,v40,v33,.own 1 1 0 1,v14,v27,v27,v27]
def b51:Blk:=.lst 43 7 2 none [v38,v33,v39,v38,v10,v26,v38,v40,v39,v33,v38,v5,v26,v38]
def v77:AV:=.agg [v38,v34,v32,v38,v40,v33,v8,v4,v27,v27,v27]
def b52:Blk:=.box 68 [v38,v34,v32,v38,v40,v33,.own 1 1 0 1,v14,v27,v27,v27]
def b53:Blk:=.lst 68 11 1 none [v38,v34,v32,v38,v40,v33,.own 12 1 0 1,v20,v27,v27,v27]
def b54:Blk:=.lst 43 7 2 none [v38,v33,v39,v38,.own 14 1 0 3,v26,v38,v40,v39,v33,v38,.own 15 1 0 3,v26,v38]
def b55:Blk:=.lst 25 1 1 none [v41]
def v78:AV:=.agg [v43,v40,.own 8 4 0 1,.own 9 2 0 1,.own 10 11 0 1]
def b56:Blk:=.lst 93 4 1 none [v25,v48,v30,v29]
def v79:AV:=.agg [v46,v25,v48,v32,v26,v38,v29,v33,v28,v46,v29,v27]
def b57:Blk:=.box 36 [v43,v40,v3,v6,.own 3 11 0 1]
def b58:Blk:=.lst 68 11 1 none [v38,v34,v32,v38,v40,v33,.own 5 1 0 1,v15,v27,v27,v27]
def b59:Blk:=.lst 43 7 2 none [v38,v33,v39,v38,v7,v26,v38,v40,v39,v33,v38,v23,v26,v38]
def b60:Blk:=.box 36 [v43,v40,.own 9 4 0 1,v6,.own 3 11 0 1]
def v80:AV:=.agg [v43,v40,.own 7 4 0 1,.own 0 2 0 1,.own 1 11 0 1]
def b61:Blk:=.lst 68 11 1 none [v38,v34,v32,v38,v40,v33,.own 3 1 0 1,v5,v27,v27,v27]
def b62:Blk:=.lst 43 7 2 none [v38,v33,v39,v38,v4,v26,v38,v40,v39,v33,v38,v15,v26,v38]
def v81:AV:=.tup [.s (.pointer none),.s (.pointer none),.s (.pointer none),.ifc 195 (.ptr 9 0 0 0)]
def v82:AV:=.tup [v29,.ifc 195 (.ptr 9 0 0 0)]
def b63:Blk:=.lst 93 4 1 none [v25,v49,v30,v29]
def v83:AV:=.agg [v46,v25,v49,v32,v26,.s (.int .u64 9),v29,v33,v28,v46,v29,v27]
def b64:Blk:=.lst 93 4 1 none [v25,v50,v30,v29]
def v84:AV:=.agg [v28,v25,v50,v51,v26,v29,v29,v33,v27,v27,v29,v27]
def b65:Blk:=.lst 93 4 1 none [v25,v52,v30,v29]
def v85:AV:=.agg [v28,v25,v52,v32,v26,v29,v29,v33,v27,v27,v29,v27]
def b66:Blk:=.lst 93 4 1 none [v25,v54,v30,v29]
def v86:AV:=.agg [v28,v25,v54,v55,v26,v29,v29,v33,v27,v27,v29,v27]
def b67:Blk:=.lst 93 4 1 none [v25,v56,v30,v29]
def v87:AV:=.agg [v34,v25,v56,.s (.string ⟨#[120]⟩),v26,v29,v29,v33,v27,v27,v29,v27]
def b68:Blk:=.lst 3 1 1 (some 1) [v28]
def b69:Blk:=.box 197 [v33,.ifc 30 (.s (.int .i64 186))]
def v88:AV:=.agg [.s (.pointer (some ⟨4 ,151 ,none⟩)),.ptr 2 0 0 0,.s (.int .u64 150)]
def b70:Blk:=.box 197 [v33,.ifc 30 (.s (.int .i64 191))]
def b71:Blk:=.box 197 [v32,.ifc 30 (.s (.int .i64 184))]
def b72:Blk:=.box 197 [v32,.ifc 30 (.s (.int .i64 183))]
def b73:Blk:=.box 197 [v51,.ifc 30 (.s (.int .i64 181))]
def b74:Blk:=.box 197 [v32,.ifc 30 v53]
def b75:Blk:=.box 197 [v55,.ifc 30 (.s (.int .i64 185))]
def b76:Blk:=.box 197 [.s (.string ⟨#[120]⟩),.ifc 30 v53]
def b77:Blk:=.box 197 [v33,.ifc 30 (.s (.int .i64 187))]
def b78:Blk:=.box 197 [.s (.string ⟨#[110,101,119]⟩),.ifc 30 (.s (.int .i64 189))]
def v89:AV:=.tup [v69,v29,v27]
def v90:AV:=.ifc 230 (.agg [.s (.pointer (some ⟨4 ,30 ,none⟩))])
def m0:List Blk:=[b5,b10,b11,b7]
def m1:List Blk:=[b5,b10,b11,b7,b12]
def m2:List Blk:=[.lst 41 2 1 none [v33,v33]]
def m3:List Blk:=[b13,b10,b15,b7,b16]
def m4:List Blk:=[b13,b8,b19,b20,b17,b7,b7,b12]
def m5:List Blk:=[b18,b17,b7,b7]
def m6:List Blk:=[b13,b8,b19,b20,b17,b7,b7]
def m7:List Blk:=[b13,b8,b19,b20,b17,b7,b7,b21]
def m8:List Blk:=[b22,b17,b7,b23]
def m9:List Blk:=[b13,b8,b27,b20,b26,b7,b7,b21]
def m10:List Blk:=[b13,b8,b27,b20,b26,b7,b7,b12]
def m11:List Blk:=[b18,b26,b7,b7]
def m12:List Blk:=[b18,b26,b7,b7,.lst 3 1 1 (some 1) [v27]]
def m13:List Blk:=[b13,b8,b27,b20,b26,b7,b7]
def m14:List Blk:=[b22,b26,b7,b23]
def m15:List Blk:=[b13,b8,b28,b20,b26,b7,b7,b21]
def m16:List Blk:=[b13,b8,b28,b20,b26,b7,b7,b12]
def m17:List Blk:=[b13,b8,b28,b20,b26,b7,b7]
def m18:List Blk:=[b13,b8,b28,b20,b26,b7,b7,b13,b24,b29,b25,b26,b7,b7]
def m19:List Blk:=[b13,b32,b33,b34,b26,b7,b7,b7,b35]
def m20:List Blk:=[b13,b32,b33,b34,b26,b7,b7,b7,b36]
def m21:List Blk:=[.lst 41 2 2 none [v33,v39,v39,v33]]
def m22:List Blk:=[b13,b32,b33,b34,b26,b7,b7,b7]
def m23:List Blk:=[b13,b32,b33,b34,b26,b7,b7,b7,b12]
def m24:List Blk:=[b13,b32,b33,b34,b26,b7,b7,b7,b21]
def m25:List Blk:=[b37,b26,b7,b7,b7]
def m26:List Blk:=[b13,b32,b2,b40,b7,b7,b35]
def m27:List Blk:=[b13,b32,b2,b40,b7,b7,b36]
def m28:List Blk:=[b13,b32,b2,b40,b7,b7]
def m29:List Blk:=[b13,b32,b2,b40,b7,b7,b13,b41,b3,b42,b7,b7]
def m30:List Blk:=[b13,b32,b3,b40,b7,b7]
def m31:List Blk:=[b13,b32,b3,b40,b7,b7,b13,b41,b3,b42,b7,b7]
def m32:List Blk:=[b13,b32,b3,b40,b7,b7,b39]
def m33:List Blk:=[b13,b32,b3,b40,b7,b7,b35]
def m34:List Blk:=[b13,b32,b3,b40,b7,b7,b36]
def m35:List Blk:=[.lst 43 7 2 none [v38,v33,v39,v38,.own 1 1 0 3,v26,v29,v40,v39,v33,v38,v14,v26,v29],b7,b7,.box 25 [v40]]
def m36:List Blk:=[b43,b32,b3,b40,b7,b7,b39]
def m37:List Blk:=[b43,b32,b48,b49,b46,b7,b7,b7,b35]
def m38:List Blk:=[b50,b7,b7,.box 25 [v40]]
def m39:List Blk:=[b51,b46,b7,b7,b7]
def m40:List Blk:=[b43,b32,b48,b49,b46,b7,b7,b7,b36]
def m41:List Blk:=[b43,b32,b48,b49,b46,b7,b7,b7]
def m42:List Blk:=[b50,b7,b7,.box 25 [v41]]
def m43:List Blk:=[b51,b46,b7,b7,b7,b52]
def m44:List Blk:=[b56,b32,b48,b49,b55,b7,b7,b7,b47]
def m45:List Blk:=[b56,b32,b48,b49,b55,b7,b7,b7,b47,b71]
def m46:List Blk:=[b56,b32,b48,b49,b55,b7,b7,b7,b35]
def m47:List Blk:=[b51,b55,b7,b7,b7]
def m48:List Blk:=[b56,b32,b48,b49,b55,b7,b7,b7,b36]
def m49:List Blk:=[b56,b32,b48,b49,b55,b7,b7,b7]
def m50:List Blk:=[b51,b55,b7,b7,b7,b52]
def m51:List Blk:=[b50,b7,b7,.box 25 [.s (.int .u64 9)]]
def m52:List Blk:=[b63,b32,b48,b49,b55,b7,b7,b7,b47]
def m53:List Blk:=[b63,b32,b48,b49,b55,b7,b7,b7,b47,b72]
def m54:List Blk:=[b63,b32,b48,b49,b55,b7,b7,b7,b35]
def m55:List Blk:=[b63,b32,b48,b49,b55,b7,b7,b7,b36]
def m56:List Blk:=[b63,b32,b48,b49,b55,b7,b7,b7]
def m57:List Blk:=[b64,b32,b48,b49,b55,b7,b7,b7,b35]
def m58:List Blk:=[b64,b32,b48,b49,b55,b7,b7,b7,b36]
def m59:List Blk:=[b64,b32,b48,b49,b55,b7,b7,b7]
def m60:List Blk:=[b65,b32,b48,b49,b55,b7,b7,b7,b35]
def m61:List Blk:=[b65,b32,b48,b49,b55,b7,b7,b7,b36]
def m62:List Blk:=[b65,b32,b48,b49,b55,b7,b7,b7]
def m63:List Blk:=[b66,b32,b48,b49,b55,b7,b7,b7,b35]
def m64:List Blk:=[b66,b32,b48,b49,b55,b7,b7,b7,b36]
def m65:List Blk:=[b66,b32,b48,b49,b55,b7,b7,b7]
def m66:List Blk:=[b67,b32,b48,b49,b55,b7,b7,b7,b47]
def m67:List Blk:=[b67,b32,b48,b49,b55,b7,b7,b7,b47,b76]
def m68:List Blk:=[b67,b32,b48,b49,b55,b7,b7,b7,b35]
def m69:List Blk:=[b67,b32,b48,b49,b55,b7,b7,b7,b36]
def m70:List Blk:=[b67,b32,b48,b49,b55,b7,b7,b7]
def m71:List Blk:=[b67,b32,b48,b49,b55,b7,b7,b7,b67,b38,b53,b54,b55,b7,b7,b7]
def m72:List Blk:=[b67,b32,b48,b49,b55,b7,b7,b7,b7]
def m73:List Blk:=[b50,b7,b7,.box 9 [v39]]
end
end Go.Proofs.YtffkiommagljeaaGreatDoor
