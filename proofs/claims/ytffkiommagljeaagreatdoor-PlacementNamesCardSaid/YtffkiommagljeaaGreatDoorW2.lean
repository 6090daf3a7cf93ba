import Derived.Test.YtffkiommagljeaaGreatDoorW1
set_option linter.unusedVariables false
set_option linter.unusedSimpArgs false
set_option maxRecDepth 1000000
namespace Go.Proofs.YtffkiommagljeaaGreatDoor
open Go.Ax
section
theorem k7:ACall Tryz.prog 44 [.agg [v25,v25,v0,v26,v26]] [b5] (.agg [v25,v25,v3,v26,v26]) [b5,b5] []:=memo_of Tryz.mixed (ht:=withMemoC cloH []) 300 (by kernel_rfl)
noncomputable def e7:Memo Tryz.prog:=⟨_,_,_,_,_,_,k7⟩
theorem k8:ACall Tryz.prog 195 [v36] [] (.tup [.agg [v30,v30,v30,v30,v30,v30,v30,v30,v30,v30,v30,v30,v30,v30,v30,v30,v30,v30,v30,v30,v30,v30,v30,v30,v30,v30,v30,v30,v30,v30,v30,v30,v30,v30,v30,v30,v30,v30,v30,v30,v30,v30,v30,v30,v30,v37,v37,v30,v37,v37,v37,v37,v37,v37,v37,v37,v37,v37,v30,v30,v30,v30,v30,v30,v30,v30,v30,v30,v30,v30,v30,v30,v30,v30,v30,v30,v30,v30,v30,v30,v30,v30,v30,v30,v30,v30,v30,v30,v30,v30,v30,v30,v30,v30,v30,v37,v30,v37,v37,v37,v37,v37,v37,v37,v37,v37,v37,v37,v37,v37,v37,v37,v37,v37,v37,v37,v37,v37,v37,v37,v37,v37,v37,v30,v30,v30,v30,v30,v30,v30,v30,v30,v30,v30,v30,v30,v30,v30,v30,v30,v30,v30,v30,v30,v30,v30,v30,v30,v30,v30,v30,v30,v30,v30,v30,v30,v30,v30,v30,v30,v30,v30,v30,v30,v30,v30,v30,v30,v30,v30,v30,v30,v30,v30,v30,v30,v30,v30,v30,v30,v30,v30,v30,v30,v30,v30,v30,v30,v30,v30,v30,v30,v30,v30,v30,v30,v30,v30,v30,v30,v30,v30,v30,v30,v30,v30,v30,v30,v30,v30,v30,v30,v30,v30,v30,v30,v30,v30,v30,v30,v30,v30,v30,v30,v30,v30,v30,v30,v30,v30,v30,v30,v30,v30,v30,v30,v30,v30,v30,v30,v30,v30,v30,v30,v30,v30,v30,v30,v30,v30,v30,v30,v30,v30,v30,v30],v37]) [] []:=memo_of Tryz.mixed (ht:=withMemoC cloH []) 300 (by kernel_rfl)
noncomputable def e8:Memo Tryz.prog:=⟨_,_,_,_,_,_,k8⟩
theorem k19:ACall Tryz.prog 111 [v1] [b7] v37 [b7] []:=memo_of Tryz.mixed (ht:=withMemoC cloH []) 300 (by kernel_rfl)
noncomputable def e19:Memo Tryz.prog:=⟨_,_,_,_,_,_,k19⟩
theorem k49:ACall Tryz.prog 44 [v67] [b13,b8,b19,b20,b26,b7,b7] v69 [b13,b8,b19,b20,b26,b7,b7,b13,b24,.lst 68 11 1 none [v25,v28,v32,v25,v29,v39,.own 11 1 0 2,v19,v27,v27,v27],b25,b26,b7,b7] []:=memo_of Tryz.mixed (ht:=withMemoC cloH []) 300 (by kernel_rfl)
noncomputable def e49:Memo Tryz.prog:=⟨_,_,_,_,_,_,k49⟩
theorem k50:ACall Tryz.prog 48 [v18,.agg [v42,v25,v40,v33,v26,v29,v29,v33,v27,v27,v25,v27]] [b13,b8,b19,b20,b26,b7,b7,b21] v2 m9 []:=memo_of Tryz.mixed (ht:=withMemoC cloH []) 300 (by kernel_rfl)
noncomputable def e50:Memo Tryz.prog:=⟨_,_,_,_,_,_,k50⟩
theorem k53:ACall Tryz.prog 127 [v68,.agg [v25,v28,v32,v25,v29,v39,v17,v14,v27,v27,v28]] m11 v8 m12 []:=memo_of Tryz.mixed (ht:=withMemoC cloH []) 300 (by kernel_rfl)
noncomputable def e53:Memo Tryz.prog:=⟨_,_,_,_,_,_,k53⟩
theorem k54:ACall Tryz.prog 128 [v67,v32] m13 v28 m13 []:=memo_of Tryz.mixed (ht:=withMemoC cloH []) 300 (by kernel_rfl)
noncomputable def e54:Memo Tryz.prog:=⟨_,_,_,_,_,_,k54⟩
theorem k56:ACall Tryz.prog 183 [v16,.fn (.func 181) [] [v18]] m9 v58 m9 []:=memo_of Tryz.mixed (ht:=withMemoC cloH []) 300 (by kernel_rfl)
noncomputable def e56:Memo Tryz.prog:=⟨_,_,_,_,_,_,k56⟩
theorem k59:ACall Tryz.prog 183 [v17,.fn (.func 134) [] [.ptr 3 0 0 0]] m14 v58 m14 []:=memo_of Tryz.mixed (ht:=withMemoC cloH []) 300 (by kernel_rfl)
noncomputable def e59:Memo Tryz.prog:=⟨_,_,_,_,_,_,k59⟩
theorem k65:ACall Tryz.prog 125 [v67,.own 7 1 0 1] m16 v37 m16 []:=memo_of Tryz.mixed (ht:=withMemoC cloH []) 300 (by kernel_rfl)
noncomputable def e65:Memo Tryz.prog:=⟨_,_,_,_,_,_,k65⟩
theorem k87:ACall Tryz.prog 26 [.own 0 2 0 2] m21 (.tup [v27,v27]) m21 []:=memo_of Tryz.mixed (ht:=withMemoC cloH []) 300 (by kernel_rfl)
noncomputable def e87:Memo Tryz.prog:=⟨_,_,_,_,_,_,k87⟩
theorem k90:ACall Tryz.prog 125 [v67,v24] m23 v37 m23 []:=memo_of Tryz.mixed (ht:=withMemoC cloH []) 300 (by kernel_rfl)
noncomputable def e90:Memo Tryz.prog:=⟨_,_,_,_,_,_,k90⟩
theorem k114:ACall Tryz.prog 168 [v44,v45,v88,v90] [b70,b30,b4] v37 [b70,.box 30 [.s (.int .i64 191)],b4] []:=memo_of Tryz.mixed (ht:=withMemoC cloH []) 300 (by kernel_rfl)
noncomputable def e114:Memo Tryz.prog:=⟨_,_,_,_,_,_,k114⟩
theorem k122:ACall Tryz.prog 44 [.agg [v41,v38,.own 5 4 0 1,.own 0 2 0 1,.own 1 11 0 0]] [b45,b3,b37,b7,b7,b43] v73 [b45,b3,b37,b7,b7,b43,b43,b41,b3,b42,b7,b7] []:=memo_of Tryz.mixed (ht:=withMemoC cloH []) 300 (by kernel_rfl)
noncomputable def e122:Memo Tryz.prog:=⟨_,_,_,_,_,_,k122⟩
theorem k125:ACall Tryz.prog 179 [v1,.own 1 1 0 3] [b7,b7] v37 [b7,b7] []:=memo_of Tryz.mixed (ht:=withMemoC cloH []) 300 (by kernel_rfl)
noncomputable def e125:Memo Tryz.prog:=⟨_,_,_,_,_,_,k125⟩
theorem k139:ACall Tryz.prog 41 [v22,v59] m42 v58 m42 []:=memo_of Tryz.mixed (ht:=withMemoC cloH []) 300 (by kernel_rfl)
noncomputable def e139:Memo Tryz.prog:=⟨_,_,_,_,_,_,k139⟩
theorem k146:ACall Tryz.prog 210 [v13,.agg [v25,v48,v30,v29],v31] [b1] v62 [b1] []:=memo_of Tryz.mixed (ht:=withMemoC cloH []) 300 (by kernel_rfl)
noncomputable def e146:Memo Tryz.prog:=⟨_,_,_,_,_,_,k146⟩
theorem k150:ACall Tryz.prog 119 [v21,v79] m44 v81 m45 []:=memo_of Tryz.mixed (ht:=withMemoC cloH []) 300 (by kernel_rfl)
noncomputable def e150:Memo Tryz.prog:=⟨_,_,_,_,_,_,k150⟩
theorem k155:ACall Tryz.prog 51 [v0] [b56] v37 [b56] []:=memo_of Tryz.mixed (ht:=withMemoC cloH []) 300 (by kernel_rfl)
noncomputable def e155:Memo Tryz.prog:=⟨_,_,_,_,_,_,k155⟩
theorem k158:ACall Tryz.prog 125 [v75,v24] m48 v37 m48 []:=memo_of Tryz.mixed (ht:=withMemoC cloH []) 300 (by kernel_rfl)
noncomputable def e158:Memo Tryz.prog:=⟨_,_,_,_,_,_,k158⟩
theorem k159:ACall Tryz.prog 128 [v75,v32] m49 v27 m49 []:=memo_of Tryz.mixed (ht:=withMemoC cloH []) 300 (by kernel_rfl)
noncomputable def e159:Memo Tryz.prog:=⟨_,_,_,_,_,_,k159⟩
theorem k161:ACall Tryz.prog 125 [v75,v8] m49 v37 m49 []:=memo_of Tryz.mixed (ht:=withMemoC cloH []) 300 (by kernel_rfl)
noncomputable def e161:Memo Tryz.prog:=⟨_,_,_,_,_,_,k161⟩
theorem k168:ACall Tryz.prog 106 [v0,v25,v49] [b56] v61 [b56] []:=memo_of Tryz.mixed (ht:=withMemoC cloH []) 300 (by kernel_rfl)
noncomputable def e168:Memo Tryz.prog:=⟨_,_,_,_,_,_,k168⟩
theorem k174:ACall Tryz.prog 41 [v22,v59] m51 v58 m51 []:=memo_of Tryz.mixed (ht:=withMemoC cloH []) 300 (by kernel_rfl)
noncomputable def e174:Memo Tryz.prog:=⟨_,_,_,_,_,_,k174⟩
theorem k191:ACall Tryz.prog 208 [v3,v57] [.box 93 [v25,v50,v30,v29],b63] v12 [.box 93 [v25,v50,v30,v29],b0] []:=memo_of Tryz.mixed (ht:=withMemoC cloH []) 300 (by kernel_rfl)
noncomputable def e191:Memo Tryz.prog:=⟨_,_,_,_,_,_,k191⟩
theorem k195:ACall Tryz.prog 44 [v80] [b45,b61,b62,b55,b7,b7,b7,b64] v78 [b45,b61,b62,b55,b7,b7,b7,b64,b64,b38,b53,b54,b55,b7,b7,b7] []:=memo_of Tryz.mixed (ht:=withMemoC cloH []) 300 (by kernel_rfl)
noncomputable def e195:Memo Tryz.prog:=⟨_,_,_,_,_,_,k195⟩
theorem k203:ACall Tryz.prog 125 [v75,v24] m58 v37 m58 []:=memo_of Tryz.mixed (ht:=withMemoC cloH []) 300 (by kernel_rfl)
noncomputable def e203:Memo Tryz.prog:=⟨_,_,_,_,_,_,k203⟩
theorem k218:ACall Tryz.prog 168 [v44,v45,v88,v90] [b74,b30,b4] v37 [b74,.box 30 [v53],b4] []:=memo_of Tryz.mixed (ht:=withMemoC cloH []) 300 (by kernel_rfl)
noncomputable def e218:Memo Tryz.prog:=⟨_,_,_,_,_,_,k218⟩
theorem k233:ACall Tryz.prog 210 [v13,.agg [v25,v54,v30,v29],v31] [b1] v62 [b1] []:=memo_of Tryz.mixed (ht:=withMemoC cloH []) 300 (by kernel_rfl)
noncomputable def e233:Memo Tryz.prog:=⟨_,_,_,_,_,_,k233⟩
theorem k236:ACall Tryz.prog 44 [v80] [b45,b61,b62,b55,b7,b7,b7,b66] v78 [b45,b61,b62,b55,b7,b7,b7,b66,b66,b38,b53,b54,b55,b7,b7,b7] []:=memo_of Tryz.mixed (ht:=withMemoC cloH []) 300 (by kernel_rfl)
noncomputable def e236:Memo Tryz.prog:=⟨_,_,_,_,_,_,k236⟩
theorem k242:ACall Tryz.prog 51 [v0] [b66] v37 [b66] []:=memo_of Tryz.mixed (ht:=withMemoC cloH []) 300 (by kernel_rfl)
noncomputable def e242:Memo Tryz.prog:=⟨_,_,_,_,_,_,k242⟩
theorem k244:ACall Tryz.prog 125 [v75,v24] m64 v37 m64 []:=memo_of Tryz.mixed (ht:=withMemoC cloH []) 300 (by kernel_rfl)
noncomputable def e244:Memo Tryz.prog:=⟨_,_,_,_,_,_,k244⟩
theorem k245:ACall Tryz.prog 128 [v75,v32] m65 v27 m65 []:=memo_of Tryz.mixed (ht:=withMemoC cloH []) 300 (by kernel_rfl)
noncomputable def e245:Memo Tryz.prog:=⟨_,_,_,_,_,_,k245⟩
theorem k247:ACall Tryz.prog 125 [v75,v8] m65 v37 m65 []:=memo_of Tryz.mixed (ht:=withMemoC cloH []) 300 (by kernel_rfl)
noncomputable def e247:Memo Tryz.prog:=⟨_,_,_,_,_,_,k247⟩
theorem k252:ACall Tryz.prog 106 [v0,v25,v56] [b66] v61 [b66] []:=memo_of Tryz.mixed (ht:=withMemoC cloH []) 300 (by kernel_rfl)
noncomputable def e252:Memo Tryz.prog:=⟨_,_,_,_,_,_,k252⟩
theorem k279:ACall Tryz.prog 25 [.agg [v33,v39],.s (.string ⟨#[97]⟩)] [] v37 [] []:=memo_of Tryz.mixed (ht:=withMemoC cloH []) 300 (by kernel_rfl)
noncomputable def e279:Memo Tryz.prog:=⟨_,_,_,_,_,_,k279⟩
theorem k285:ACall Tryz.prog 14 [v75,v55,v39] m70 (.tup [.agg [v29,v33,v33,v29,v26,v26,v29],v30]) m70 []:=memo_of Tryz.mixed (ht:=withMemoC cloH []) 300 (by kernel_rfl)
noncomputable def e285:Memo Tryz.prog:=⟨_,_,_,_,_,_,k285⟩
theorem k288:ACall Tryz.prog 168 [v44,v45,v88,v90] [b78,b30,b4] v37 [b78,.box 30 [.s (.int .i64 189)],b4] []:=memo_of Tryz.mixed (ht:=withMemoC cloH []) 300 (by kernel_rfl)
noncomputable def e288:Memo Tryz.prog:=⟨_,_,_,_,_,_,k288⟩
theorem k0:ACall Tryz.prog 16 [v60] [] v27 [] []:=memo_of Tryz.mixed (ht:=withMemoC cloH []) 300 (by kernel_rfl)
noncomputable def e0:Memo Tryz.prog:=⟨_,_,_,_,_,_,k0⟩
theorem k1:ACall Tryz.prog 44 [v60] [] v60 [] []:=memo_of Tryz.mixed (ht:=withMemoC cloH []) 300 (by kernel_rfl)
noncomputable def e1:Memo Tryz.prog:=⟨_,_,_,_,_,_,k1⟩
theorem k2:ACall Tryz.prog 106 [v26,v25,v25] [] v61 [] []:=memo_of Tryz.mixed (ht:=withMemoC cloH []) 300 (by kernel_rfl)
noncomputable def e2:Memo Tryz.prog:=⟨_,_,_,_,_,_,k2⟩
theorem k14:ACall Tryz.prog 25 [.agg [v33,v33],.s (.string ⟨#[107]⟩)] [] v37 [] []:=memo_of Tryz.mixed (ht:=withMemoC cloH []) 300 (by kernel_rfl)
noncomputable def e14:Memo Tryz.prog:=⟨_,_,_,_,_,_,k14⟩
theorem k18:ACall Tryz.prog 125 [v64,v8] m1 v37 m1 []:=memo_of Tryz.mixed (ht:=withMemoC cloH []) 300 (by kernel_rfl)
noncomputable def e18:Memo Tryz.prog:=⟨_,_,_,_,_,_,k18⟩
theorem k36:ACall Tryz.prog 51 [v0] [b13] v37 [b13] []:=memo_of Tryz.mixed (ht:=withMemoC cloH []) 300 (by kernel_rfl)
noncomputable def e36:Memo Tryz.prog:=⟨_,_,_,_,_,_,k36⟩
theorem k63:ACall Tryz.prog 48 [v18,.agg [v42,v25,v41,v33,v26,v29,v29,v33,v27,v27,v25,v28]] m9 v2 m15 []:=memo_of Tryz.mixed (ht:=withMemoC cloH []) 300 (by kernel_rfl)
noncomputable def e63:Memo Tryz.prog:=⟨_,_,_,_,_,_,k63⟩
theorem k69:ACall Tryz.prog 183 [v16,.fn (.func 181) [] [v18]] m15 v58 m15 []:=memo_of Tryz.mixed (ht:=withMemoC cloH []) 300 (by kernel_rfl)
noncomputable def e69:Memo Tryz.prog:=⟨_,_,_,_,_,_,k69⟩
theorem k77:ACall Tryz.prog 48 [v18,.agg [v42,v25,.s (.int .u64 6),v33,v26,v29,v29,v33,v27,v27,v25,v35]] m15 (.ifc 195 v21) [b13,b8,b28,b20,b26,b7,b7,b21,b69] []:=memo_of Tryz.mixed (ht:=withMemoC cloH []) 300 (by kernel_rfl)
noncomputable def e77:Memo Tryz.prog:=⟨_,_,_,_,_,_,k77⟩
theorem k88:ACall Tryz.prog 128 [v67,v32] m22 v27 m22 []:=memo_of Tryz.mixed (ht:=withMemoC cloH []) 300 (by kernel_rfl)
noncomputable def e88:Memo Tryz.prog:=⟨_,_,_,_,_,_,k88⟩
theorem k97:ACall Tryz.prog 44 [v67] m22 (.agg [v41,v38,.own 8 4 0 1,.own 9 2 0 1,.own 10 11 0 1]) [b13,b32,b33,b34,b26,b7,b7,b7,b13,b38,.lst 68 11 1 none [v25,v28,v32,v25,v29,v39,.own 12 1 0 2,v20,v27,v27,v35],.lst 43 7 2 none [v38,v33,v39,v38,.own 14 1 0 3,v26,v29,v40,v39,v33,v38,.own 15 1 0 3,v26,v29],b26,b7,b7,b7] []:=memo_of Tryz.mixed (ht:=withMemoC cloH []) 300 (by kernel_rfl)
noncomputable def e97:Memo Tryz.prog:=⟨_,_,_,_,_,_,k97⟩
theorem k101:ACall Tryz.prog 125 [v72,.own 6 1 0 1] m26 v37 m26 []:=memo_of Tryz.mixed (ht:=withMemoC cloH []) 300 (by kernel_rfl)
noncomputable def e101:Memo Tryz.prog:=⟨_,_,_,_,_,_,k101⟩
theorem k102:ACall Tryz.prog 125 [v72,.own 6 1 0 1] m27 v37 m27 []:=memo_of Tryz.mixed (ht:=withMemoC cloH []) 300 (by kernel_rfl)
noncomputable def e102:Memo Tryz.prog:=⟨_,_,_,_,_,_,k102⟩
theorem k106:ACall Tryz.prog 44 [v72] m30 v73 m31 []:=memo_of Tryz.mixed (ht:=withMemoC cloH []) 300 (by kernel_rfl)
noncomputable def e106:Memo Tryz.prog:=⟨_,_,_,_,_,_,k106⟩
theorem k107:ACall Tryz.prog 48 [.ptr 6 0 0 0,.agg [v42,v25,.s (.int .u64 9),v33,v26,v29,v29,v33,v27,v27,v25,v35]] m32 v2 m32 []:=memo_of Tryz.mixed (ht:=withMemoC cloH []) 300 (by kernel_rfl)
noncomputable def e107:Memo Tryz.prog:=⟨_,_,_,_,_,_,k107⟩
theorem k113:ACall Tryz.prog 48 [.ptr 6 0 0 0,.agg [v42,v25,.s (.int .u64 10),v33,v26,v29,v29,v33,v27,v27,v38,v27]] m32 (.ifc 195 v18) [b13,b32,b3,b40,b7,b7,b39,b70] []:=memo_of Tryz.mixed (ht:=withMemoC cloH []) 300 (by kernel_rfl)
noncomputable def e113:Memo Tryz.prog:=⟨_,_,_,_,_,_,k113⟩
theorem k117:ACall Tryz.prog 106 [v0,v25,v47] [b13] v61 [b13] []:=memo_of Tryz.mixed (ht:=withMemoC cloH []) 300 (by kernel_rfl)
noncomputable def e117:Memo Tryz.prog:=⟨_,_,_,_,_,_,k117⟩
theorem k130:ACall Tryz.prog 125 [v75,v24] m37 v37 m37 []:=memo_of Tryz.mixed (ht:=withMemoC cloH []) 300 (by kernel_rfl)
noncomputable def e130:Memo Tryz.prog:=⟨_,_,_,_,_,_,k130⟩
theorem k167:ACall Tryz.prog 44 [v75] m49 v78 [b56,b32,b48,b49,b55,b7,b7,b7,b56,b38,b53,b54,b55,b7,b7,b7] []:=memo_of Tryz.mixed (ht:=withMemoC cloH []) 300 (by kernel_rfl)
noncomputable def e167:Memo Tryz.prog:=⟨_,_,_,_,_,_,k167⟩
theorem k169:ACall Tryz.prog 208 [v3,v57] [.box 93 [v25,v49,v30,v29],b56] v12 [.box 93 [v25,v49,v30,v29],b0] []:=memo_of Tryz.mixed (ht:=withMemoC cloH []) 300 (by kernel_rfl)
noncomputable def e169:Memo Tryz.prog:=⟨_,_,_,_,_,_,k169⟩
theorem k170:ACall Tryz.prog 210 [v13,.agg [v25,v49,v30,v29],v31] [b1] v62 [b1] []:=memo_of Tryz.mixed (ht:=withMemoC cloH []) 300 (by kernel_rfl)
noncomputable def e170:Memo Tryz.prog:=⟨_,_,_,_,_,_,k170⟩
theorem k177:ACall Tryz.prog 168 [v44,v45,v88,v90] [b72,b30,b4] v37 [b72,.box 30 [.s (.int .i64 183)],b4] []:=memo_of Tryz.mixed (ht:=withMemoC cloH []) 300 (by kernel_rfl)
noncomputable def e177:Memo Tryz.prog:=⟨_,_,_,_,_,_,k177⟩
theorem k181:ACall Tryz.prog 125 [v75,v24] m54 v37 m54 []:=memo_of Tryz.mixed (ht:=withMemoC cloH []) 300 (by kernel_rfl)
noncomputable def e181:Memo Tryz.prog:=⟨_,_,_,_,_,_,k181⟩
theorem k183:ACall Tryz.prog 128 [v75,v32] m56 v27 m56 []:=memo_of Tryz.mixed (ht:=withMemoC cloH []) 300 (by kernel_rfl)
noncomputable def e183:Memo Tryz.prog:=⟨_,_,_,_,_,_,k183⟩
theorem k185:ACall Tryz.prog 125 [v75,v8] m56 v37 m56 []:=memo_of Tryz.mixed (ht:=withMemoC cloH []) 300 (by kernel_rfl)
noncomputable def e185:Memo Tryz.prog:=⟨_,_,_,_,_,_,k185⟩
theorem k201:ACall Tryz.prog 51 [v0] [b64] v37 [b64] []:=memo_of Tryz.mixed (ht:=withMemoC cloH []) 300 (by kernel_rfl)
noncomputable def e201:Memo Tryz.prog:=⟨_,_,_,_,_,_,k201⟩
theorem k210:ACall Tryz.prog 44 [v75] m59 v78 [b64,b32,b48,b49,b55,b7,b7,b7,b64,b38,b53,b54,b55,b7,b7,b7] []:=memo_of Tryz.mixed (ht:=withMemoC cloH []) 300 (by kernel_rfl)
noncomputable def e210:Memo Tryz.prog:=⟨_,_,_,_,_,_,k210⟩
theorem k211:ACall Tryz.prog 106 [v0,v25,v52] [b64] v61 [b64] []:=memo_of Tryz.mixed (ht:=withMemoC cloH []) 300 (by kernel_rfl)
noncomputable def e211:Memo Tryz.prog:=⟨_,_,_,_,_,_,k211⟩
theorem k222:ACall Tryz.prog 125 [v75,v24] m60 v37 m60 []:=memo_of Tryz.mixed (ht:=withMemoC cloH []) 300 (by kernel_rfl)
noncomputable def e222:Memo Tryz.prog:=⟨_,_,_,_,_,_,k222⟩
theorem k251:ACall Tryz.prog 44 [v75] m65 v78 [b66,b32,b48,b49,b55,b7,b7,b7,b66,b38,b53,b54,b55,b7,b7,b7] []:=memo_of Tryz.mixed (ht:=withMemoC cloH []) 300 (by kernel_rfl)
noncomputable def e251:Memo Tryz.prog:=⟨_,_,_,_,_,_,k251⟩
theorem k253:ACall Tryz.prog 208 [v3,v57] [.box 93 [v25,v56,v30,v29],b66] v12 [.box 93 [v25,v56,v30,v29],b0] []:=memo_of Tryz.mixed (ht:=withMemoC cloH []) 300 (by kernel_rfl)
noncomputable def e253:Memo Tryz.prog:=⟨_,_,_,_,_,_,k253⟩
theorem k254:ACall Tryz.prog 210 [v13,.agg [v25,v56,v30,v29],v31] [b1] v62 [b1] []:=memo_of Tryz.mixed (ht:=withMemoC cloH []) 300 (by kernel_rfl)
noncomputable def e254:Memo Tryz.prog:=⟨_,_,_,_,_,_,k254⟩
theorem k260:ACall Tryz.prog 168 [v44,v45,v88,v90] [b76,b30,b4] v37 [b76,.box 30 [v53],b4] []:=memo_of Tryz.mixed (ht:=withMemoC cloH []) 300 (by kernel_rfl)
noncomputable def e260:Memo Tryz.prog:=⟨_,_,_,_,_,_,k260⟩
theorem k264:ACall Tryz.prog 125 [v75,v24] m68 v37 m68 []:=memo_of Tryz.mixed (ht:=withMemoC cloH []) 300 (by kernel_rfl)
noncomputable def e264:Memo Tryz.prog:=⟨_,_,_,_,_,_,k264⟩
theorem k266:ACall Tryz.prog 128 [v75,v32] m70 v27 m70 []:=memo_of Tryz.mixed (ht:=withMemoC cloH []) 300 (by kernel_rfl)
noncomputable def e266:Memo Tryz.prog:=⟨_,_,_,_,_,_,k266⟩
theorem k268:ACall Tryz.prog 125 [v75,v8] m70 v37 m70 []:=memo_of Tryz.mixed (ht:=withMemoC cloH []) 300 (by kernel_rfl)
noncomputable def e268:Memo Tryz.prog:=⟨_,_,_,_,_,_,k268⟩
theorem k282:ACall Tryz.prog 25 [.agg [v39,v33],v39] [] v37 [] []:=memo_of Tryz.mixed (ht:=withMemoC cloH []) 300 (by kernel_rfl)
noncomputable def e282:Memo Tryz.prog:=⟨_,_,_,_,_,_,k282⟩
theorem k286:ACall Tryz.prog 106 [v0,v25,v25] [b67] (.tup [v35,v29]) [b67] []:=memo_of Tryz.mixed (ht:=withMemoC cloH []) 300 (by kernel_rfl)
noncomputable def e286:Memo Tryz.prog:=⟨_,_,_,_,_,_,k286⟩
end
end Go.Proofs.YtffkiommagljeaaGreatDoor
