import Derived.Test.YtffkiommagljeaaGreatDoorW1
set_option linter.unusedVariables false
set_option linter.unusedSimpArgs false
set_option maxRecDepth 1000000
namespace Go.Proofs.YtffkiommagljeaaGreatDoor
open Go.Ax
section
theorem k10:ACall Tryz.prog 111 [v1] [b6] v37 [b6] []:=memo_of Tryz.mixed (ht:=withMemoC cloH []) 300 (by kernel_rfl)
noncomputable def e10:Memo Tryz.prog:=⟨_,_,_,_,_,_,k10⟩
theorem k20:ACall Tryz.prog 26 [.own 0 2 0 1] m2 (.tup [v27,v27]) m2 []:=memo_of Tryz.mixed (ht:=withMemoC cloH []) 300 (by kernel_rfl)
noncomputable def e20:Memo Tryz.prog:=⟨_,_,_,_,_,_,k20⟩
theorem k29:ACall Tryz.prog 44 [.agg [v38,v25,.own 3 4 0 1,.own 0 2 0 1,v26]] [b14,.lst 43 7 1 none [v25,v33,v33,v25,v14,v26,v29],b7,b13] (.agg [v38,v25,.own 4 4 0 1,.own 5 2 0 1,v26]) [b14,.lst 43 7 1 none [v25,v33,v33,v25,v14,v26,v29],b7,b13,b13,b9,.lst 43 7 1 none [v25,v33,v33,v25,v7,v26,v29],b7] []:=memo_of Tryz.mixed (ht:=withMemoC cloH []) 300 (by kernel_rfl)
noncomputable def e29:Memo Tryz.prog:=⟨_,_,_,_,_,_,k29⟩
theorem k30:ACall Tryz.prog 119 [.ptr 4 0 0 0,v66] m3 (.tup [.ptr 1 0 2 0,.ptr 2 0 7 0,.ptr 2 0 7 0,v2]) m3 []:=memo_of Tryz.mixed (ht:=withMemoC cloH []) 300 (by kernel_rfl)
noncomputable def e30:Memo Tryz.prog:=⟨_,_,_,_,_,_,k30⟩
theorem k31:ACall Tryz.prog 25 [.agg [v33,v33],v39] [] v37 [] []:=memo_of Tryz.mixed (ht:=withMemoC cloH []) 300 (by kernel_rfl)
noncomputable def e31:Memo Tryz.prog:=⟨_,_,_,_,_,_,k31⟩
theorem k38:ACall Tryz.prog 127 [v68,.agg [v25,v28,v32,v25,v29,v39,v17,v14,v27,v27,v27]] m5 v8 [b18,b17,b7,b7,.lst 3 1 1 (some 1) [v27]] []:=memo_of Tryz.mixed (ht:=withMemoC cloH []) 300 (by kernel_rfl)
noncomputable def e38:Memo Tryz.prog:=⟨_,_,_,_,_,_,k38⟩
theorem k39:ACall Tryz.prog 128 [v67,v32] m6 v28 m6 []:=memo_of Tryz.mixed (ht:=withMemoC cloH []) 300 (by kernel_rfl)
noncomputable def e39:Memo Tryz.prog:=⟨_,_,_,_,_,_,k39⟩
theorem k41:ACall Tryz.prog 183 [v16,.fn (.func 181) [] [v18]] m7 v58 m7 []:=memo_of Tryz.mixed (ht:=withMemoC cloH []) 300 (by kernel_rfl)
noncomputable def e41:Memo Tryz.prog:=⟨_,_,_,_,_,_,k41⟩
theorem k43:ACall Tryz.prog 179 [.own 1 1 0 3,v1] [b7,b7] v37 [b7,b7] []:=memo_of Tryz.mixed (ht:=withMemoC cloH []) 300 (by kernel_rfl)
noncomputable def e43:Memo Tryz.prog:=⟨_,_,_,_,_,_,k43⟩
theorem k45:ACall Tryz.prog 183 [v17,.fn (.func 134) [] [.ptr 3 0 0 0]] m8 v58 m8 []:=memo_of Tryz.mixed (ht:=withMemoC cloH []) 300 (by kernel_rfl)
noncomputable def e45:Memo Tryz.prog:=⟨_,_,_,_,_,_,k45⟩
theorem k52:ACall Tryz.prog 125 [v67,.own 7 1 0 1] m10 v37 m10 []:=memo_of Tryz.mixed (ht:=withMemoC cloH []) 300 (by kernel_rfl)
noncomputable def e52:Memo Tryz.prog:=⟨_,_,_,_,_,_,k52⟩
theorem k74:ACall Tryz.prog 44 [v67] m17 v69 m18 []:=memo_of Tryz.mixed (ht:=withMemoC cloH []) 300 (by kernel_rfl)
noncomputable def e74:Memo Tryz.prog:=⟨_,_,_,_,_,_,k74⟩
theorem k78:ACall Tryz.prog 168 [v44,v45,v88,v90] [b69,b30,b4] v37 [b69,.box 30 [.s (.int .i64 186)],b4] []:=memo_of Tryz.mixed (ht:=withMemoC cloH []) 300 (by kernel_rfl)
noncomputable def e78:Memo Tryz.prog:=⟨_,_,_,_,_,_,k78⟩
theorem k86:ACall Tryz.prog 125 [v67,v24] m20 v37 m20 []:=memo_of Tryz.mixed (ht:=withMemoC cloH []) 300 (by kernel_rfl)
noncomputable def e86:Memo Tryz.prog:=⟨_,_,_,_,_,_,k86⟩
theorem k105:ACall Tryz.prog 44 [v72] m28 v73 m29 []:=memo_of Tryz.mixed (ht:=withMemoC cloH []) 300 (by kernel_rfl)
noncomputable def e105:Memo Tryz.prog:=⟨_,_,_,_,_,_,k105⟩
theorem k110:ACall Tryz.prog 125 [v72,.own 6 1 0 1] m34 v37 m34 []:=memo_of Tryz.mixed (ht:=withMemoC cloH []) 300 (by kernel_rfl)
noncomputable def e110:Memo Tryz.prog:=⟨_,_,_,_,_,_,k110⟩
theorem k119:ACall Tryz.prog 210 [v13,.agg [v25,v47,v30,v29],v31] [b1] v62 [b1] []:=memo_of Tryz.mixed (ht:=withMemoC cloH []) 300 (by kernel_rfl)
noncomputable def e119:Memo Tryz.prog:=⟨_,_,_,_,_,_,k119⟩
theorem k129:ACall Tryz.prog 51 [v0] [b43] v37 [b43] []:=memo_of Tryz.mixed (ht:=withMemoC cloH []) 300 (by kernel_rfl)
noncomputable def e129:Memo Tryz.prog:=⟨_,_,_,_,_,_,k129⟩
theorem k131:ACall Tryz.prog 41 [v22,v59] m38 v28 m38 []:=memo_of Tryz.mixed (ht:=withMemoC cloH []) 300 (by kernel_rfl)
noncomputable def e131:Memo Tryz.prog:=⟨_,_,_,_,_,_,k131⟩
theorem k134:ACall Tryz.prog 128 [v75,v32] m41 v27 m41 []:=memo_of Tryz.mixed (ht:=withMemoC cloH []) 300 (by kernel_rfl)
noncomputable def e134:Memo Tryz.prog:=⟨_,_,_,_,_,_,k134⟩
theorem k136:ACall Tryz.prog 125 [v75,v8] m41 v37 m41 []:=memo_of Tryz.mixed (ht:=withMemoC cloH []) 300 (by kernel_rfl)
noncomputable def e136:Memo Tryz.prog:=⟨_,_,_,_,_,_,k136⟩
theorem k143:ACall Tryz.prog 44 [v75] m41 v78 [b43,b32,b48,b49,b46,b7,b7,b7,b43,b38,b53,b54,b55,b7,b7,b7] []:=memo_of Tryz.mixed (ht:=withMemoC cloH []) 300 (by kernel_rfl)
noncomputable def e143:Memo Tryz.prog:=⟨_,_,_,_,_,_,k143⟩
theorem k144:ACall Tryz.prog 106 [v0,v25,v48] [b43] v61 [b43] []:=memo_of Tryz.mixed (ht:=withMemoC cloH []) 300 (by kernel_rfl)
noncomputable def e144:Memo Tryz.prog:=⟨_,_,_,_,_,_,k144⟩
theorem k145:ACall Tryz.prog 208 [v3,v57] [.box 93 [v25,v48,v30,v29],b43] v12 [.box 93 [v25,v48,v30,v29],b0] []:=memo_of Tryz.mixed (ht:=withMemoC cloH []) 300 (by kernel_rfl)
noncomputable def e145:Memo Tryz.prog:=⟨_,_,_,_,_,_,k145⟩
theorem k156:ACall Tryz.prog 125 [v75,v24] m46 v37 m46 []:=memo_of Tryz.mixed (ht:=withMemoC cloH []) 300 (by kernel_rfl)
noncomputable def e156:Memo Tryz.prog:=⟨_,_,_,_,_,_,k156⟩
theorem k173:ACall Tryz.prog 44 [v80] [b45,b61,b62,b55,b7,b7,b7,b63] v78 [b45,b61,b62,b55,b7,b7,b7,b63,b63,b38,b53,b54,b55,b7,b7,b7] []:=memo_of Tryz.mixed (ht:=withMemoC cloH []) 300 (by kernel_rfl)
noncomputable def e173:Memo Tryz.prog:=⟨_,_,_,_,_,_,k173⟩
theorem k198:ACall Tryz.prog 168 [v44,v45,v88,v90] [b73,b30,b4] v37 [b73,.box 30 [.s (.int .i64 181)],b4] []:=memo_of Tryz.mixed (ht:=withMemoC cloH []) 300 (by kernel_rfl)
noncomputable def e198:Memo Tryz.prog:=⟨_,_,_,_,_,_,k198⟩
theorem k202:ACall Tryz.prog 125 [v75,v24] m57 v37 m57 []:=memo_of Tryz.mixed (ht:=withMemoC cloH []) 300 (by kernel_rfl)
noncomputable def e202:Memo Tryz.prog:=⟨_,_,_,_,_,_,k202⟩
theorem k213:ACall Tryz.prog 210 [v13,.agg [v25,v52,v30,v29],v31] [b1] v62 [b1] []:=memo_of Tryz.mixed (ht:=withMemoC cloH []) 300 (by kernel_rfl)
noncomputable def e213:Memo Tryz.prog:=⟨_,_,_,_,_,_,k213⟩
theorem k216:ACall Tryz.prog 44 [v80] [b45,b61,b62,b55,b7,b7,b7,b65] v78 [b45,b61,b62,b55,b7,b7,b7,b65,b65,b38,b53,b54,b55,b7,b7,b7] []:=memo_of Tryz.mixed (ht:=withMemoC cloH []) 300 (by kernel_rfl)
noncomputable def e216:Memo Tryz.prog:=⟨_,_,_,_,_,_,k216⟩
theorem k221:ACall Tryz.prog 51 [v0] [b65] v37 [b65] []:=memo_of Tryz.mixed (ht:=withMemoC cloH []) 300 (by kernel_rfl)
noncomputable def e221:Memo Tryz.prog:=⟨_,_,_,_,_,_,k221⟩
theorem k224:ACall Tryz.prog 128 [v75,v32] m62 v27 m62 []:=memo_of Tryz.mixed (ht:=withMemoC cloH []) 300 (by kernel_rfl)
noncomputable def e224:Memo Tryz.prog:=⟨_,_,_,_,_,_,k224⟩
theorem k226:ACall Tryz.prog 125 [v75,v8] m62 v37 m62 []:=memo_of Tryz.mixed (ht:=withMemoC cloH []) 300 (by kernel_rfl)
noncomputable def e226:Memo Tryz.prog:=⟨_,_,_,_,_,_,k226⟩
theorem k231:ACall Tryz.prog 106 [v0,v25,v54] [b65] v61 [b65] []:=memo_of Tryz.mixed (ht:=withMemoC cloH []) 300 (by kernel_rfl)
noncomputable def e231:Memo Tryz.prog:=⟨_,_,_,_,_,_,k231⟩
theorem k232:ACall Tryz.prog 208 [v3,v57] [.box 93 [v25,v54,v30,v29],b65] v12 [.box 93 [v25,v54,v30,v29],b0] []:=memo_of Tryz.mixed (ht:=withMemoC cloH []) 300 (by kernel_rfl)
noncomputable def e232:Memo Tryz.prog:=⟨_,_,_,_,_,_,k232⟩
theorem k243:ACall Tryz.prog 125 [v75,v24] m63 v37 m63 []:=memo_of Tryz.mixed (ht:=withMemoC cloH []) 300 (by kernel_rfl)
noncomputable def e243:Memo Tryz.prog:=⟨_,_,_,_,_,_,k243⟩
theorem k257:ACall Tryz.prog 44 [v80] [b45,b61,b62,b55,b7,b7,b7,b67] v78 [b45,b61,b62,b55,b7,b7,b7,b67,b67,b38,b53,b54,b55,b7,b7,b7] []:=memo_of Tryz.mixed (ht:=withMemoC cloH []) 300 (by kernel_rfl)
noncomputable def e257:Memo Tryz.prog:=⟨_,_,_,_,_,_,k257⟩
theorem k275:ACall Tryz.prog 168 [v44,v45,v88,v90] [b77,b30,b4] v37 [b77,.box 30 [.s (.int .i64 187)],b4] []:=memo_of Tryz.mixed (ht:=withMemoC cloH []) 300 (by kernel_rfl)
noncomputable def e275:Memo Tryz.prog:=⟨_,_,_,_,_,_,k275⟩
theorem k3:ACall Tryz.prog 210 [v26,.agg [v25,v25,v30,v29],v31] [] v62 [] []:=memo_of Tryz.mixed (ht:=withMemoC cloH []) 300 (by kernel_rfl)
noncomputable def e3:Memo Tryz.prog:=⟨_,_,_,_,_,_,k3⟩
theorem k17:ACall Tryz.prog 51 [v0] [b5] v37 [b5] []:=memo_of Tryz.mixed (ht:=withMemoC cloH []) 300 (by kernel_rfl)
noncomputable def e17:Memo Tryz.prog:=⟨_,_,_,_,_,_,k17⟩
theorem k23:ACall Tryz.prog 44 [v64] m0 (.agg [v38,v25,.own 4 4 0 1,.own 5 2 0 1,v26]) [b5,b10,b11,b7,b5,b9,.lst 43 7 1 none [v25,v33,v33,v25,v7,v26,v29],b7] []:=memo_of Tryz.mixed (ht:=withMemoC cloH []) 300 (by kernel_rfl)
noncomputable def e23:Memo Tryz.prog:=⟨_,_,_,_,_,_,k23⟩
theorem k24:ACall Tryz.prog 106 [v0,v25,v38] [b5] v61 [b5] []:=memo_of Tryz.mixed (ht:=withMemoC cloH []) 300 (by kernel_rfl)
noncomputable def e24:Memo Tryz.prog:=⟨_,_,_,_,_,_,k24⟩
theorem k25:ACall Tryz.prog 208 [v3,v57] [.box 93 [v25,v38,v30,v29],b5] v12 [.box 93 [v25,v38,v30,v29],b0] []:=memo_of Tryz.mixed (ht:=withMemoC cloH []) 300 (by kernel_rfl)
noncomputable def e25:Memo Tryz.prog:=⟨_,_,_,_,_,_,k25⟩
theorem k26:ACall Tryz.prog 210 [v13,.agg [v25,v38,v30,v29],v31] [b1] v62 [b1] []:=memo_of Tryz.mixed (ht:=withMemoC cloH []) 300 (by kernel_rfl)
noncomputable def e26:Memo Tryz.prog:=⟨_,_,_,_,_,_,k26⟩
theorem k37:ACall Tryz.prog 125 [v67,.own 7 1 0 1] m4 v37 m4 []:=memo_of Tryz.mixed (ht:=withMemoC cloH []) 300 (by kernel_rfl)
noncomputable def e37:Memo Tryz.prog:=⟨_,_,_,_,_,_,k37⟩
theorem k48:ACall Tryz.prog 44 [v67] m6 v69 [b13,b8,b19,b20,b17,b7,b7,b13,b24,.lst 68 11 1 none [v25,v28,v32,v25,v29,v39,.own 11 1 0 2,v19,v27,v27,v27],b25,b26,b7,b7] []:=memo_of Tryz.mixed (ht:=withMemoC cloH []) 300 (by kernel_rfl)
noncomputable def e48:Memo Tryz.prog:=⟨_,_,_,_,_,_,k48⟩
theorem k62:ACall Tryz.prog 44 [v67] m13 v69 [b13,b8,b27,b20,b26,b7,b7,b13,b24,.lst 68 11 1 none [v25,v28,v32,v25,v29,v39,.own 11 1 0 2,v19,v27,v27,v28],b25,b26,b7,b7] []:=memo_of Tryz.mixed (ht:=withMemoC cloH []) 300 (by kernel_rfl)
noncomputable def e62:Memo Tryz.prog:=⟨_,_,_,_,_,_,k62⟩
theorem k66:ACall Tryz.prog 127 [v68,.agg [v25,v28,v32,v25,v29,v39,v17,v14,v27,v27,v34]] m11 v8 m12 []:=memo_of Tryz.mixed (ht:=withMemoC cloH []) 300 (by kernel_rfl)
noncomputable def e66:Memo Tryz.prog:=⟨_,_,_,_,_,_,k66⟩
theorem k67:ACall Tryz.prog 128 [v67,v32] m17 v28 m17 []:=memo_of Tryz.mixed (ht:=withMemoC cloH []) 300 (by kernel_rfl)
noncomputable def e67:Memo Tryz.prog:=⟨_,_,_,_,_,_,k67⟩
theorem k75:ACall Tryz.prog 48 [v18,.agg [v42,v25,v43,v33,v26,v29,v29,v33,v27,v27,v25,v27]] m15 v2 m15 []:=memo_of Tryz.mixed (ht:=withMemoC cloH []) 300 (by kernel_rfl)
noncomputable def e75:Memo Tryz.prog:=⟨_,_,_,_,_,_,k75⟩
theorem k85:ACall Tryz.prog 125 [v67,v24] m19 v37 m19 []:=memo_of Tryz.mixed (ht:=withMemoC cloH []) 300 (by kernel_rfl)
noncomputable def e85:Memo Tryz.prog:=⟨_,_,_,_,_,_,k85⟩
theorem k91:ACall Tryz.prog 183 [v16,.fn (.func 181) [] [v21]] m24 v58 m24 []:=memo_of Tryz.mixed (ht:=withMemoC cloH []) 300 (by kernel_rfl)
noncomputable def e91:Memo Tryz.prog:=⟨_,_,_,_,_,_,k91⟩
theorem k93:ACall Tryz.prog 127 [v71,.agg [v25,v28,v32,v25,v29,v39,v17,v14,v27,v27,v35]] m25 v26 m25 []:=memo_of Tryz.mixed (ht:=withMemoC cloH []) 300 (by kernel_rfl)
noncomputable def e93:Memo Tryz.prog:=⟨_,_,_,_,_,_,k93⟩
theorem k109:ACall Tryz.prog 125 [v72,.own 6 1 0 1] m33 v37 m33 []:=memo_of Tryz.mixed (ht:=withMemoC cloH []) 300 (by kernel_rfl)
noncomputable def e109:Memo Tryz.prog:=⟨_,_,_,_,_,_,k109⟩
theorem k118:ACall Tryz.prog 208 [v3,v57] [.box 93 [v25,v47,v30,v29],b13] v12 [.box 93 [v25,v47,v30,v29],b0] []:=memo_of Tryz.mixed (ht:=withMemoC cloH []) 300 (by kernel_rfl)
noncomputable def e118:Memo Tryz.prog:=⟨_,_,_,_,_,_,k118⟩
theorem k123:ACall Tryz.prog 41 [v22,v59] m35 v28 m35 []:=memo_of Tryz.mixed (ht:=withMemoC cloH []) 300 (by kernel_rfl)
noncomputable def e123:Memo Tryz.prog:=⟨_,_,_,_,_,_,k123⟩
theorem k133:ACall Tryz.prog 125 [v75,v24] m40 v37 m40 []:=memo_of Tryz.mixed (ht:=withMemoC cloH []) 300 (by kernel_rfl)
noncomputable def e133:Memo Tryz.prog:=⟨_,_,_,_,_,_,k133⟩
theorem k149:ACall Tryz.prog 44 [v80] [b45,b61,b62,b55,b7,b7,b7,b56] v78 [b45,b61,b62,b55,b7,b7,b7,b56,b56,b38,b53,b54,b55,b7,b7,b7] []:=memo_of Tryz.mixed (ht:=withMemoC cloH []) 300 (by kernel_rfl)
noncomputable def e149:Memo Tryz.prog:=⟨_,_,_,_,_,_,k149⟩
theorem k152:ACall Tryz.prog 168 [v44,v45,v88,v90] [b71,b30,b4] v37 [b71,.box 30 [.s (.int .i64 184)],b4] []:=memo_of Tryz.mixed (ht:=withMemoC cloH []) 300 (by kernel_rfl)
noncomputable def e152:Memo Tryz.prog:=⟨_,_,_,_,_,_,k152⟩
theorem k180:ACall Tryz.prog 51 [v0] [b63] v37 [b63] []:=memo_of Tryz.mixed (ht:=withMemoC cloH []) 300 (by kernel_rfl)
noncomputable def e180:Memo Tryz.prog:=⟨_,_,_,_,_,_,k180⟩
theorem k182:ACall Tryz.prog 125 [v75,v24] m55 v37 m55 []:=memo_of Tryz.mixed (ht:=withMemoC cloH []) 300 (by kernel_rfl)
noncomputable def e182:Memo Tryz.prog:=⟨_,_,_,_,_,_,k182⟩
theorem k189:ACall Tryz.prog 44 [v75] m56 v78 [b63,b32,b48,b49,b55,b7,b7,b7,b63,b38,b53,b54,b55,b7,b7,b7] []:=memo_of Tryz.mixed (ht:=withMemoC cloH []) 300 (by kernel_rfl)
noncomputable def e189:Memo Tryz.prog:=⟨_,_,_,_,_,_,k189⟩
theorem k190:ACall Tryz.prog 106 [v0,v25,v50] [b63] v61 [b63] []:=memo_of Tryz.mixed (ht:=withMemoC cloH []) 300 (by kernel_rfl)
noncomputable def e190:Memo Tryz.prog:=⟨_,_,_,_,_,_,k190⟩
theorem k192:ACall Tryz.prog 210 [v13,.agg [v25,v50,v30,v29],v31] [b1] v62 [b1] []:=memo_of Tryz.mixed (ht:=withMemoC cloH []) 300 (by kernel_rfl)
noncomputable def e192:Memo Tryz.prog:=⟨_,_,_,_,_,_,k192⟩
theorem k204:ACall Tryz.prog 128 [v75,v32] m59 v27 m59 []:=memo_of Tryz.mixed (ht:=withMemoC cloH []) 300 (by kernel_rfl)
noncomputable def e204:Memo Tryz.prog:=⟨_,_,_,_,_,_,k204⟩
theorem k206:ACall Tryz.prog 125 [v75,v8] m59 v37 m59 []:=memo_of Tryz.mixed (ht:=withMemoC cloH []) 300 (by kernel_rfl)
noncomputable def e206:Memo Tryz.prog:=⟨_,_,_,_,_,_,k206⟩
theorem k212:ACall Tryz.prog 208 [v3,v57] [.box 93 [v25,v52,v30,v29],b64] v12 [.box 93 [v25,v52,v30,v29],b0] []:=memo_of Tryz.mixed (ht:=withMemoC cloH []) 300 (by kernel_rfl)
noncomputable def e212:Memo Tryz.prog:=⟨_,_,_,_,_,_,k212⟩
theorem k223:ACall Tryz.prog 125 [v75,v24] m61 v37 m61 []:=memo_of Tryz.mixed (ht:=withMemoC cloH []) 300 (by kernel_rfl)
noncomputable def e223:Memo Tryz.prog:=⟨_,_,_,_,_,_,k223⟩
theorem k230:ACall Tryz.prog 44 [v75] m62 v78 [b65,b32,b48,b49,b55,b7,b7,b7,b65,b38,b53,b54,b55,b7,b7,b7] []:=memo_of Tryz.mixed (ht:=withMemoC cloH []) 300 (by kernel_rfl)
noncomputable def e230:Memo Tryz.prog:=⟨_,_,_,_,_,_,k230⟩
theorem k239:ACall Tryz.prog 168 [v44,v45,v88,v90] [b75,b30,b4] v37 [b75,.box 30 [.s (.int .i64 185)],b4] []:=memo_of Tryz.mixed (ht:=withMemoC cloH []) 300 (by kernel_rfl)
noncomputable def e239:Memo Tryz.prog:=⟨_,_,_,_,_,_,k239⟩
theorem k258:ACall Tryz.prog 119 [v21,v87] m66 v81 m67 []:=memo_of Tryz.mixed (ht:=withMemoC cloH []) 300 (by kernel_rfl)
noncomputable def e258:Memo Tryz.prog:=⟨_,_,_,_,_,_,k258⟩
theorem k263:ACall Tryz.prog 51 [v0] [b67] v37 [b67] []:=memo_of Tryz.mixed (ht:=withMemoC cloH []) 300 (by kernel_rfl)
noncomputable def e263:Memo Tryz.prog:=⟨_,_,_,_,_,_,k263⟩
theorem k265:ACall Tryz.prog 125 [v75,v24] m69 v37 m69 []:=memo_of Tryz.mixed (ht:=withMemoC cloH []) 300 (by kernel_rfl)
noncomputable def e265:Memo Tryz.prog:=⟨_,_,_,_,_,_,k265⟩
theorem k272:ACall Tryz.prog 44 [v75] m70 v78 m71 []:=memo_of Tryz.mixed (ht:=withMemoC cloH []) 300 (by kernel_rfl)
noncomputable def e272:Memo Tryz.prog:=⟨_,_,_,_,_,_,k272⟩
theorem k273:ACall Tryz.prog 106 [v0,v25,.s (.int .u64 18)] [b67] v61 [b67] []:=memo_of Tryz.mixed (ht:=withMemoC cloH []) 300 (by kernel_rfl)
noncomputable def e273:Memo Tryz.prog:=⟨_,_,_,_,_,_,k273⟩
theorem k281:ACall Tryz.prog 25 [.agg [v33,v39],v39] [] v30 [] []:=memo_of Tryz.mixed (ht:=withMemoC cloH []) 300 (by kernel_rfl)
noncomputable def e281:Memo Tryz.prog:=⟨_,_,_,_,_,_,k281⟩
theorem k291:ACall Tryz.prog 16 [.agg [v29,v29,v26,v26,v26]] [] (.s (.int .i64 188)) [] []:=memo_of Tryz.mixed (ht:=withMemoC cloH []) 300 (by kernel_rfl)
noncomputable def e291:Memo Tryz.prog:=⟨_,_,_,_,_,_,k291⟩
def vcK81 (u:Unit):Prop :=
 (2:Nat)<=(9223372036854775807:Nat)/\(208:Nat)<=(140737488355328:Nat)/\(false=true->False)/\(false=false->((0:Nat)=(0:Nat)/\(2:Nat)=(2:Nat))/\((2:Int)=(2:Int)/\{ data:=#[]:ByteArray }={ data:=#[]:ByteArray }/\{ data:=#[(109:UInt8)]:ByteArray }={ data:=#[(109:UInt8)]:ByteArray }/\(2:Int)=(2:Int)/\((0:Nat)=(0:Nat)/\(3:Nat)=(3:Nat))/\True/\(0:Int)=(0:Int)/\(3:Int)=(3:Int)/\{ data:=#[(109:UInt8)]:ByteArray }={ data:=#[(109:UInt8)]:ByteArray }/\{ data:=#[]:ByteArray }={ data:=#[]:ByteArray }/\(2:Int)=(2:Int)/\((0:Nat)=(0:Nat)/\(3:Nat)=(3:Nat))/\True/\(0:Int)=(0:Int)/\True)/\((1:Int)=(1:Int)/\(2:Int)=(2:Int)/\(3:Int)=(3:Int)/\True)/\((1:Int)=(1:Int)/\(2:Int)=(2:Int)/\(3:Int)=(3:Int)/\True)/\((1:Int)=(1:Int)/\(2:Int)=(2:Int)/\(3:Int)=(3:Int)/\True)/\((2:Int)=(2:Int)/\{ data:=#[]:ByteArray }={ data:=#[]:ByteArray }/\{ data:=#[(109:UInt8)]:ByteArray }={ data:=#[(109:UInt8)]:ByteArray }/\(2:Int)=(2:Int)/\((0:Nat)=(0:Nat)/\(3:Nat)=(3:Nat))/\True/\(0:Int)=(0:Int)/\(3:Int)=(3:Int)/\{ data:=#[(109:UInt8)]:ByteArray }={ data:=#[(109:UInt8)]:ByteArray }/\{ data:=#[]:ByteArray }={ data:=#[]:ByteArray }/\(2:Int)=(2:Int)/\((0:Nat)=(0:Nat)/\(3:Nat)=(3:Nat))/\True/\(0:Int)=(0:Int)/\True)/\True)
theorem vcK81_eq (u:Unit):(ctrVCg Tryz.prog (withMemoC cloH []) 176 [.own 0 7 0 1,v27,v28,.own 4 7 0 2] [.lst 43 7 1 none [v25,v33,v33,v25,.own 1 1 0 3,v26,v25],b7,b7,b7,.lst 43 7 2 (some 2) [v38,v33,v39,v38,v14,v26,v29,v40,v39,v33,v38,v10,v26,v29]] (.ret (v22,[.lst 43 7 2 none [v38,v33,v39,v38,v14,v26,v29,v40,v39,v33,v38,v10,v26,v29],b7,b7,b7,.lst 43 7 2 (some 2) [v38,v33,v39,v38,v14,v26,v29,v40,v39,v33,v38,v10,v26,v29]],[0])))=vcK81 u:=by kernel_rfl
theorem k81:ACall Tryz.prog 176 [.own 0 7 0 1,v27,v28,.own 4 7 0 2] [.lst 43 7 1 none [v25,v33,v33,v25,.own 1 1 0 3,v26,v25],b7,b7,b7,.lst 43 7 2 (some 2) [v38,v33,v39,v38,v14,v26,v29,v40,v39,v33,v38,v10,v26,v29]] v22 [.lst 43 7 2 none [v38,v33,v39,v38,v14,v26,v29,v40,v39,v33,v38,v10,v26,v29],b7,b7,b7,.lst 43 7 2 (some 2) [v38,v33,v39,v38,v14,v26,v29,v40,v39,v33,v38,v10,v26,v29]] [0]:=by
 obtain ⟨a,ha,q⟩:=ctr_vcg (t:=.ret (v22,[.lst 43 7 2 none [v38,v33,v39,v38,v14,v26,v29,v40,v39,v33,v38,v10,v26,v29],b7,b7,b7,.lst 43 7 2 (some 2) [v38,v33,v39,v38,v14,v26,v29,v40,v39,v33,v38,v10,v26,v29]],[0])) (ht:=withMemoC cloH []) Tryz.mixed rfl (by rw [vcK81_eq ()];unfold vcK81;simp) (fun a=>a=(v22,[.lst 43 7 2 none [v38,v33,v39,v38,v14,v26,v29,v40,v39,v33,v38,v10,v26,v29],b7,b7,b7,.lst 43 7 2 (some 2) [v38,v33,v39,v38,v14,v26,v29,v40,v39,v33,v38,v10,v26,v29]],[0])) rfl
 subst q
 exact ha
noncomputable def e81:Memo Tryz.prog:=⟨_,_,_,_,_,_,k81⟩
def vcK98 (u:Unit):Prop :=
 (0:Int)<=(0:Int)/\(0:Int)<=(1:Int)/\(1:Int)<=(1:Int)/\(1:Int)<=(1:Int)/\(0:Int)<=(0:Int)/\(0:Int)<=(1:Int)/\(1:Int)<=(1:Int)/\((0:Nat)=(0:Nat)/\(0:Nat)=(0:Nat))/\True/\((2:Int)=(2:Int)/\(3:Int)=(3:Int)/\True)/\((1:Int)=(1:Int)/\(2:Int)=(2:Int)/\(3:Int)=(3:Int)/\True)/\True
theorem vcK98_eq (u:Unit):(ctrVCg Tryz.prog (withMemoC cloH []) 118 [.own 0 11 0 1,v27,v28] [.lst 68 11 1 none [v25,v28,v32,v25,v29,v39,v17,v14,v27,v27,v46],b26,b7] (.ret ((.own 0 11 0 0),[b2,b26,b7],[])))=vcK98 u:=by kernel_rfl
theorem k98:ACall Tryz.prog 118 [.own 0 11 0 1,v27,v28] [.lst 68 11 1 none [v25,v28,v32,v25,v29,v39,v17,v14,v27,v27,v46],b26,b7] (.own 0 11 0 0) [b2,b26,b7] []:=by
 obtain ⟨a,ha,q⟩:=ctr_vcg (t:=.ret ((.own 0 11 0 0),[b2,b26,b7],[])) (ht:=withMemoC cloH []) Tryz.mixed rfl (by rw [vcK98_eq ()];unfold vcK98;simp) (fun a=>a=((.own 0 11 0 0),[b2,b26,b7],[])) rfl
 subst q
 exact ha
noncomputable def e98:Memo Tryz.prog:=⟨_,_,_,_,_,_,k98⟩
end
end Go.Proofs.YtffkiommagljeaaGreatDoor
