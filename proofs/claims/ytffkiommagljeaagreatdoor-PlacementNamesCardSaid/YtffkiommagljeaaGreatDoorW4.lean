import Derived.Test.YtffkiommagljeaaGreatDoorW2
import Derived.Test.YtffkiommagljeaaGreatDoorW3
set_option linter.unusedVariables false
set_option linter.unusedSimpArgs false
set_option maxRecDepth 1000000
namespace Go.Proofs.YtffkiommagljeaaGreatDoor
open Go.Ax
section
theorem k15:ACall Tryz.prog 14 [v64,v32,.s (.string ⟨#[107]⟩)] m0 (.tup [.agg [v25,v33,v33,v25,v5,v26,v29],v37]) [b5,b10,b11,b7,b7] []:=memo_of Tryz.mixed (ht:=withMemoC cloH [e14]) 300 (by kernel_rfl)
noncomputable def e15:Memo Tryz.prog:=⟨_,_,_,_,_,_,k15⟩
theorem k32:ACall Tryz.prog 175 [.agg [v33,v33],v39] [] (.tup [.agg [v33,v39],.agg [v39,v33],v27]) [] []:=memo_of Tryz.mixed (ht:=withMemoC cloH [e31]) 300 (by kernel_rfl)
noncomputable def e32:Memo Tryz.prog:=⟨_,_,_,_,_,_,k32⟩
theorem k99:ACall Tryz.prog 48 [v21,.agg [v42,v25,.s (.int .u64 8),v33,v26,v29,v29,v33,v27,v27,v25,v35]] m24 v2 [b13,b32,b2,b34,b26,b7,b7,b7,b39] []:=memo_of Tryz.mixed (ht:=withMemoC cloH [e98]) 300 (by kernel_rfl)
noncomputable def e99:Memo Tryz.prog:=⟨_,_,_,_,_,_,k99⟩
theorem k115:ACall Tryz.prog 109 [v44,v45] [b70,b30] v37 [b70,.box 30 [.s (.int .i64 191)]] []:=memo_of Tryz.mixed (ht:=withMemoC cloH [e114]) 300 (by kernel_rfl)
noncomputable def e115:Memo Tryz.prog:=⟨_,_,_,_,_,_,k115⟩
theorem k120:ACall Tryz.prog 164 [v0,.agg [v25,v47,v30,v29]] [b13] v65 [b13,b43] []:=memo_of Tryz.mixed (ht:=withMemoC cloH [e117,e36,e118,e119]) 300 (by kernel_rfl)
noncomputable def e120:Memo Tryz.prog:=⟨_,_,_,_,_,_,k120⟩
theorem k162:ACall Tryz.prog 129 [v75,v77] m49 v37 m49 []:=memo_of Tryz.mixed (ht:=withMemoC cloH [e19,e156,e161,e158]) 300 (by kernel_rfl)
noncomputable def e162:Memo Tryz.prog:=⟨_,_,_,_,_,_,k162⟩
theorem k214:ACall Tryz.prog 164 [v0,.agg [v25,v52,v30,v29]] [b64] v65 [b64,b65] []:=memo_of Tryz.mixed (ht:=withMemoC cloH [e211,e201,e212,e213]) 300 (by kernel_rfl)
noncomputable def e214:Memo Tryz.prog:=⟨_,_,_,_,_,_,k214⟩
theorem k219:ACall Tryz.prog 109 [v44,v45] [b74,b30] v37 [b74,.box 30 [v53]] []:=memo_of Tryz.mixed (ht:=withMemoC cloH [e218]) 300 (by kernel_rfl)
noncomputable def e219:Memo Tryz.prog:=⟨_,_,_,_,_,_,k219⟩
theorem k237:ACall Tryz.prog 169 [v55,v36] [] v33 [] []:=memo_of Tryz.mixed (ht:=withMemoC cloH [e8]) 300 (by kernel_rfl)
noncomputable def e237:Memo Tryz.prog:=⟨_,_,_,_,_,_,k237⟩
theorem k248:ACall Tryz.prog 129 [v75,v77] m65 v37 m65 []:=memo_of Tryz.mixed (ht:=withMemoC cloH [e19,e243,e247,e244]) 300 (by kernel_rfl)
noncomputable def e248:Memo Tryz.prog:=⟨_,_,_,_,_,_,k248⟩
theorem k283:ACall Tryz.prog 41 [v22,.fn (.func 42) [] [.ptr 3 0 0 0]] m73 v28 m73 []:=memo_of Tryz.mixed (ht:=withMemoC cloH [e281,e282]) 300 (by kernel_rfl)
noncomputable def e283:Memo Tryz.prog:=⟨_,_,_,_,_,_,k283⟩
theorem k289:ACall Tryz.prog 109 [v44,v45] [b78,b30] v37 [b78,.box 30 [.s (.int .i64 189)]] []:=memo_of Tryz.mixed (ht:=withMemoC cloH [e288]) 300 (by kernel_rfl)
noncomputable def e289:Memo Tryz.prog:=⟨_,_,_,_,_,_,k289⟩
theorem k9:ACall Tryz.prog 169 [v32,v36] [] v33 [] []:=memo_of Tryz.mixed (ht:=withMemoC cloH [e8]) 300 (by kernel_rfl)
noncomputable def e9:Memo Tryz.prog:=⟨_,_,_,_,_,_,k9⟩
theorem k27:ACall Tryz.prog 164 [v0,.agg [v25,v38,v30,v29]] [b5] v65 [b5,b13] []:=memo_of Tryz.mixed (ht:=withMemoC cloH [e24,e17,e25,e26]) 300 (by kernel_rfl)
noncomputable def e27:Memo Tryz.prog:=⟨_,_,_,_,_,_,k27⟩
theorem k94:ACall Tryz.prog 130 [v71,.agg [v25,v28,v32,v25,v29,v39,v17,v14,v27,v27,v35]] m25 v37 m25 []:=memo_of Tryz.mixed (ht:=withMemoC cloH [e93]) 300 (by kernel_rfl)
noncomputable def e94:Memo Tryz.prog:=⟨_,_,_,_,_,_,k94⟩
theorem k126:ACall Tryz.prog 120 [.ptr 6 0 0 0,v74,.ptr 1 0 2 0,.ptr 3 0 7 0,.ptr 3 1 7 0] m36 (.tup [.agg [v29,v34,v32,v38,v40,v33,.own 7 1 0 1,v23,v27,v27,v27],v2]) [b43,b32,b3,b40,b7,b7,b39,b46,b7] []:=memo_of Tryz.mixed (ht:=withMemoC cloH [e125]) 300 (by kernel_rfl)
noncomputable def e126:Memo Tryz.prog:=⟨_,_,_,_,_,_,k126⟩
theorem k137:ACall Tryz.prog 129 [v75,v77] m41 v37 m41 []:=memo_of Tryz.mixed (ht:=withMemoC cloH [e19,e130,e136,e133]) 300 (by kernel_rfl)
noncomputable def e137:Memo Tryz.prog:=⟨_,_,_,_,_,_,k137⟩
theorem k140:ACall Tryz.prog 132 [v71,.ptr 5 0 0 0] m43 v30 m43 []:=memo_of Tryz.mixed (ht:=withMemoC cloH [e139]) 300 (by kernel_rfl)
noncomputable def e140:Memo Tryz.prog:=⟨_,_,_,_,_,_,k140⟩
theorem k157:ACall Tryz.prog 127 [v71,v76] m47 (.own 5 1 0 2) [b51,b55,b7,b7,b7,.lst 3 1 2 (some 2) [v27,v28]] []:=memo_of Tryz.mixed (ht:=withMemoC cloH [e131]) 300 (by kernel_rfl)
noncomputable def e157:Memo Tryz.prog:=⟨_,_,_,_,_,_,k157⟩
theorem k175:ACall Tryz.prog 119 [v21,v83] m52 v81 m53 []:=memo_of Tryz.mixed (ht:=withMemoC cloH [e174]) 300 (by kernel_rfl)
noncomputable def e175:Memo Tryz.prog:=⟨_,_,_,_,_,_,k175⟩
theorem k178:ACall Tryz.prog 109 [v44,v45] [b72,b30] v37 [b72,.box 30 [.s (.int .i64 183)]] []:=memo_of Tryz.mixed (ht:=withMemoC cloH [e177]) 300 (by kernel_rfl)
noncomputable def e178:Memo Tryz.prog:=⟨_,_,_,_,_,_,k178⟩
theorem k193:ACall Tryz.prog 164 [v0,.agg [v25,v50,v30,v29]] [b63] v65 [b63,b64] []:=memo_of Tryz.mixed (ht:=withMemoC cloH [e190,e180,e191,e192]) 300 (by kernel_rfl)
noncomputable def e193:Memo Tryz.prog:=⟨_,_,_,_,_,_,k193⟩
theorem k227:ACall Tryz.prog 129 [v75,v77] m62 v37 m62 []:=memo_of Tryz.mixed (ht:=withMemoC cloH [e19,e222,e226,e223]) 300 (by kernel_rfl)
noncomputable def e227:Memo Tryz.prog:=⟨_,_,_,_,_,_,k227⟩
theorem k261:ACall Tryz.prog 109 [v44,v45] [b76,b30] v37 [b76,.box 30 [v53]] []:=memo_of Tryz.mixed (ht:=withMemoC cloH [e260]) 300 (by kernel_rfl)
noncomputable def e261:Memo Tryz.prog:=⟨_,_,_,_,_,_,k261⟩
theorem k280:ACall Tryz.prog 14 [v75,v32,.s (.string ⟨#[97]⟩)] m70 (.tup [.agg [v38,v33,v39,v38,v23,v26,v38],v37]) m72 []:=memo_of Tryz.mixed (ht:=withMemoC cloH [e279]) 300 (by kernel_rfl)
noncomputable def e280:Memo Tryz.prog:=⟨_,_,_,_,_,_,k280⟩
theorem k70:ACall Tryz.prog 129 [v67,.agg [v25,v28,v32,v25,v29,v39,v16,v4,v27,v27,v34]] m17 v37 m17 []:=memo_of Tryz.mixed (ht:=withMemoC cloH [e19,e65,e69]) 300 (by kernel_rfl)
noncomputable def e70:Memo Tryz.prog:=⟨_,_,_,_,_,_,k70⟩
theorem k79:ACall Tryz.prog 109 [v44,v45] [b69,b30] v37 [b69,.box 30 [.s (.int .i64 186)]] []:=memo_of Tryz.mixed (ht:=withMemoC cloH [e78]) 300 (by kernel_rfl)
noncomputable def e79:Memo Tryz.prog:=⟨_,_,_,_,_,_,k79⟩
theorem k92:ACall Tryz.prog 129 [v67,.agg [v25,v28,v32,v25,v29,v39,v16,v4,v27,v27,v35]] m22 v37 m22 []:=memo_of Tryz.mixed (ht:=withMemoC cloH [e19,e90,e91]) 300 (by kernel_rfl)
noncomputable def e92:Memo Tryz.prog:=⟨_,_,_,_,_,_,k92⟩
theorem k124:ACall Tryz.prog 119 [.ptr 6 0 0 0,v74] m36 (.tup [.ptr 1 0 2 0,.ptr 3 0 7 0,.ptr 3 1 7 0,v2]) m36 []:=memo_of Tryz.mixed (ht:=withMemoC cloH [e123]) 300 (by kernel_rfl)
noncomputable def e124:Memo Tryz.prog:=⟨_,_,_,_,_,_,k124⟩
theorem k147:ACall Tryz.prog 164 [v0,.agg [v25,v48,v30,v29]] [b43] v65 [b43,b56] []:=memo_of Tryz.mixed (ht:=withMemoC cloH [e144,e129,e145,e146]) 300 (by kernel_rfl)
noncomputable def e147:Memo Tryz.prog:=⟨_,_,_,_,_,_,k147⟩
theorem k151:ACall Tryz.prog 49 [v21,v79] m44 v82 m45 []:=memo_of Tryz.mixed (ht:=withMemoC cloH [e150]) 300 (by kernel_rfl)
noncomputable def e151:Memo Tryz.prog:=⟨_,_,_,_,_,_,k151⟩
theorem k164:ACall Tryz.prog 132 [v71,.ptr 5 0 0 0] m50 v30 m50 []:=memo_of Tryz.mixed (ht:=withMemoC cloH [e139]) 300 (by kernel_rfl)
noncomputable def e164:Memo Tryz.prog:=⟨_,_,_,_,_,_,k164⟩
theorem k199:ACall Tryz.prog 109 [v44,v45] [b73,b30] v37 [b73,.box 30 [.s (.int .i64 181)]] []:=memo_of Tryz.mixed (ht:=withMemoC cloH [e198]) 300 (by kernel_rfl)
noncomputable def e199:Memo Tryz.prog:=⟨_,_,_,_,_,_,k199⟩
theorem k207:ACall Tryz.prog 129 [v75,v77] m59 v37 m59 []:=memo_of Tryz.mixed (ht:=withMemoC cloH [e19,e202,e206,e203]) 300 (by kernel_rfl)
noncomputable def e207:Memo Tryz.prog:=⟨_,_,_,_,_,_,k207⟩
theorem k234:ACall Tryz.prog 164 [v0,.agg [v25,v54,v30,v29]] [b65] v65 [b65,b66] []:=memo_of Tryz.mixed (ht:=withMemoC cloH [e231,e221,e232,e233]) 300 (by kernel_rfl)
noncomputable def e234:Memo Tryz.prog:=⟨_,_,_,_,_,_,k234⟩
theorem k274:ACall Tryz.prog 45 [v11,.agg [.s (.int .i64 6),v25,.s (.int .u64 18),v33,v26,v29,v29,v33,v27,v27,v29,v27]] [b57,b67,b44,b58,b59,b55,b7,b7,b7] (.ifc 195 (.ptr 9 0 0 0)) [b57,b67,b44,b58,b59,b55,b7,b7,b7,b77] []:=memo_of Tryz.mixed (ht:=withMemoC cloH [e273]) 300 (by kernel_rfl)
noncomputable def e274:Memo Tryz.prog:=⟨_,_,_,_,_,_,k274⟩
theorem k276:ACall Tryz.prog 109 [v44,v45] [b77,b30] v37 [b77,.box 30 [.s (.int .i64 187)]] []:=memo_of Tryz.mixed (ht:=withMemoC cloH [e275]) 300 (by kernel_rfl)
noncomputable def e276:Memo Tryz.prog:=⟨_,_,_,_,_,_,k276⟩
theorem k287:ACall Tryz.prog 45 [.ptr 1 0 0 0,.agg [v28,v25,v25,.s (.string ⟨#[110,101,119]⟩),.own 0 1 0 1,v29,v29,v33,v27,v27,v29,v27]] [b68,.box 36 [v43,v40,.own 2 4 0 1,.own 3 2 0 1,.own 4 11 0 1],b67,.lst 58 2 1 none [v32,.own 5 7 0 2],.lst 68 11 1 none [v38,v34,v32,v38,v40,v33,.own 6 1 0 1,v7,v27,v27,v27],.lst 43 7 2 none [v38,v33,v39,v38,v23,v26,v38,v40,v39,v33,v38,.own 9 1 0 3,v26,v38],b55,b7,b7,b7] (.ifc 195 (.ptr 10 0 0 0)) [b68,.box 36 [v43,v40,.own 2 4 0 1,.own 3 2 0 1,.own 4 11 0 1],b67,.lst 58 2 1 none [v32,.own 5 7 0 2],.lst 68 11 1 none [v38,v34,v32,v38,v40,v33,.own 6 1 0 1,v7,v27,v27,v27],.lst 43 7 2 none [v38,v33,v39,v38,v23,v26,v38,v40,v39,v33,v38,.own 9 1 0 3,v26,v38],b55,b7,b7,b7,b78] []:=memo_of Tryz.mixed (ht:=withMemoC cloH [e286]) 300 (by kernel_rfl)
noncomputable def e287:Memo Tryz.prog:=⟨_,_,_,_,_,_,k287⟩
theorem k4:ACall Tryz.prog 189 [v26,.agg [v25,v25,v30,v29]] [] v0 [b5] []:=memo_of Tryz.mixed (ht:=withMemoC cloH [e3]) 300 (by kernel_rfl)
noncomputable def e4:Memo Tryz.prog:=⟨_,_,_,_,_,_,k4⟩
theorem k42:ACall Tryz.prog 129 [v67,.agg [v25,v28,v32,v25,v29,v39,v16,v4,v27,v27,v27]] m6 v37 m6 []:=memo_of Tryz.mixed (ht:=withMemoC cloH [e19,e37,e41]) 300 (by kernel_rfl)
noncomputable def e42:Memo Tryz.prog:=⟨_,_,_,_,_,_,k42⟩
theorem k57:ACall Tryz.prog 129 [v67,.agg [v25,v28,v32,v25,v29,v39,v16,v4,v27,v27,v28]] m13 v37 m13 []:=memo_of Tryz.mixed (ht:=withMemoC cloH [e19,e52,e56]) 300 (by kernel_rfl)
noncomputable def e57:Memo Tryz.prog:=⟨_,_,_,_,_,_,k57⟩
theorem k132:ACall Tryz.prog 127 [v71,v76] m39 (.own 5 1 0 2) [b51,b46,b7,b7,b7,.lst 3 1 2 (some 2) [v27,v28]] []:=memo_of Tryz.mixed (ht:=withMemoC cloH [e131]) 300 (by kernel_rfl)
noncomputable def e132:Memo Tryz.prog:=⟨_,_,_,_,_,_,k132⟩
theorem k153:ACall Tryz.prog 109 [v44,v45] [b71,b30] v37 [b71,.box 30 [.s (.int .i64 184)]] []:=memo_of Tryz.mixed (ht:=withMemoC cloH [e152]) 300 (by kernel_rfl)
noncomputable def e153:Memo Tryz.prog:=⟨_,_,_,_,_,_,k153⟩
theorem k171:ACall Tryz.prog 164 [v0,.agg [v25,v49,v30,v29]] [b56] v65 [b56,b63] []:=memo_of Tryz.mixed (ht:=withMemoC cloH [e168,e155,e169,e170]) 300 (by kernel_rfl)
noncomputable def e171:Memo Tryz.prog:=⟨_,_,_,_,_,_,k171⟩
theorem k186:ACall Tryz.prog 129 [v75,v77] m56 v37 m56 []:=memo_of Tryz.mixed (ht:=withMemoC cloH [e19,e181,e185,e182]) 300 (by kernel_rfl)
noncomputable def e186:Memo Tryz.prog:=⟨_,_,_,_,_,_,k186⟩
theorem k196:ACall Tryz.prog 169 [v51,v36] [] v51 [] []:=memo_of Tryz.mixed (ht:=withMemoC cloH [e8]) 300 (by kernel_rfl)
noncomputable def e196:Memo Tryz.prog:=⟨_,_,_,_,_,_,k196⟩
theorem k240:ACall Tryz.prog 109 [v44,v45] [b75,b30] v37 [b75,.box 30 [.s (.int .i64 185)]] []:=memo_of Tryz.mixed (ht:=withMemoC cloH [e239]) 300 (by kernel_rfl)
noncomputable def e240:Memo Tryz.prog:=⟨_,_,_,_,_,_,k240⟩
theorem k255:ACall Tryz.prog 164 [v0,.agg [v25,v56,v30,v29]] [b66] v65 [b66,b67] []:=memo_of Tryz.mixed (ht:=withMemoC cloH [e252,e242,e253,e254]) 300 (by kernel_rfl)
noncomputable def e255:Memo Tryz.prog:=⟨_,_,_,_,_,_,k255⟩
theorem k259:ACall Tryz.prog 49 [v21,v87] m66 v82 m67 []:=memo_of Tryz.mixed (ht:=withMemoC cloH [e258]) 300 (by kernel_rfl)
noncomputable def e259:Memo Tryz.prog:=⟨_,_,_,_,_,_,k259⟩
theorem k269:ACall Tryz.prog 129 [v75,v77] m70 v37 m70 []:=memo_of Tryz.mixed (ht:=withMemoC cloH [e19,e264,e268,e265]) 300 (by kernel_rfl)
noncomputable def e269:Memo Tryz.prog:=⟨_,_,_,_,_,_,k269⟩
theorem k5:ACall Tryz.prog 164 [v26,.agg [v25,v25,v30,v29]] [] (.tup [v0,v27]) [b5] []:=memo_of Tryz.mixed (ht:=withMemoC cloH [e2,e4]) 300 (by kernel_rfl)
noncomputable def e5:Memo Tryz.prog:=⟨_,_,_,_,_,_,k5⟩
theorem k58:ACall Tryz.prog 130 [v68,.agg [v25,v28,v32,v25,v29,v39,v17,v14,v27,v27,v28]] m11 v37 m11 []:=memo_of Tryz.mixed (ht:=withMemoC cloH [e53,e32,e43]) 300 (by kernel_rfl)
noncomputable def e58:Memo Tryz.prog:=⟨_,_,_,_,_,_,k58⟩
theorem k89:ACall Tryz.prog 53 [v67,v70] m22 v37 m22 [12]:=memo_of Tryz.mixed (ht:=withMemoC cloH [e85,e19,e86,e87,e9,e88]) 300 (by kernel_rfl)
noncomputable def e89:Memo Tryz.prog:=⟨_,_,_,_,_,_,k89⟩
theorem k121:ACall Tryz.prog 45 [v11,v74] [.box 36 [v41,v38,v3,v6,.own 3 11 0 0],b13,b44,b3,b31,b7,b7] v2 [.box 36 [v41,v38,.own 7 4 0 1,v6,.own 3 11 0 0],b13,b44,b3,b31,b7,b7,b43] []:=memo_of Tryz.mixed (ht:=withMemoC cloH [e117,e120]) 300 (by kernel_rfl)
noncomputable def e121:Memo Tryz.prog:=⟨_,_,_,_,_,_,k121⟩
theorem k135:ACall Tryz.prog 53 [v75,v70] m41 v37 m41 [12]:=memo_of Tryz.mixed (ht:=withMemoC cloH [e130,e19,e132,e133,e87,e9,e134]) 300 (by kernel_rfl)
noncomputable def e135:Memo Tryz.prog:=⟨_,_,_,_,_,_,k135⟩
theorem k148:ACall Tryz.prog 45 [v11,v79] [b57,b43,b44,b58,b59,b55,b7,b7,b7] v2 [b60,b43,b44,b58,b59,b55,b7,b7,b7,b56] []:=memo_of Tryz.mixed (ht:=withMemoC cloH [e144,e147]) 300 (by kernel_rfl)
noncomputable def e148:Memo Tryz.prog:=⟨_,_,_,_,_,_,k148⟩
theorem k163:ACall Tryz.prog 130 [v71,v76] m47 v37 m47 []:=memo_of Tryz.mixed (ht:=withMemoC cloH [e157,e43]) 300 (by kernel_rfl)
noncomputable def e163:Memo Tryz.prog:=⟨_,_,_,_,_,_,k163⟩
theorem k176:ACall Tryz.prog 49 [v21,v83] m52 v82 m53 []:=memo_of Tryz.mixed (ht:=withMemoC cloH [e175]) 300 (by kernel_rfl)
noncomputable def e176:Memo Tryz.prog:=⟨_,_,_,_,_,_,k176⟩
theorem k194:ACall Tryz.prog 45 [v11,v84] [b57,b63,b44,b58,b59,b55,b7,b7,b7] v2 [b60,b63,b44,b58,b59,b55,b7,b7,b7,b64] []:=memo_of Tryz.mixed (ht:=withMemoC cloH [e190,e193]) 300 (by kernel_rfl)
noncomputable def e194:Memo Tryz.prog:=⟨_,_,_,_,_,_,k194⟩
theorem k225:ACall Tryz.prog 53 [v75,v70] m62 v37 m62 [12]:=memo_of Tryz.mixed (ht:=withMemoC cloH [e222,e19,e157,e223,e87,e9,e224]) 300 (by kernel_rfl)
noncomputable def e225:Memo Tryz.prog:=⟨_,_,_,_,_,_,k225⟩
theorem k11:ACall Tryz.prog 47 [.ptr 2 0 0 0,v63] [b6,b5,.box 36 [v25,v25,v3,v26,v26]] (.tup [v25,v2]) [b6,b5,.box 36 [v38,v25,v3,.own 3 2 0 1,v26],.lst 58 2 1 none [v32,.own 4 7 0 1],.lst 43 7 1 (some 1) [v25,v33,v33,v25,v4,v26,v29],b7] []:=memo_of Tryz.mixed (ht:=withMemoC cloH [e9,e10]) 300 (by kernel_rfl)
noncomputable def e11:Memo Tryz.prog:=⟨_,_,_,_,_,_,k11⟩
theorem k33:ACall Tryz.prog 120 [.ptr 4 0 0 0,v66,.ptr 1 0 2 0,.ptr 2 0 7 0,.ptr 2 0 7 0] m3 (.tup [.agg [v29,v28,v32,v25,v29,v39,.own 5 1 0 2,v15,v27,v27,v27],v2]) [b13,b10,b15,b7,b16,b17,b7] []:=memo_of Tryz.mixed (ht:=withMemoC cloH [e32]) 300 (by kernel_rfl)
noncomputable def e33:Memo Tryz.prog:=⟨_,_,_,_,_,_,k33⟩
theorem k40:ACall Tryz.prog 53 [v67,.agg [v32,.own 3 7 0 1]] m6 v37 m6 []:=memo_of Tryz.mixed (ht:=withMemoC cloH [e37,e19,e38,e20,e9,e39]) 300 (by kernel_rfl)
noncomputable def e40:Memo Tryz.prog:=⟨_,_,_,_,_,_,k40⟩
theorem k44:ACall Tryz.prog 130 [v68,.agg [v25,v28,v32,v25,v29,v39,v17,v14,v27,v27,v27]] m5 v37 m5 []:=memo_of Tryz.mixed (ht:=withMemoC cloH [e38,e32,e43]) 300 (by kernel_rfl)
noncomputable def e44:Memo Tryz.prog:=⟨_,_,_,_,_,_,k44⟩
theorem k160:ACall Tryz.prog 53 [v75,v70] m49 v37 m49 [12]:=memo_of Tryz.mixed (ht:=withMemoC cloH [e156,e19,e157,e158,e87,e9,e159]) 300 (by kernel_rfl)
noncomputable def e160:Memo Tryz.prog:=⟨_,_,_,_,_,_,k160⟩
theorem k215:ACall Tryz.prog 45 [v11,v85] [b57,b64,b44,b58,b59,b55,b7,b7,b7] v2 [b60,b64,b44,b58,b59,b55,b7,b7,b7,b65] []:=memo_of Tryz.mixed (ht:=withMemoC cloH [e211,e214]) 300 (by kernel_rfl)
noncomputable def e215:Memo Tryz.prog:=⟨_,_,_,_,_,_,k215⟩
theorem k217:ACall Tryz.prog 47 [v21,v85] [b65,b32,b48,b49,b55,b7,b7,b7,b47] v82 [b65,b32,b48,b49,b55,b7,b7,b7,b47,b74] []:=memo_of Tryz.mixed (ht:=withMemoC cloH [e9]) 300 (by kernel_rfl)
noncomputable def e217:Memo Tryz.prog:=⟨_,_,_,_,_,_,k217⟩
theorem k238:ACall Tryz.prog 47 [v21,v86] [b66,b32,b48,b49,b55,b7,b7,b7,b47] v82 [b66,b32,b48,b49,b55,b7,b7,b7,b47,b75] []:=memo_of Tryz.mixed (ht:=withMemoC cloH [e237]) 300 (by kernel_rfl)
noncomputable def e238:Memo Tryz.prog:=⟨_,_,_,_,_,_,k238⟩
theorem k246:ACall Tryz.prog 53 [v75,v70] m65 v37 m65 [12]:=memo_of Tryz.mixed (ht:=withMemoC cloH [e243,e19,e157,e244,e87,e9,e245]) 300 (by kernel_rfl)
noncomputable def e246:Memo Tryz.prog:=⟨_,_,_,_,_,_,k246⟩
theorem k28:ACall Tryz.prog 45 [v11,v66] [.box 36 [v38,v25,v3,v6,v26],b5,b8,.lst 43 7 1 none [v25,v33,v33,v25,v5,v26,v29],b7] v2 [.box 36 [v38,v25,.own 5 4 0 1,v6,v26],b5,b8,.lst 43 7 1 none [v25,v33,v33,v25,v5,v26,v29],b7,b13] []:=memo_of Tryz.mixed (ht:=withMemoC cloH [e24,e27]) 300 (by kernel_rfl)
noncomputable def e28:Memo Tryz.prog:=⟨_,_,_,_,_,_,k28⟩
theorem k55:ACall Tryz.prog 53 [v67,.agg [v32,.own 3 7 0 1]] m13 v37 m13 []:=memo_of Tryz.mixed (ht:=withMemoC cloH [e52,e19,e53,e20,e9,e54]) 300 (by kernel_rfl)
noncomputable def e55:Memo Tryz.prog:=⟨_,_,_,_,_,_,k55⟩
theorem k82:ACall Tryz.prog 117 [.ptr 0 0 2 0,.agg [v25,v28,v32,v25,v29,v39,.own 2 1 0 2,v10,v27,v27,v34]] [b14,.lst 43 7 1 none [v25,v33,v33,v25,v5,v26,v25],b26,b7,b7] (.tup []) [.lst 58 2 1 none [v32,.own 1 7 0 2],b31,b26,b7,b7,b7,b7] [1]:=memo_of Tryz.mixed (ht:=withMemoC cloH [e32,e81]) 300 (by kernel_rfl)
noncomputable def e82:Memo Tryz.prog:=⟨_,_,_,_,_,_,k82⟩
theorem k95:ACall Tryz.prog 54 [v67,.agg [v25,v28,v32,v25,v29,v39,v16,v4,v27,v27,v35]] m22 v37 m22 []:=memo_of Tryz.mixed (ht:=withMemoC cloH [e92,e94]) 300 (by kernel_rfl)
noncomputable def e95:Memo Tryz.prog:=⟨_,_,_,_,_,_,k95⟩
theorem k127:ACall Tryz.prog 49 [.ptr 6 0 0 0,v74] m36 (.tup [v38,v2]) [b43,b32,.lst 68 11 1 none [v38,v34,v32,v38,v40,v33,.own 7 1 0 1,v23,v27,v27,v27],.lst 43 7 2 none [v38,v33,v39,v38,v5,v26,v38,v40,v39,v33,v38,v4,v26,v38],b7,b7,b47,b46,b7] [2]:=memo_of Tryz.mixed (ht:=withMemoC cloH [e124,e126]) 300 (by kernel_rfl)
noncomputable def e127:Memo Tryz.prog:=⟨_,_,_,_,_,_,k127⟩
theorem k138:ACall Tryz.prog 130 [v71,v76] m39 v37 m39 []:=memo_of Tryz.mixed (ht:=withMemoC cloH [e132,e43]) 300 (by kernel_rfl)
noncomputable def e138:Memo Tryz.prog:=⟨_,_,_,_,_,_,k138⟩
theorem k184:ACall Tryz.prog 53 [v75,v70] m56 v37 m56 [12]:=memo_of Tryz.mixed (ht:=withMemoC cloH [e181,e19,e157,e182,e87,e9,e183]) 300 (by kernel_rfl)
noncomputable def e184:Memo Tryz.prog:=⟨_,_,_,_,_,_,k184⟩
theorem k235:ACall Tryz.prog 45 [v11,v86] [b57,b65,b44,b58,b59,b55,b7,b7,b7] v2 [b60,b65,b44,b58,b59,b55,b7,b7,b7,b66] []:=memo_of Tryz.mixed (ht:=withMemoC cloH [e231,e234]) 300 (by kernel_rfl)
noncomputable def e235:Memo Tryz.prog:=⟨_,_,_,_,_,_,k235⟩
theorem k267:ACall Tryz.prog 53 [v75,v70] m70 v37 m70 [12]:=memo_of Tryz.mixed (ht:=withMemoC cloH [e264,e19,e157,e265,e87,e9,e266]) 300 (by kernel_rfl)
noncomputable def e267:Memo Tryz.prog:=⟨_,_,_,_,_,_,k267⟩
end
end Go.Proofs.YtffkiommagljeaaGreatDoor
