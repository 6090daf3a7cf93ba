import Derived.Test.YtffkiommagljeaaGreatDoorW4
set_option linter.unusedVariables false
set_option linter.unusedSimpArgs false
set_option maxRecDepth 1000000
namespace Go.Proofs.YtffkiommagljeaaGreatDoor
open Go.Ax
section
theorem k21:ACall Tryz.prog 53 [v64,.agg [v32,.own 2 7 0 1]] m0 v37 m0 []:=memo_of Tryz.mixed (ht:=withMemoC cloH [e18,e19,e20,e9]) 300 (by kernel_rfl)
noncomputable def e21:Memo Tryz.prog:=⟨_,_,_,_,_,_,k21⟩
theorem k68:ACall Tryz.prog 53 [v67,.agg [v32,.own 3 7 0 1]] m17 v37 m17 []:=memo_of Tryz.mixed (ht:=withMemoC cloH [e65,e19,e66,e20,e9,e67]) 300 (by kernel_rfl)
noncomputable def e68:Memo Tryz.prog:=⟨_,_,_,_,_,_,k68⟩
theorem k71:ACall Tryz.prog 130 [v68,.agg [v25,v28,v32,v25,v29,v39,v17,v14,v27,v27,v34]] m11 v37 m11 []:=memo_of Tryz.mixed (ht:=withMemoC cloH [e66,e32,e43]) 300 (by kernel_rfl)
noncomputable def e71:Memo Tryz.prog:=⟨_,_,_,_,_,_,k71⟩
theorem k103:ACall Tryz.prog 53 [v72,v70] m28 v37 m28 [10]:=memo_of Tryz.mixed (ht:=withMemoC cloH [e101,e19,e102,e87,e9]) 300 (by kernel_rfl)
noncomputable def e103:Memo Tryz.prog:=⟨_,_,_,_,_,_,k103⟩
theorem k111:ACall Tryz.prog 53 [v72,v70] m30 v37 m30 [10]:=memo_of Tryz.mixed (ht:=withMemoC cloH [e109,e19,e110,e87,e9]) 300 (by kernel_rfl)
noncomputable def e111:Memo Tryz.prog:=⟨_,_,_,_,_,_,k111⟩
theorem k172:ACall Tryz.prog 45 [v11,v83] [b57,b56,b44,b58,b59,b55,b7,b7,b7] v2 [b60,b56,b44,b58,b59,b55,b7,b7,b7,b63] []:=memo_of Tryz.mixed (ht:=withMemoC cloH [e168,e171]) 300 (by kernel_rfl)
noncomputable def e172:Memo Tryz.prog:=⟨_,_,_,_,_,_,k172⟩
theorem k197:ACall Tryz.prog 47 [v21,v84] [b64,b32,b48,b49,b55,b7,b7,b7,b47] v82 [b64,b32,b48,b49,b55,b7,b7,b7,b47,b73] []:=memo_of Tryz.mixed (ht:=withMemoC cloH [e196]) 300 (by kernel_rfl)
noncomputable def e197:Memo Tryz.prog:=⟨_,_,_,_,_,_,k197⟩
theorem k205:ACall Tryz.prog 53 [v75,v70] m59 v37 m59 [12]:=memo_of Tryz.mixed (ht:=withMemoC cloH [e202,e19,e157,e203,e87,e9,e204]) 300 (by kernel_rfl)
noncomputable def e205:Memo Tryz.prog:=⟨_,_,_,_,_,_,k205⟩
theorem k256:ACall Tryz.prog 45 [v11,v87] [b57,b66,b44,b58,b59,b55,b7,b7,b7] v2 [b60,b66,b44,b58,b59,b55,b7,b7,b7,b67] []:=memo_of Tryz.mixed (ht:=withMemoC cloH [e252,e255]) 300 (by kernel_rfl)
noncomputable def e256:Memo Tryz.prog:=⟨_,_,_,_,_,_,k256⟩
theorem k284:ACall Tryz.prog 14 [v75,v32,v39] m70 (.tup [.agg [v40,v39,v33,v38,v23,v26,v38],v37]) m72 []:=memo_of Tryz.mixed (ht:=withMemoC cloH [e283]) 300 (by kernel_rfl)
noncomputable def e284:Memo Tryz.prog:=⟨_,_,_,_,_,_,k284⟩
theorem k6:ACall Tryz.prog 45 [.ptr 1 0 0 0,v63] [b6,.box 36 [v25,v25,v26,v26,v26]] v2 [b6,.box 36 [v25,v25,.own 2 4 0 1,v26,v26],b5] []:=memo_of Tryz.mixed (ht:=withMemoC cloH [e2,e5]) 300 (by kernel_rfl)
noncomputable def e6:Memo Tryz.prog:=⟨_,_,_,_,_,_,k6⟩
theorem k22:ACall Tryz.prog 16 [v64] m0 v27 m0 []:=memo_of Tryz.mixed (ht:=withMemoC cloH [e17,e21]) 300 (by kernel_rfl)
noncomputable def e22:Memo Tryz.prog:=⟨_,_,_,_,_,_,k22⟩
theorem k34:ACall Tryz.prog 49 [.ptr 4 0 0 0,v66] m3 (.tup [v25,v2]) [b13,b10,b18,b7,.box 36 [v41,v38,v0,v9,.own 5 11 0 1],.lst 68 11 1 none [v25,v28,v32,v25,v29,v39,.own 6 1 0 2,v7,v27,v27,v27],b17,b7] []:=memo_of Tryz.mixed (ht:=withMemoC cloH [e30,e33]) 300 (by kernel_rfl)
noncomputable def e34:Memo Tryz.prog:=⟨_,_,_,_,_,_,k34⟩
theorem k60:ACall Tryz.prog 54 [v67,.agg [v25,v28,v32,v25,v29,v39,v16,v4,v27,v27,v28]] m13 v37 m13 []:=memo_of Tryz.mixed (ht:=withMemoC cloH [e57,e58,e59]) 300 (by kernel_rfl)
noncomputable def e60:Memo Tryz.prog:=⟨_,_,_,_,_,_,k60⟩
theorem k96:ACall Tryz.prog 16 [v67] m22 v27 m22 []:=memo_of Tryz.mixed (ht:=withMemoC cloH [e36,e89,e95]) 300 (by kernel_rfl)
noncomputable def e96:Memo Tryz.prog:=⟨_,_,_,_,_,_,k96⟩
theorem k165:ACall Tryz.prog 54 [v75,v77] m49 v37 m49 []:=memo_of Tryz.mixed (ht:=withMemoC cloH [e162,e163,e164]) 300 (by kernel_rfl)
noncomputable def e165:Memo Tryz.prog:=⟨_,_,_,_,_,_,k165⟩
theorem k208:ACall Tryz.prog 54 [v75,v77] m59 v37 m59 []:=memo_of Tryz.mixed (ht:=withMemoC cloH [e207,e163,e164]) 300 (by kernel_rfl)
noncomputable def e208:Memo Tryz.prog:=⟨_,_,_,_,_,_,k208⟩
theorem k249:ACall Tryz.prog 54 [v75,v77] m65 v37 m65 []:=memo_of Tryz.mixed (ht:=withMemoC cloH [e248,e163,e164]) 300 (by kernel_rfl)
noncomputable def e249:Memo Tryz.prog:=⟨_,_,_,_,_,_,k249⟩
theorem k46:ACall Tryz.prog 54 [v67,.agg [v25,v28,v32,v25,v29,v39,v16,v4,v27,v27,v27]] m6 v37 m6 []:=memo_of Tryz.mixed (ht:=withMemoC cloH [e42,e44,e45]) 300 (by kernel_rfl)
noncomputable def e46:Memo Tryz.prog:=⟨_,_,_,_,_,_,k46⟩
theorem k72:ACall Tryz.prog 54 [v67,.agg [v25,v28,v32,v25,v29,v39,v16,v4,v27,v27,v34]] m17 v37 m17 []:=memo_of Tryz.mixed (ht:=withMemoC cloH [e70,e71,e59]) 300 (by kernel_rfl)
noncomputable def e72:Memo Tryz.prog:=⟨_,_,_,_,_,_,k72⟩
theorem k83:ACall Tryz.prog 48 [v18,.agg [v42,v25,.s (.int .u64 7),v33,v26,v29,v29,v33,v27,v27,v25,v34]] m15 v2 [b13,b32,b33,.lst 43 7 2 none [v38,v33,v39,v38,v23,v26,v29,v40,v39,v33,v38,.own 9 1 0 3,v26,v29],b26,b7,b7,b21,b7,b7] [3]:=memo_of Tryz.mixed (ht:=withMemoC cloH [e82]) 300 (by kernel_rfl)
noncomputable def e83:Memo Tryz.prog:=⟨_,_,_,_,_,_,k83⟩
theorem k104:ACall Tryz.prog 16 [v72] m28 v27 m28 []:=memo_of Tryz.mixed (ht:=withMemoC cloH [e36,e103]) 300 (by kernel_rfl)
noncomputable def e104:Memo Tryz.prog:=⟨_,_,_,_,_,_,k104⟩
theorem k112:ACall Tryz.prog 16 [v72] m30 v27 m30 []:=memo_of Tryz.mixed (ht:=withMemoC cloH [e36,e111]) 300 (by kernel_rfl)
noncomputable def e112:Memo Tryz.prog:=⟨_,_,_,_,_,_,k112⟩
theorem k141:ACall Tryz.prog 54 [v75,v77] m41 v37 m41 []:=memo_of Tryz.mixed (ht:=withMemoC cloH [e137,e138,e140]) 300 (by kernel_rfl)
noncomputable def e141:Memo Tryz.prog:=⟨_,_,_,_,_,_,k141⟩
theorem k187:ACall Tryz.prog 54 [v75,v77] m56 v37 m56 []:=memo_of Tryz.mixed (ht:=withMemoC cloH [e186,e163,e164]) 300 (by kernel_rfl)
noncomputable def e187:Memo Tryz.prog:=⟨_,_,_,_,_,_,k187⟩
theorem k228:ACall Tryz.prog 54 [v75,v77] m62 v37 m62 []:=memo_of Tryz.mixed (ht:=withMemoC cloH [e227,e163,e164]) 300 (by kernel_rfl)
noncomputable def e228:Memo Tryz.prog:=⟨_,_,_,_,_,_,k228⟩
theorem k270:ACall Tryz.prog 54 [v75,v77] m70 v37 m70 []:=memo_of Tryz.mixed (ht:=withMemoC cloH [e269,e163,e164]) 300 (by kernel_rfl)
noncomputable def e270:Memo Tryz.prog:=⟨_,_,_,_,_,_,k270⟩
theorem k12:ACall Tryz.prog 15 [v60,v63] [b6] (.tup [.agg [v38,v25,v3,v6,v26],v25,v27]) [b6,b5,b8,.lst 43 7 1 (some 1) [v25,v33,v33,v25,v5,v26,v29],b7] []:=memo_of Tryz.mixed (ht:=withMemoC cloH [e0,e1,e6,e7,e11]) 300 (by kernel_rfl)
noncomputable def e12:Memo Tryz.prog:=⟨_,_,_,_,_,_,k12⟩
theorem k47:ACall Tryz.prog 16 [v67] m6 v27 m6 []:=memo_of Tryz.mixed (ht:=withMemoC cloH [e36,e40,e46]) 300 (by kernel_rfl)
noncomputable def e47:Memo Tryz.prog:=⟨_,_,_,_,_,_,k47⟩
theorem k73:ACall Tryz.prog 16 [v67] m17 v27 m17 []:=memo_of Tryz.mixed (ht:=withMemoC cloH [e36,e68,e72]) 300 (by kernel_rfl)
noncomputable def e73:Memo Tryz.prog:=⟨_,_,_,_,_,_,k73⟩
theorem k100:ACall Tryz.prog 15 [v67,.agg [v42,v25,.s (.int .u64 8),v33,v26,v29,v29,v33,v27,v27,v25,v35]] m22 (.tup [.agg [v41,v38,.own 8 4 0 1,.own 9 2 0 1,.own 10 11 0 0],v29,v27]) [b13,b32,b33,b34,b26,b7,b7,b7,b13,b38,b2,.lst 43 7 2 none [v38,v33,v39,v38,v19,v26,v29,v40,v39,v33,v38,v20,v26,v29],b7,b7] []:=memo_of Tryz.mixed (ht:=withMemoC cloH [e96,e97,e99]) 300 (by kernel_rfl)
noncomputable def e100:Memo Tryz.prog:=⟨_,_,_,_,_,_,k100⟩
theorem k128:ACall Tryz.prog 15 [v72,v74] m30 (.tup [.agg [v43,v40,.own 6 4 0 1,.own 7 2 0 1,.own 8 11 0 1],v38,v27]) [b13,b32,b3,b40,b7,b7,b43,b41,.lst 68 11 1 none [v38,v34,v32,v38,v40,v33,.own 10 1 0 1,.own 11 1 0 3,v27,v27,v27],.lst 43 7 2 none [v38,v33,v39,v38,v19,v26,v38,v40,v39,v33,v38,v20,v26,v38],b46,b7,b7,b7] [18]:=memo_of Tryz.mixed (ht:=withMemoC cloH [e112,e106,e121,e122,e127]) 300 (by kernel_rfl)
noncomputable def e128:Memo Tryz.prog:=⟨_,_,_,_,_,_,k128⟩
theorem k188:ACall Tryz.prog 16 [v75] m56 v27 m56 []:=memo_of Tryz.mixed (ht:=withMemoC cloH [e180,e184,e187]) 300 (by kernel_rfl)
noncomputable def e188:Memo Tryz.prog:=⟨_,_,_,_,_,_,k188⟩
theorem k229:ACall Tryz.prog 16 [v75] m62 v27 m62 []:=memo_of Tryz.mixed (ht:=withMemoC cloH [e221,e225,e228]) 300 (by kernel_rfl)
noncomputable def e229:Memo Tryz.prog:=⟨_,_,_,_,_,_,k229⟩
theorem k271:ACall Tryz.prog 16 [v75] m70 v27 m70 []:=memo_of Tryz.mixed (ht:=withMemoC cloH [e263,e267,e270]) 300 (by kernel_rfl)
noncomputable def e271:Memo Tryz.prog:=⟨_,_,_,_,_,_,k271⟩
theorem k35:ACall Tryz.prog 15 [v64,v66] m0 (.tup [.agg [v41,v38,.own 4 4 0 1,.own 5 2 0 1,.own 6 11 0 1],v25,v27]) [b5,b10,b11,b7,b13,.lst 58 2 1 none [v32,.own 7 7 0 1],.lst 68 11 1 none [v25,v28,v32,v25,v29,v39,.own 8 1 0 2,.own 9 1 0 3,v27,v27,v27],.lst 43 7 1 none [v25,v33,v33,v25,.own 10 1 0 3,v26,v25],b17,b7,b7] []:=memo_of Tryz.mixed (ht:=withMemoC cloH [e22,e23,e28,e29,e34]) 300 (by kernel_rfl)
noncomputable def e35:Memo Tryz.prog:=⟨_,_,_,_,_,_,k35⟩
theorem k61:ACall Tryz.prog 16 [v67] m13 v27 m13 []:=memo_of Tryz.mixed (ht:=withMemoC cloH [e36,e55,e60]) 300 (by kernel_rfl)
noncomputable def e61:Memo Tryz.prog:=⟨_,_,_,_,_,_,k61⟩
theorem k108:ACall Tryz.prog 15 [v72,.agg [v42,v25,.s (.int .u64 9),v33,v26,v29,v29,v33,v27,v27,v25,v35]] m28 (.tup [v73,v29,v27]) m29 []:=memo_of Tryz.mixed (ht:=withMemoC cloH [e104,e105,e106,e107]) 300 (by kernel_rfl)
noncomputable def e108:Memo Tryz.prog:=⟨_,_,_,_,_,_,k108⟩
theorem k116:ACall Tryz.prog 15 [v72,.agg [v42,v25,.s (.int .u64 10),v33,v26,v29,v29,v33,v27,v27,v38,v27]] m30 (.tup [v73,v29,.s (.int .i64 191)]) m31 []:=memo_of Tryz.mixed (ht:=withMemoC cloH [e112,e106,e113,e115]) 300 (by kernel_rfl)
noncomputable def e116:Memo Tryz.prog:=⟨_,_,_,_,_,_,k116⟩
theorem k142:ACall Tryz.prog 16 [v75] m41 v27 m41 []:=memo_of Tryz.mixed (ht:=withMemoC cloH [e129,e135,e141]) 300 (by kernel_rfl)
noncomputable def e142:Memo Tryz.prog:=⟨_,_,_,_,_,_,k142⟩
theorem k166:ACall Tryz.prog 16 [v75] m49 v27 m49 []:=memo_of Tryz.mixed (ht:=withMemoC cloH [e155,e160,e165]) 300 (by kernel_rfl)
noncomputable def e166:Memo Tryz.prog:=⟨_,_,_,_,_,_,k166⟩
theorem k209:ACall Tryz.prog 16 [v75] m59 v27 m59 []:=memo_of Tryz.mixed (ht:=withMemoC cloH [e201,e205,e208]) 300 (by kernel_rfl)
noncomputable def e209:Memo Tryz.prog:=⟨_,_,_,_,_,_,k209⟩
theorem k250:ACall Tryz.prog 16 [v75] m65 v27 m65 []:=memo_of Tryz.mixed (ht:=withMemoC cloH [e242,e246,e249]) 300 (by kernel_rfl)
noncomputable def e250:Memo Tryz.prog:=⟨_,_,_,_,_,_,k250⟩
theorem k13:ACall Tryz.prog 13 [.own 1 12 0 1] [b6,.lst 27 12 1 (some 1) [v28,v29,v29,v32,v1,v29,v29,v33,v27,v27,v29,v27]] (.tup [.agg [v38,v25,.own 2 4 0 1,.own 3 2 0 1,v26],v8,.own 5 1 0 1]) [b6,.lst 27 12 1 (some 1) [v28,v29,v29,v32,v1,v29,v29,v33,v27,v27,v29,v27],b5,b9,.lst 25 1 1 none [v25],.lst 30 1 1 none [v27],.lst 43 7 1 (some 1) [v25,v33,v33,v25,v7,v26,v29],b7] []:=memo_of Tryz.mixed (ht:=withMemoC cloH [e12]) 300 (by kernel_rfl)
noncomputable def e13:Memo Tryz.prog:=⟨_,_,_,_,_,_,k13⟩
theorem k51:ACall Tryz.prog 15 [v67,.agg [v42,v25,v40,v33,v26,v29,v29,v33,v27,v27,v25,v27]] m6 v89 [b13,b8,b19,b20,b17,b7,b7,b13,b24,.lst 68 11 1 none [v25,v28,v32,v25,v29,v39,.own 11 1 0 2,v19,v27,v27,v28],b25,b26,b7,b7] []:=memo_of Tryz.mixed (ht:=withMemoC cloH [e47,e48,e49,e50]) 300 (by kernel_rfl)
noncomputable def e51:Memo Tryz.prog:=⟨_,_,_,_,_,_,k51⟩
theorem k76:ACall Tryz.prog 15 [v67,.agg [v42,v25,v43,v33,v26,v29,v29,v33,v27,v27,v25,v27]] m17 v89 m18 []:=memo_of Tryz.mixed (ht:=withMemoC cloH [e73,e74,e75]) 300 (by kernel_rfl)
noncomputable def e76:Memo Tryz.prog:=⟨_,_,_,_,_,_,k76⟩
theorem k200:ACall Tryz.prog 15 [v75,v84] m56 (.tup [v78,v29,.s (.int .i64 181)]) [b63,b32,b48,b49,b55,b7,b7,b7,b64,b38,b53,b54,b55,b7,b7,b7] []:=memo_of Tryz.mixed (ht:=withMemoC cloH [e188,e189,e194,e195,e197,e199]) 300 (by kernel_rfl)
noncomputable def e200:Memo Tryz.prog:=⟨_,_,_,_,_,_,k200⟩
theorem k241:ACall Tryz.prog 15 [v75,v86] m62 (.tup [v78,v29,.s (.int .i64 185)]) [b65,b32,b48,b49,b55,b7,b7,b7,b66,b38,b53,b54,b55,b7,b7,b7] []:=memo_of Tryz.mixed (ht:=withMemoC cloH [e229,e230,e235,e236,e238,e240]) 300 (by kernel_rfl)
noncomputable def e241:Memo Tryz.prog:=⟨_,_,_,_,_,_,k241⟩
theorem k262:ACall Tryz.prog 15 [v75,v87] m65 (.tup [v78,v29,v53]) [b66,b32,b48,b49,b55,b7,b7,b7,b67,b38,b53,b54,b55,b7,b7,b7] []:=memo_of Tryz.mixed (ht:=withMemoC cloH [e250,e251,e256,e257,e259,e261]) 300 (by kernel_rfl)
noncomputable def e262:Memo Tryz.prog:=⟨_,_,_,_,_,_,k262⟩
theorem k277:ACall Tryz.prog 15 [v75,.agg [.s (.int .i64 6),v25,.s (.int .u64 18),v33,v26,v29,v29,v33,v27,v27,v29,v27]] m70 (.tup [v78,v29,.s (.int .i64 187)]) m71 []:=memo_of Tryz.mixed (ht:=withMemoC cloH [e271,e272,e274,e276]) 300 (by kernel_rfl)
noncomputable def e277:Memo Tryz.prog:=⟨_,_,_,_,_,_,k277⟩
theorem k64:ACall Tryz.prog 15 [v67,.agg [v42,v25,v41,v33,v26,v29,v29,v33,v27,v27,v25,v28]] m13 v89 [b13,b8,b27,b20,b26,b7,b7,b13,b24,b29,b25,b26,b7,b7] []:=memo_of Tryz.mixed (ht:=withMemoC cloH [e61,e62,e63]) 300 (by kernel_rfl)
noncomputable def e64:Memo Tryz.prog:=⟨_,_,_,_,_,_,k64⟩
theorem k80:ACall Tryz.prog 15 [v67,.agg [v42,v25,.s (.int .u64 6),v33,v26,v29,v29,v33,v27,v27,v25,v35]] m17 (.tup [v69,v29,.s (.int .i64 186)]) m18 []:=memo_of Tryz.mixed (ht:=withMemoC cloH [e73,e74,e77,e79]) 300 (by kernel_rfl)
noncomputable def e80:Memo Tryz.prog:=⟨_,_,_,_,_,_,k80⟩
theorem k84:ACall Tryz.prog 15 [v67,.agg [v42,v25,.s (.int .u64 7),v33,v26,v29,v29,v33,v27,v27,v25,v34]] m17 v89 [b13,b8,b28,b20,b26,b7,b7,b13,.lst 58 2 1 none [v32,.own 10 7 0 2],.lst 68 11 1 none [v25,v28,v32,v25,v29,v39,.own 11 1 0 2,v19,v27,v27,v35],.lst 43 7 2 none [v38,v33,v39,v38,v20,v26,v29,v40,v39,v33,v38,.own 14 1 0 3,v26,v29],b26,b7,b7,b7] [20]:=memo_of Tryz.mixed (ht:=withMemoC cloH [e73,e74,e83]) 300 (by kernel_rfl)
noncomputable def e84:Memo Tryz.prog:=⟨_,_,_,_,_,_,k84⟩
theorem k154:ACall Tryz.prog 15 [v75,v79] m41 (.tup [v78,v29,.s (.int .i64 184)]) [b43,b32,b48,b49,b46,b7,b7,b7,b56,b38,b53,b54,b55,b7,b7,b7] []:=memo_of Tryz.mixed (ht:=withMemoC cloH [e142,e143,e148,e149,e151,e153]) 300 (by kernel_rfl)
noncomputable def e154:Memo Tryz.prog:=⟨_,_,_,_,_,_,k154⟩
theorem k179:ACall Tryz.prog 15 [v75,v83] m49 (.tup [v78,v29,.s (.int .i64 183)]) [b56,b32,b48,b49,b55,b7,b7,b7,b63,b38,b53,b54,b55,b7,b7,b7] []:=memo_of Tryz.mixed (ht:=withMemoC cloH [e166,e167,e172,e173,e176,e178]) 300 (by kernel_rfl)
noncomputable def e179:Memo Tryz.prog:=⟨_,_,_,_,_,_,k179⟩
theorem k220:ACall Tryz.prog 15 [v75,v85] m59 (.tup [v78,v29,v53]) [b64,b32,b48,b49,b55,b7,b7,b7,b65,b38,b53,b54,b55,b7,b7,b7] []:=memo_of Tryz.mixed (ht:=withMemoC cloH [e209,e210,e215,e216,e217,e219]) 300 (by kernel_rfl)
noncomputable def e220:Memo Tryz.prog:=⟨_,_,_,_,_,_,k220⟩
theorem k290:ACall Tryz.prog 15 [v75,.agg [v28,v25,v25,.s (.string ⟨#[110,101,119]⟩),v24,v29,v29,v33,v27,v27,v29,v27]] [b67,b32,b48,b49,b55,b7,b7,b7,b68] (.tup [.agg [v43,v40,.own 9 4 0 1,.own 10 2 0 1,.own 11 11 0 1],v29,.s (.int .i64 189)]) [b67,b32,b48,b49,b55,b7,b7,b7,b68,b67,.lst 58 2 1 none [v32,.own 12 7 0 2],.lst 68 11 1 none [v38,v34,v32,v38,v40,v33,.own 13 1 0 1,.own 14 1 0 3,v27,v27,v27],.lst 43 7 2 none [v38,v33,v39,v38,.own 15 1 0 3,v26,v38,v40,v39,v33,v38,.own 16 1 0 3,v26,v38],b55,b7,b7,b7] []:=memo_of Tryz.mixed (ht:=withMemoC cloH [e271,e272,e287,e289]) 300 (by kernel_rfl)
noncomputable def e290:Memo Tryz.prog:=⟨_,_,_,_,_,_,k290⟩
theorem k16:ACall Tryz.prog 11 [] [] v37 [] []:=memo_of Tryz.mixed (ht:=withMemoC cloH [e13,e15]) 300 (by kernel_rfl)
noncomputable def e16:Memo Tryz.prog:=⟨_,_,_,_,_,_,k16⟩
theorem k278:ACall Tryz.prog 13 [.own 1 12 0 18] [b6,.lst 27 12 18 (some 18) [v28,v29,v29,v32,v1,v29,v29,v33,v27,v27,v29,v27,v34,v29,v29,v32,v26,v25,v29,v39,v27,v27,v29,v27,v42,v29,v29,v33,v26,v29,v29,v33,v27,v27,v25,v27,v42,v29,v29,v33,v26,v29,v29,v33,v27,v27,v25,v28,v42,v29,v29,v33,v26,v29,v29,v33,v27,v27,v25,v27,v42,v29,v29,v33,v26,v29,v29,v33,v27,v27,v25,v35,v42,v29,v29,v33,v26,v29,v29,v33,v27,v27,v25,v34,v42,v29,v29,v33,v26,v29,v29,v33,v27,v27,v25,v35,v42,v29,v29,v33,v26,v29,v29,v33,v27,v27,v25,v35,v42,v29,v29,v33,v26,v29,v29,v33,v27,v27,v38,v27,v35,v29,v29,v32,v26,v38,v40,v33,v27,v27,v29,v27,v46,v29,v29,v32,v26,v38,v29,v33,v28,v46,v29,v27,v46,v29,v29,v32,v26,.s (.int .u64 9),v29,v33,v28,v46,v29,v27,v28,v29,v29,v51,v26,v29,v29,v33,v27,v27,v29,v27,v28,v29,v29,v32,v26,v29,v29,v33,v27,v27,v29,v27,v28,v29,v29,v55,v26,v29,v29,v33,v27,v27,v29,v27,v34,v29,v29,.s (.string ⟨#[120]⟩),v26,v29,v29,v33,v27,v27,v29,v27,.s (.int .i64 6),v29,v29,v33,v26,v29,v29,v33,v27,v27,v29,v27]] (.tup [.agg [v43,v40,.own 2 4 0 1,.own 3 2 0 1,.own 4 11 0 1],.own 5 1 0 18,.own 6 1 0 18]) [b6,.lst 27 12 18 (some 18) [v28,v29,v29,v32,v1,v29,v29,v33,v27,v27,v29,v27,v34,v29,v29,v32,v26,v25,v29,v39,v27,v27,v29,v27,v42,v29,v29,v33,v26,v29,v29,v33,v27,v27,v25,v27,v42,v29,v29,v33,v26,v29,v29,v33,v27,v27,v25,v28,v42,v29,v29,v33,v26,v29,v29,v33,v27,v27,v25,v27,v42,v29,v29,v33,v26,v29,v29,v33,v27,v27,v25,v35,v42,v29,v29,v33,v26,v29,v29,v33,v27,v27,v25,v34,v42,v29,v29,v33,v26,v29,v29,v33,v27,v27,v25,v35,v42,v29,v29,v33,v26,v29,v29,v33,v27,v27,v25,v35,v42,v29,v29,v33,v26,v29,v29,v33,v27,v27,v38,v27,v35,v29,v29,v32,v26,v38,v40,v33,v27,v27,v29,v27,v46,v29,v29,v32,v26,v38,v29,v33,v28,v46,v29,v27,v46,v29,v29,v32,v26,.s (.int .u64 9),v29,v33,v28,v46,v29,v27,v28,v29,v29,v51,v26,v29,v29,v33,v27,v27,v29,v27,v28,v29,v29,v32,v26,v29,v29,v33,v27,v27,v29,v27,v28,v29,v29,v55,v26,v29,v29,v33,v27,v27,v29,v27,v34,v29,v29,.s (.string ⟨#[120]⟩),v26,v29,v29,v33,v27,v27,v29,v27,.s (.int .i64 6),v29,v29,v33,v26,v29,v29,v33,v27,v27,v29,v27],b67,.lst 58 2 1 none [v32,.own 7 7 0 2],.lst 68 11 1 none [v38,v34,v32,v38,v40,v33,v24,.own 9 1 0 3,v27,v27,v27],.lst 25 1 18 none [v25,v25,v29,v29,v29,v29,v29,v29,v29,v29,v38,v29,v29,v29,v29,v29,v29,v29],.lst 30 1 18 none [v27,v27,v27,v27,v27,.s (.int .i64 186),v27,v27,v27,.s (.int .i64 191),v27,.s (.int .i64 184),.s (.int .i64 183),.s (.int .i64 181),v53,.s (.int .i64 185),v53,.s (.int .i64 187)],.lst 43 7 2 none [v38,v33,v39,v38,.own 10 1 0 3,v26,v38,v40,v39,v33,v38,.own 11 1 0 3,v26,v38],b55,b7,b7,b7] [13,11,13,11,13,11,13,11,13,11,13,11,13,11,13,11,13,11,13,11,13,11,13,11,13,11,13,11,13,11,13,11,13,11]:=memo_of Tryz.mixed (ht:=withMemoC cloH [e12,e35,e51,e64,e76,e80,e84,e100,e108,e116,e128,e154,e179,e200,e220,e241,e262,e277]) 300 (by kernel_rfl)
noncomputable def e278:Memo Tryz.prog:=⟨_,_,_,_,_,_,k278⟩
theorem k292:ACall Tryz.prog 3 [] [] v37 [] []:=memo_of Tryz.mixed (ht:=withMemoC cloH [e16,e278,e280,e284,e285,e290,e291]) 300 (by kernel_rfl)
end
end Go.Proofs.YtffkiommagljeaaGreatDoor
