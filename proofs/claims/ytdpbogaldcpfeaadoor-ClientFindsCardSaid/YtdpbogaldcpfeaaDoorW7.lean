/- PROVED: ClientFinds -/
import Derived.Test.YtdpbogaldcpfeaaDoorW6
set_option linter.unusedVariables false
set_option linter.unusedSimpArgs false
set_option linter.unusedSectionVars false
/-! From the statements to the laws: calls, shards, replies. -/
namespace Go.Proofs.YtdpbogaldcpfeaaDoor
open Go.Ax Go.Shelf Go.RowKit Go.ChangeShapes Go.WideShapes Go.ChangeAt
set_option maxRecDepth 1000000
def shRec : Sh := .st [.int .u64, .str, .sl (.int .u8), .int .u64, .int .u64]
def toRec {K : Type} : DataW K → Rec
  | .agg [a, b, c, d, e] => ⟨toI a, toS b, listOf toI c, toI d, toI e⟩
  | _ => default
theorem relB {K : Type} {d : DataW K} (hd : (Sh.sl (.int .u8)).wf d) {H : HH} {E : Env} {v : Value} (h : Rel (slAV (.int .u8) d) H E v) : Rel (encBs true (listOf toI d)) H E v := conv_sl (encA := encB) (fun x hx => encI_ok hx) hd h
theorem rec_enc {K : Type} {d : DataW K} (hd : shRec.wf d) : ∃ a b c e f, d = .agg [a, b, c, e, f] ∧ (Sh.sl (.int .u8)).wf c ∧ shRec.enc d = [.y (.int .u64 (toI a)), .y (.string (toS b)), slAV (.int .u8) c, .y (.int .u64 (toI e)), .y (.int .u64 (toI f))] := by
  obtain ⟨ds, rfl, d1, r1, rfl, w1, d2, r2, rfl, w2, d3, r3, rfl, w3, d4, r4, rfl, w4, d5, r5, rfl, w5, rfl⟩ := hd
  refine ⟨d1, d2, d3, d4, d5, rfl, w3, ?_⟩
  simp only [shRec, enc_st, enc_cons, enc_nil, encI_ok w1, encS_ok w2, slAV_eq, encI_ok w4, encI_ok w5]
  rfl
theorem rec_conv {K : Type} {d : DataW K} (hd : shRec.wf d) (j : Nat) (hj : j < 5) (H : HH) (E : Env) (v : Value) (h : Rel (Ax.get (shRec.enc d) j) H E v) : Rel (Ax.get (encR (toRec d)) j) H E v := by
  obtain ⟨a, b, c, e, f, rfl, wc, he⟩ := rec_enc hd
  rw [he] at h
  match j, hj with
  | 0, _ => exact h
  | 1, _ => exact h
  | 2, _ => exact relB wc h
  | 3, _ => exact h
  | 4, _ => exact h
theorem relRs {K : Type} {d : DataW K} (hd : (Sh.sl shRec).wf d) {H : HH} {E : Env} {v : Value} (h : Rel (slAV shRec d) H E v) : Rel (encRs true (listOf toRec d)) H E v :=
  conv_slR (encA := encR) (fun x hx j hj H E v => rec_conv hx j hj H E v) hd h
theorem undRs : Tryd.prog.underlying 47 = some (.slice 149) := by kernel_rfl
theorem bytesR : Tryd.prog.bytesOf 149 = 64 := by kernel_rfl
theorem rs_sized {K : Type} {d : DataW K} (hw : (d.weights Tryd.prog 47).all (· ≤ reachBytes) = true) : (listOf toRec d).length * 64 ≤ 140737488351232 := by
  have := weights_slice toRec undRs hw
  rwa [bytesR] at this
def shRng : Sh := .st [.str, .str]
def toRng {K : Type} : DataW K → Rng
  | .agg [a, b] => ⟨toS a, toS b⟩
  | _ => default
theorem toRng_ok {K : Type} {d : DataW K} (h : shRng.wf d) : shRng.enc d = encG (toRng d) := by
  obtain ⟨ds, rfl, d1, r1, rfl, w1, d2, r2, rfl, w2, rfl⟩ := h
  simp only [shRng, enc_st, enc_cons, enc_nil, encS_ok w1, encS_ok w2]
  rfl
theorem weights_elem {K : Type} {P : Program} {e : TypeId} : ∀ {xs : List (DataW K)}, (DataW.weightsAll P e xs).all (· ≤ reachBytes) = true → ∀ x ∈ xs, (x.weights P e).all (· ≤ reachBytes) = true
  | [], _, _, h => by cases h
  | y :: r, h, x, hx => by
    rw [DataW.weightsAll, List.all_append, Bool.and_eq_true] at h
    rcases List.mem_cons.1 hx with rfl | hx
    · exact h.1
    · exact weights_elem h.2 x hx
theorem weights_elems {K : Type} {P : Program} {t u : TypeId} {xs r : List (DataW K)} (hu : P.underlying t = some (.slice u)) (h : ((DataW.slice xs r).weights P t).all (· ≤ reachBytes) = true) : ∀ x ∈ xs, (x.weights P u).all (· ≤ reachBytes) = true := by
  rw [DataW.weights, hu] at h
  simp only [List.all_cons, List.all_append, Bool.and_eq_true] at h
  exact weights_elem h.2.1
theorem relIs {K : Type} {d : DataW K} (hd : (Sh.sl (.int .i64)).wf d) {H : HH} {E : Env} {v : Value} (h : Rel (slAV (.int .i64) d) H E v) : Rel (C.encIs true (listOf toI d)) H E v := conv_sl (encA := encI) (fun x hx => encI_ok hx) hd h
theorem undIs : Tryd.prog.underlying 22 = some (.slice 3) := by kernel_rfl
theorem bytesI : Tryd.prog.bytesOf 3 = 8 := by kernel_rfl
theorem is_sized {K : Type} {d : DataW K} (hw : (d.weights Tryd.prog 22).all (· ≤ reachBytes) = true) : (listOf toI d).length * 8 ≤ 140737488351232 := by
  have := weights_slice toI undIs hw
  rwa [bytesI] at this
theorem undBs : Tryd.prog.underlying 28 = some (.slice 5) := by kernel_rfl
theorem bytesB : Tryd.prog.bytesOf 5 = 1 := by kernel_rfl
theorem bs_sized {K : Type} {d : DataW K} (hw : (d.weights Tryd.prog 28).all (· ≤ reachBytes) = true) : (listOf toI d).length ≤ 140737488351232 := by
  have := weights_slice toI undBs hw
  rwa [bytesB, Nat.mul_one] at this
/-! shards -/
def shShd : Sh := .st [.int .u64, shRng, .int .u64, .sl (.int .i64), .sl (.int .i64), .int .u64]
def toShd {K : Type} : DataW K → C.Shd
  | .agg [a, b, c, d, e, f] => ⟨toI a, toRng b, toI c, listOf toI d, listOf toI e, toI f⟩
  | _ => default
theorem shd_enc {K : Type} {d : DataW K} (hd : shShd.wf d) : ∃ a1 a2 a3 a4 a5 a6, d = .agg [a1, a2, a3, a4, a5, a6] ∧ (Sh.sl (.int .i64)).wf a4 ∧ (Sh.sl (.int .i64)).wf a5 ∧ shShd.enc d = [.y (.int .u64 (toI a1)), .y (.string (toRng a2).lo), .y (.string (toRng a2).hi), .y (.int .u64 (toI a3)), slAV (.int .i64) a4, slAV (.int .i64) a5, .y (.int .u64 (toI a6))] := by
  obtain ⟨ds, rfl, d1, r1, rfl, w1, d2, r2, rfl, w2, d3, r3, rfl, w3, d4, r4, rfl, w4, d5, r5, rfl, w5, d6, r6, rfl, w6, rfl⟩ := hd
  refine ⟨d1, d2, d3, d4, d5, d6, rfl, w4, w5, ?_⟩
  simp only [shShd, enc_st, enc_cons, enc_nil, encI_ok w1, toRng_ok w2, encI_ok w3, slAV_eq, encI_ok w6]
  rfl
theorem shd_conv {K : Type} {d : DataW K} (hd : shShd.wf d) (j : Nat) (hj : j < 7) (H : HH) (E : Env) (v : Value) (h : Rel (Ax.get (shShd.enc d) j) H E v) : Rel (Ax.get (C.encSh (toShd d)) j) H E v := by
  obtain ⟨a1, a2, a3, a4, a5, a6, rfl, w4, w5, he⟩ := shd_enc hd
  rw [he] at h
  match j, hj with
  | 0, _ => exact h
  | 1, _ => exact h
  | 2, _ => exact h
  | 3, _ => exact h
  | 4, _ => exact relIs w4 h
  | 5, _ => exact relIs w5 h
  | 6, _ => exact h
theorem relShs {K : Type} {d : DataW K} (hd : (Sh.sl shShd).wf d) {H : HH} {E : Env} {v : Value} (h : Rel (slAV shShd d) H E v) : Rel (C.encShs true (listOf toShd d)) H E v :=
  conv_slR (encA := C.encSh) (fun x hx j hj H E v => shd_conv hx j hj H E v) hd h
theorem undShs : Tryd.prog.underlying 50 = some (.slice 68) := by kernel_rfl
theorem bytesSh : Tryd.prog.bytesOf 68 = 104 := by kernel_rfl
theorem undShd : ∃ fs, Tryd.prog.underlying 68 = some (.struct fs) ∧ fs.toList.map (·.type) = [23, 66, 23, 22, 22, 23] := structTypes_ok (by kernel_rfl)
theorem shd_sized {K : Type} {d : DataW K} (hd : shShd.wf d) (hw : (d.weights Tryd.prog 68).all (· ≤ reachBytes) = true) : C.ShOk (toShd d) := by
  obtain ⟨a1, a2, a3, a4, a5, a6, rfl, w4, w5, he⟩ := shd_enc hd
  obtain ⟨fs, hf, ht⟩ := undShd
  have h := weights_struct hf hw
  rw [ht] at h
  obtain ⟨_, h⟩ := weights_cons h
  obtain ⟨_, h⟩ := weights_cons h
  obtain ⟨_, h⟩ := weights_cons h
  obtain ⟨h4, h⟩ := weights_cons h
  obtain ⟨h5, _⟩ := weights_cons h
  exact ⟨by have := is_sized h4; show (listOf toI a4).length * 8 ≤ _; omega, by have := is_sized h5; show (listOf toI a5).length * 8 ≤ _; omega⟩
theorem shs_sized {K : Type} {d : DataW K} (hd : (Sh.sl shShd).wf d) (hw : (d.weights Tryd.prog 50).all (· ≤ reachBytes) = true) : (listOf toShd d).length * 104 ≤ 140737488355328 ∧ ∀ x ∈ listOf toShd d, C.ShOk x := by
  refine ⟨?_, ?_⟩
  · have := weights_slice toShd undShs hw
    rw [bytesSh] at this
    omega
  · rcases hd with rfl | ⟨xs, r, rfl, hx⟩
    · intro y hy; cases hy
    · intro y hy
      obtain ⟨x, hx', rfl⟩ := List.mem_map.1 hy
      exact shd_sized (hx x hx') (weights_elems undShs hw x hx')
/-! calls -/
def shAd : Sh := .st [.int .i64, .int .u64, .int .u64, .str, .sl (.int .i64), .int .u64, .int .u64, .str, .int .i64, .int .i64, .int .u64, .int .i64]
def toAd {K : Type} : DataW K → C.Adm
  | .agg [a, b, c, d, e, f, g, h, i, j, k, l] => ⟨toI a, toI b, toI c, toS d, listOf toI e, toI f, toI g, toS h, toI i, toI j, toI k, toI l⟩
  | _ => default
def shCal : Sh := .st [.int .i64, .str, .str, .sl (.int .u8), .int .u64, .int .i64, .str, shAd]
def toCal {K : Type} : DataW K → C.Cal
  | .agg [a, b, c, d, e, f, g, h] => ⟨toI a, toS b, toS c, listOf toI d, toI e, toI f, toS g, toAd h⟩
  | _ => default
theorem relCal {K : Type} {d : DataW K} (hd : shCal.wf d) {H : HH} {E : Env} {vs : List Value} (h : RelL (shCal.enc d) H E vs) : RelL (C.encCl (toCal d)) H E vs := by
  obtain ⟨ds, rfl, d1, r1, rfl, w1, d2, r2, rfl, w2, d3, r3, rfl, w3, d4, r4, rfl, w4, d5, r5, rfl, w5, d6, r6, rfl, w6, d7, r7, rfl, w7, d8, r8, rfl, w8, rfl⟩ := hd
  obtain ⟨es, rfl, e1, s1, rfl, x1, e2, s2, rfl, x2, e3, s3, rfl, x3, e4, s4, rfl, x4, e5, s5, rfl, x5, e6, s6, rfl, x6, e7, s7, rfl, x7, e8, s8, rfl, x8, e9, s9, rfl, x9, e10, s10, rfl, x10, e11, s11, rfl, x11, e12, s12, rfl, x12, rfl⟩ := w8
  have e : shCal.enc (DataW.agg [d1, d2, d3, d4, d5, d6, d7, .agg [e1, e2, e3, e4, e5, e6, e7, e8, e9, e10, e11, e12]]) = [.y (.int .i64 (toI d1)), .y (.string (toS d2)), .y (.string (toS d3)), slAV (.int .u8) d4, .y (.int .u64 (toI d5)), .y (.int .i64 (toI d6)), .y (.string (toS d7)), .y (.int .i64 (toI e1)), .y (.int .u64 (toI e2)), .y (.int .u64 (toI e3)), .y (.string (toS e4)), slAV (.int .i64) e5, .y (.int .u64 (toI e6)), .y (.int .u64 (toI e7)), .y (.string (toS e8)), .y (.int .i64 (toI e9)), .y (.int .i64 (toI e10)), .y (.int .u64 (toI e11)), .y (.int .i64 (toI e12))] := by
    simp only [shCal, shAd, enc_st, enc_cons, enc_nil, slAV_eq, encI_ok w1, encS_ok w2, encS_ok w3, encI_ok w5, encI_ok w6, encS_ok w7, encI_ok x1, encI_ok x2, encI_ok x3, encS_ok x4, encI_ok x6, encI_ok x7, encS_ok x8, encI_ok x9, encI_ok x10, encI_ok x11, encI_ok x12]
    rfl
  rw [e] at h
  obtain ⟨v1, y1, rfl, h1, v2, y2, rfl, h2, v3, y3, rfl, h3, v4, y4, rfl, h4, v5, y5, rfl, h5, v6, y6, rfl, h6, v7, y7, rfl, h7, v8, y8, rfl, h8, v9, y9, rfl, h9, v10, y10, rfl, h10, v11, y11, rfl, h11, v12, y12, rfl, h12, v13, y13, rfl, h13, v14, y14, rfl, h14, v15, y15, rfl, h15, v16, y16, rfl, h16, v17, y17, rfl, h17, v18, y18, rfl, h18, v19, y19, rfl, h19, rfl⟩ := h
  exact ⟨_, _, rfl, h1, _, _, rfl, h2, _, _, rfl, h3, _, _, rfl, relB w4 h4, _, _, rfl, h5, _, _, rfl, h6, _, _, rfl, h7, _, _, rfl, h8, _, _, rfl, h9, _, _, rfl, h10, _, _, rfl, h11, _, _, rfl, relIs x5 h12, _, _, rfl, h13, _, _, rfl, h14, _, _, rfl, h15, _, _, rfl, h16, _, _, rfl, h17, _, _, rfl, h18, _, _, rfl, h19, rfl⟩
theorem undCal : ∃ fs, Tryd.prog.underlying 33 = some (.struct fs) ∧ fs.toList.map (·.type) = [27, 9, 9, 28, 23, 3, 9, 31] := structTypes_ok (by kernel_rfl)
theorem undAd : ∃ fs, Tryd.prog.underlying 31 = some (.struct fs) ∧ fs.toList.map (·.type) = [29, 23, 23, 9, 22, 23, 23, 9, 3, 3, 23, 3] := structTypes_ok (by kernel_rfl)
theorem cal_sized {K : Type} {d : DataW K} (hd : shCal.wf d) (hw : (d.weights Tryd.prog 33).all (· ≤ reachBytes) = true) : C.CalOk (toCal d) := by
  obtain ⟨ds, rfl, d1, r1, rfl, w1, d2, r2, rfl, w2, d3, r3, rfl, w3, d4, r4, rfl, w4, d5, r5, rfl, w5, d6, r6, rfl, w6, d7, r7, rfl, w7, d8, r8, rfl, w8, rfl⟩ := hd
  obtain ⟨es, rfl, e1, s1, rfl, x1, e2, s2, rfl, x2, e3, s3, rfl, x3, e4, s4, rfl, x4, e5, s5, rfl, x5, e6, s6, rfl, x6, e7, s7, rfl, x7, e8, s8, rfl, x8, e9, s9, rfl, x9, e10, s10, rfl, x10, e11, s11, rfl, x11, e12, s12, rfl, x12, rfl⟩ := w8
  obtain ⟨fs, hf, ht⟩ := undCal
  have h := weights_struct hf hw
  rw [ht] at h
  obtain ⟨_, h⟩ := weights_cons h
  obtain ⟨_, h⟩ := weights_cons h
  obtain ⟨_, h⟩ := weights_cons h
  obtain ⟨h4, h⟩ := weights_cons h
  obtain ⟨_, h⟩ := weights_cons h
  obtain ⟨_, h⟩ := weights_cons h
  obtain ⟨_, h⟩ := weights_cons h
  obtain ⟨h8, _⟩ := weights_cons h
  obtain ⟨gs, hg, gt⟩ := undAd
  have k := weights_struct hg h8
  rw [gt] at k
  obtain ⟨_, k⟩ := weights_cons k
  obtain ⟨_, k⟩ := weights_cons k
  obtain ⟨_, k⟩ := weights_cons k
  obtain ⟨_, k⟩ := weights_cons k
  obtain ⟨k5, _⟩ := weights_cons k
  exact ⟨by have := bs_sized h4; show (listOf toI d4).length ≤ _; omega, by have := is_sized k5; show (listOf toI e5).length * 8 ≤ _; omega⟩
/-! replies -/
def shRes : Sh := .st [.int .i64, .int .u64, .bool, .sl shRec]
def shRep : Sh := .st [.int .u64, .int .i64, .int .i64, shRes, .int .u64, .sl shShd, .int .u64, .int .u64, .int .u64]
def toRep {K : Type} : DataW K → C.Rep
  | .agg [a, b, c, .agg [d, e, f, g], h, i, j, k, l] => ⟨toI a, toI b, toI c, toI d, toI e, toB f, listOf toRec g, toI h, listOf toShd i, toI j, toI k, toI l⟩
  | _ => default
theorem rep_enc {K : Type} {d : DataW K} (hd : shRep.wf d) : ∃ d1 d2 d3 e1 e2 e3 e4 d5 d6 d7 d8 d9, d = .agg [d1, d2, d3, .agg [e1, e2, e3, e4], d5, d6, d7, d8, d9] ∧ (Sh.sl shRec).wf e4 ∧ (Sh.sl shShd).wf d6 ∧ shRep.enc d = [.y (.int .u64 (toI d1)), .y (.int .i64 (toI d2)), .y (.int .i64 (toI d3)), .y (.int .i64 (toI e1)), .y (.int .u64 (toI e2)), .y (.bool (toB e3)), slAV shRec e4, .y (.int .u64 (toI d5)), slAV shShd d6, .y (.int .u64 (toI d7)), .y (.int .u64 (toI d8)), .y (.int .u64 (toI d9))] := by
  obtain ⟨ds, rfl, d1, r1, rfl, w1, d2, r2, rfl, w2, d3, r3, rfl, w3, d4, r4, rfl, w4, d5, r5, rfl, w5, d6, r6, rfl, w6, d7, r7, rfl, w7, d8, r8, rfl, w8, d9, r9, rfl, w9, rfl⟩ := hd
  obtain ⟨es, rfl, e1, s1, rfl, x1, e2, s2, rfl, x2, e3, s3, rfl, x3, e4, s4, rfl, x4, rfl⟩ := w4
  refine ⟨d1, d2, d3, e1, e2, e3, e4, d5, d6, d7, d8, d9, rfl, x4, w6, ?_⟩
  simp only [shRep, shRes, enc_st, enc_cons, enc_nil, slAV_eq, encI_ok w1, encI_ok w2, encI_ok w3, encI_ok w5, encI_ok w7, encI_ok w8, encI_ok w9, encI_ok x1, encI_ok x2, encO_ok x3]
  rfl
theorem relRep {K : Type} {d : DataW K} (hd : shRep.wf d) {H : HH} {E : Env} {vs : List Value} (h : RelL (shRep.enc d) H E vs) : RelL (C.encRp (toRep d)) H E vs := by
  obtain ⟨d1, d2, d3, e1, e2, e3, e4, d5, d6, d7, d8, d9, rfl, x4, w6, e⟩ := rep_enc hd
  rw [e] at h
  obtain ⟨v1, y1, rfl, h1, v2, y2, rfl, h2, v3, y3, rfl, h3, v4, y4, rfl, h4, v5, y5, rfl, h5, v6, y6, rfl, h6, v7, y7, rfl, h7, v8, y8, rfl, h8, v9, y9, rfl, h9, v10, y10, rfl, h10, v11, y11, rfl, h11, v12, y12, rfl, h12, rfl⟩ := h
  exact ⟨_, _, rfl, h1, _, _, rfl, h2, _, _, rfl, h3, _, _, rfl, h4, _, _, rfl, h5, _, _, rfl, h6, _, _, rfl, relRs x4 h7, _, _, rfl, h8, _, _, rfl, relShs w6 h9, _, _, rfl, h10, _, _, rfl, h11, _, _, rfl, h12, rfl⟩
theorem undRep : ∃ fs, Tryd.prog.underlying 52 = some (.struct fs) ∧ fs.toList.map (·.type) = [23, 36, 3, 49, 23, 50, 23, 23, 23] := structTypes_ok (by kernel_rfl)
theorem undRes : ∃ fs, Tryd.prog.underlying 49 = some (.struct fs) ∧ fs.toList.map (·.type) = [36, 23, 4, 47] := structTypes_ok (by kernel_rfl)
structure RepSz (r : C.Rep) : Prop where
  rc : r.recs.length * 64 ≤ 140737488351232
  rl : r.shards.length * 104 ≤ 140737488355328
  rs : ∀ x ∈ r.shards, C.ShOk x
theorem rep_sized {K : Type} {d : DataW K} (hd : shRep.wf d) (hw : (d.weights Tryd.prog 52).all (· ≤ reachBytes) = true) : RepSz (toRep d) := by
  obtain ⟨d1, d2, d3, e1, e2, e3, e4, d5, d6, d7, d8, d9, rfl, x4, w6, e⟩ := rep_enc hd
  obtain ⟨fs, hf, ht⟩ := undRep
  have h := weights_struct hf hw
  rw [ht] at h
  obtain ⟨_, h⟩ := weights_cons h
  obtain ⟨_, h⟩ := weights_cons h
  obtain ⟨_, h⟩ := weights_cons h
  obtain ⟨h4, h⟩ := weights_cons h
  obtain ⟨_, h⟩ := weights_cons h
  obtain ⟨h6, _⟩ := weights_cons h
  obtain ⟨gs, hg, gt⟩ := undRes
  have k := weights_struct hg h4
  rw [gt] at k
  obtain ⟨_, k⟩ := weights_cons k
  obtain ⟨_, k⟩ := weights_cons k
  obtain ⟨_, k⟩ := weights_cons k
  obtain ⟨k4, _⟩ := weights_cons k
  have s := shs_sized w6 h6
  exact ⟨rs_sized k4, s.1, s.2⟩
end Go.Proofs.YtdpbogaldcpfeaaDoor

/-! A client finds the shard: from the statement to the law. -/
namespace Go.Proofs.YtdpbogaldcpfeaaDoor.C
open Go.Ax Go.Shelf Go.RowKit Go.ChangeShapes Go.WideShapes Go.ChangeAt
set_option maxRecDepth 1000000
theorem fi_ok {k : Cal} {l : List Shd} {r : Rep} (hk : CalOk k) (hl : l.length * 104 ≤ 140737488355328 ∧ ∀ x ∈ l, ShOk x) (hr : RepSz r) : FiOk k l r := ⟨hk, hl.1, hl.2, by have := hr.rc; omega, hr.rl, hr.rs⟩
def clientFinds_laidL : List (String × DataW Unit) := Rows.clientFindsRow.laid
noncomputable def clientFinds_layW (os : Os) : World := World.laidAll Tryd.prog os clientFinds_laidL
theorem clientFinds_lay_met (os : Os) (args : Array Value) : laidMetH Tryd.prog clientFinds_laidL ((clientFinds_layW os).forCall (fun _ _ => 0) ⟨#[], args, []⟩).memory := by
  have e : ∀ w, laidMetH Tryd.prog clientFinds_laidL w = laidMet Tryd.prog clientFinds_laidL w := fun w => by kernel_rfl
  rw [e]
  exact laidMet_laidAll args (by kernel_rfl) (by kernel_rfl)
theorem clientFinds_lifted (os : Os) (started : os.Started) (K : Type) (enc : TypeId × Value → K) :
    ReturnsInHanded {} Tryd.checked os 6 .any (fun w args => (Rows.clientFindsSpec.pre enc Tryd.prog Tryd.f6 [] false w args ∧ laidMetH Tryd.prog clientFinds_laidL w) ∧ sizedMet enc Tryd.prog Tryd.f6 (OpenSpec.ofChange Rows.clientFindsSpec) false w args)
      (Rows.clientFindsSpec.post enc Tryd.prog Tryd.f6 false true false false) := by
  refine returnsInHanded_of_change_and (C := Tryd.checked) (X := fun w _ => laidMetH Tryd.prog clientFinds_laidL w) (fun _ _ _ hh h => h.of_heap hh) Tryd.own started (by kernel_rfl) Tryd.func6
    (ChangeSpec.witness_at (enc := enc) (C := Tryd.checked) (os := os) (X := fun w _ => laidMetH Tryd.prog clientFinds_laidL w) false (clientFinds_layW os) #[.agg #[.int .i64 0, .string ⟨#[]⟩, .string ⟨#[]⟩, .slice Option.none 0 0, .int .u64 0, .int .i64 0, .string ⟨#[]⟩, .int .i64 0, .int .u64 0, .int .u64 0, .string ⟨#[]⟩, .slice Option.none 0 0, .int .u64 0, .int .u64 0, .string ⟨#[]⟩, .int .i64 0, .int .i64 0, .int .u64 0, .int .i64 0], .slice Option.none 0 0, .agg #[.int .u64 0, .int .i64 0, .int .i64 0, .int .i64 0, .int .u64 0, .bool false, .slice Option.none 0 0, .int .u64 0, .slice Option.none 0 0, .int .u64 0, .int .u64 0, .int .u64 0]] 8 rfl (by kernel_rfl) (by kernel_rfl) (by kernel_rfl) (by kernel_rfl) (by kernel_rfl) (clientFinds_lay_met os _)) ?_
  intro W base args ds gs before hval0 hW hcnd hsz hL _
  have hps : Tryd.f6.params.toList = [33, 50, 52] := by kernel_rfl
  obtain ⟨p, q, hA, hV, hbef, hfz, hnd⟩ := id hW
  rw [hps] at hA hsz
  have ⟨hr, hwf⟩ := lift_all [shCal, .sl shShd, shRep] (by kernel_rfl) hA
  obtain ⟨v1, v2, v3, d1, d2, d3, _, _, _, e1, rfl, _, _, _, _⟩ := trodAll_three hA
  obtain ⟨_, _, g1, w1, _, _, g2, w2, _, _, g3, w3, _⟩ := hwf
  obtain ⟨rfl, q1⟩ := List.cons.inj g1
  subst q1
  obtain ⟨rfl, q2⟩ := List.cons.inj g2
  subst q2
  obtain ⟨rfl, _⟩ := List.cons.inj g3
  subst e1
  obtain ⟨h1, hs1⟩ := weights_cons (P := Tryd.prog) (t := 33) (d := d1) hsz
  obtain ⟨h2, hs2⟩ := weights_cons (P := Tryd.prog) (t := 50) (d := d2) hs1
  obtain ⟨h3, hs3⟩ := weights_cons (P := Tryd.prog) (t := 52) (d := d3) hs2
  have r1 := hr.1
  obtain ⟨fs1, hf1, _⟩ := undCal
  have r1 := relA hf1 (hval0 0 _ _ (by kernel_rfl) rfl) (relCal w1 r1)
  have r2 := hr.2.1
  rw [slAV_eq] at r2
  obtain ⟨s2, n2, c2, rfl⟩ := okWide_slice undShs (hval0 1 _ _ (by kernel_rfl) rfl)
  obtain ⟨_, _, er, r2, _⟩ := r2
  cases er
  have r2 := relShs w2 r2
  have r3 := hr.2.2.1
  obtain ⟨fs3, hf3, _⟩ := undRep
  have r3 := relA hf3 (hval0 2 _ _ (by kernel_rfl) rfl) (relRep w3 r3)
  refine open_calls (call_of (finds_c _ _ _ (fi_ok (cal_sized w1 h1) (shs_sized w2 h2) (rep_sized w3 h3)))) (t := 4) (ds := [d1, d2, d3]) ⟨_, _, rfl, r1, _, _, rfl, r2, _, _, rfl, r3, rfl⟩ (by kernel_rfl) underBool rfl rfl Tryd.laidOut Tryd.mapsRowed Tryd.slicesOk (by rw [hps]; intro t ht; simp only [List.mem_cons, List.not_mem_nil, or_false] at ht; rcases ht with rfl | rfl | rfl <;> exact of_decide_eq_true (by kernel_rfl)) hW
theorem clientFinds_holds : Rows.ClientFindsSaid :=
  OpenClaim.holds_of_wide 6 Tryd.f6 rfl rfl rfl rfl rfl rfl rfl ⟨rfl, rfl, rfl, rfl, rfl⟩ rfl rfl rfl rfl rfl (by kernel_rfl) Tryd.func6 (by kernel_rfl)
    (of_decide_eq_true (by kernel_rfl)) (by unfold Func.isWrapper; first | (rw [if_pos (by decide +kernel)]; kernel_rfl) | (rw [if_neg (by decide +kernel)]; exact ⟨rfl, rfl⟩))
    (fun os started H enc _ => clientFinds_lifted os started H enc)
theorem clientFinds_said : Rows.ClientFindsCardSaid :=
  Claim7.holds_tied_plain_at .later [] [.data, .pinned] true (true, "d686f48c37c53b8b17edd79b07371d72aa1eab26c4c3d22259758825fe5fa4ef") false
    clientFinds_holds (fun _ h => by cases h) (by kernel_rfl) (fun _ h => by cases h) clientFinds_row_tie rfl ⟨rfl, rfl⟩ (by kernel_rfl) rfl
    (fun f fn hf hfn => by
      obtain rfl : f = 6 := Option.some.inj ((show Tryd.prog.funcNamed "gazette/gazettelaw21.ClientFinds" = some 6 by kernel_rfl).symm.trans hf) |>.symm
      obtain rfl : fn = Tryd.f6 := (Option.some.inj (Tryd.func6.symm.trans hfn)).symm
      exact ⟨by kernel_rfl, fun j t ht => by
        rw [show Tryd.f6.params = #[33, 50, 52] by kernel_rfl] at ht
        have h3 : t = 33 ∨ t = 50 ∨ t = 52 := by
          rcases j with _ | _ | _ | j
          · exact Or.inl (by simpa using ht.symm)
          · exact Or.inr (Or.inl (by simpa using ht.symm))
          · exact Or.inr (Or.inr ((by simpa using ht.symm)))
          · simp at ht
        rcases h3 with rfl | rfl | rfl
        · exact (show Tryd.prog.wantsStandIn 33 = false by kernel_rfl)
        · exact (show Tryd.prog.wantsStandIn 50 = false by kernel_rfl)
        · exact (show Tryd.prog.wantsStandIn 52 = false by kernel_rfl)⟩)
    (by kernel_rfl)
end Go.Proofs.YtdpbogaldcpfeaaDoor.C
namespace Go.Proofs.YtdpbogaldcpfeaaDoor
theorem finds_said : Rows.ClientFindsCardSaid := C.clientFinds_said
end Go.Proofs.YtdpbogaldcpfeaaDoor
