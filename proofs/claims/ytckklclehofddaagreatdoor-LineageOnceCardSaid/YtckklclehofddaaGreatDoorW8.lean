/- PROVED: for every two states and every key the law LineageOnce answers true: what is not new to a state is not new to any that is made of it. Its conditions are those of the given statement. -/
import Derived.Test.YtckklclehofddaaGreatDoorW7
set_option linter.unusedVariables false
set_option linter.unusedSimpArgs false
set_option linter.unusedSectionVars false
/-! From the statements to the laws: records, consumers, producers, states. -/
namespace Go.Proofs.YtckklclehofddaaGreatDoor
open Go.Ax Go.Shelf Go.RowKit Go.ChangeShapes Go.WideShapes Go.ChangeAt
set_option maxRecDepth 1000000
def shRec : Sh := .st [.int .u64, .str, .sl (.int .u8), .int .u64, .int .u64]
def toRec {K : Type} : DataW K → Rec
  | .agg [a, b, c, d, e] => ⟨toI a, toS b, listOf toI c, toI d, toI e⟩
  | _ => default
theorem relB {K : Type} {d : DataW K} (hd : (Sh.sl (.int .u8)).wf d) {H : HH} {E : Env} {v : Value} (h : Rel (slAV (.int .u8) d) H E v) : Rel (encBs true (listOf toI d)) H E v := conv_sl (encA := encB) (fun x hx => encI_ok hx) hd h
theorem rec_enc {K : Type} {d : DataW K} (hd : shRec.wf d) : ∃ a b c e f, d = .agg [a, b, c, e, f] ∧ (Sh.sl (.int .u8)).wf c ∧ shRec.enc d = [.y (.int .u64 (toI a)), .y (.string (toS b)), slAV (.int .u8) c, .y (.int .u64 (toI e)), .y (.int .u64 (toI f))] := by
  obtain ⟨ds, rfl, d1, r1, rfl, w1, d2, r2, rfl, w2, d3, r3, rfl, w3, d4, r4, rfl, w4, d5, r5, rfl, w5, rfl⟩ := hd
  refine ⟨d1, d2, d3, d4, d5, rfl, w3, ?_⟩
  simp only [shRec, enc_st, enc_cons, enc_nil, encI_ok w1, encS_ok w2, slAV_eq, encI_ok w4, encI_ok w5]
  rfl
theorem rec_conv {K : Type} {d : DataW K} (hd : shRec.wf d) (j : Nat) (hj : j < 5) (H : HH) (E : Env) (v : Value) (h : Rel (Ax.get (shRec.enc d) j) H E v) : Rel (Ax.get (encR (toRec d)) j) H E v := by
  obtain ⟨a, b, c, e, f, rfl, wc, he⟩ := rec_enc hd
  rw [he] at h
  match j, hj with
  | 0, _ => exact h
  | 1, _ => exact h
  | 2, _ => exact relB wc h
  | 3, _ => exact h
  | 4, _ => exact h
theorem relRs {K : Type} {d : DataW K} (hd : (Sh.sl shRec).wf d) {H : HH} {E : Env} {v : Value} (h : Rel (slAV shRec d) H E v) : Rel (encRs true (listOf toRec d)) H E v :=
  conv_slR (encA := encR) (fun x hx j hj H E v => rec_conv hx j hj H E v) hd h
theorem undRs : Tryz.prog.underlying 26 = some (.slice 37) := by kernel_rfl
theorem bytesR : Tryz.prog.bytesOf 37 = 64 := by kernel_rfl
theorem rs_sized {K : Type} {d : DataW K} (hw : (d.weights Tryz.prog 26).all (· ≤ reachBytes) = true) : (listOf toRec d).length * 64 ≤ 140737488351232 := by
  have := weights_slice toRec undRs hw
  rwa [bytesR] at this
def shCon : Sh := .st [.str, .int .u64]
def toC {K : Type} : DataW K → Con
  | .agg [a, b] => ⟨toS a, toI b⟩
  | _ => default
theorem off_of {K : Type} {d : DataW K} (h : (Sh.int .u64).wf d) : offOk (toI d) := by
  obtain ⟨k, n, rfl, w⟩ := h
  have := bounds_u64 w
  exact ⟨by show 0 ≤ n; omega, by show n < _; omega⟩
theorem toC_ok {K : Type} {d : DataW K} (h : shCon.wf d) : shCon.enc d = encC (toC d) ∧ offOk (toC d).off := by
  obtain ⟨ds, rfl, d1, r1, rfl, w1, d2, r2, rfl, w2, rfl⟩ := h
  refine ⟨?_, off_of w2⟩
  simp only [shCon, enc_st, enc_cons, enc_nil, encS_ok w1, encI_ok w2]
  rfl
theorem wf_cons {K : Type} {d : DataW K} (h : (Sh.sl shCon).wf d) : wfC (listOf toC d) := by
  rcases h with rfl | ⟨xs, r, rfl, hx⟩
  · intro y hy; cases hy
  · intro y hy
    obtain ⟨x, hx', rfl⟩ := List.mem_map.1 hy
    exact (toC_ok (hx x hx')).2
theorem relCs {K : Type} {d : DataW K} (hd : (Sh.sl shCon).wf d) {H : HH} {E : Env} {v : Value} (h : Rel (slAV shCon d) H E v) : Rel (encCs true (listOf toC d)) H E v := conv_sl (fun x hx => (toC_ok hx).1) hd h
theorem undCs : Tryz.prog.underlying 28 = some (.slice 41) := by kernel_rfl
theorem bytesC : Tryz.prog.bytesOf 41 = 24 := by kernel_rfl
def shPro : Sh := .st [.int .u64, .int .u64, .bool, .int .u64]
def toPro {K : Type} : DataW K → P.Producer
  | .agg [a, b, c, e] => ⟨toI a, toI b, toB c, toI e⟩
  | _ => default
theorem toPro_ok {K : Type} {d : DataW K} (h : shPro.wf d) : shPro.enc d = P.encP (toPro d) ∧ offOk (toPro d).offset := by
  obtain ⟨ds, rfl, d1, r1, rfl, w1, d2, r2, rfl, w2, d3, r3, rfl, w3, d4, r4, rfl, w4, rfl⟩ := h
  refine ⟨?_, off_of w4⟩
  simp only [shPro, enc_st, enc_cons, enc_nil, encI_ok w1, encI_ok w2, encO_ok w3, encI_ok w4]
  rfl
theorem wf_prods {K : Type} {d : DataW K} (h : (Sh.sl shPro).wf d) : ∀ x ∈ listOf toPro d, 0 ≤ x.offset ∧ x.offset < 18446744073709551616 := by
  rcases h with rfl | ⟨xs, r, rfl, hx⟩
  · intro y hy; cases hy
  · intro y hy
    obtain ⟨x, hx', rfl⟩ := List.mem_map.1 hy
    exact (toPro_ok (hx x hx')).2
theorem relPs {K : Type} {d : DataW K} (hd : (Sh.sl shPro).wf d) {H : HH} {E : Env} {v : Value} (h : Rel (slAV shPro d) H E v) : Rel (P.encPs true (listOf toPro d)) H E v := conv_sl (fun x hx => (toPro_ok hx).1) hd h
theorem undPs : Tryz.prog.underlying 27 = some (.slice 39) := by kernel_rfl
theorem bytesP : Tryz.prog.bytesOf 39 = 32 := by kernel_rfl
def shRng : Sh := .st [.str, .str]
def toRng {K : Type} : DataW K → Rng
  | .agg [a, b] => ⟨toS a, toS b⟩
  | _ => default
theorem toRng_ok {K : Type} {d : DataW K} (h : shRng.wf d) : shRng.enc d = encG (toRng d) := by
  obtain ⟨ds, rfl, d1, r1, rfl, w1, d2, r2, rfl, w2, rfl⟩ := h
  simp only [shRng, enc_st, enc_cons, enc_nil, encS_ok w1, encS_ok w2]
  rfl
def shPart : Sh := .st [shRng, .int .u64, .int .u64, .sl shRec, .sl shPro, .sl shCon]
def toPart {K : Type} : DataW K → Part
  | .agg [a, b, c, e, f, g] => ⟨toRng a, toI b, toI c, listOf toRec e, listOf toPro f, listOf toC g⟩
  | _ => default
theorem relPart {K : Type} {d : DataW K} (hd : shPart.wf d) {H : HH} {E : Env} {vs : List Value} (h : RelL (shPart.enc d) H E vs) : RelL (encPt true (toPart d)) H E vs := by
  obtain ⟨ds, rfl, d1, r1, rfl, w1, d2, r2, rfl, w2, d3, r3, rfl, w3, d4, r4, rfl, w4, d5, r5, rfl, w5, d6, r6, rfl, w6, rfl⟩ := hd
  have e : shPart.enc (DataW.agg [d1, d2, d3, d4, d5, d6]) = [.y (.string (toRng d1).lo), .y (.string (toRng d1).hi), .y (.int .u64 (toI d2)), .y (.int .u64 (toI d3)), slAV shRec d4, slAV shPro d5, slAV shCon d6] := by
    simp only [shPart, enc_st, enc_cons, enc_nil, slAV_eq, toRng_ok w1, encI_ok w2, encI_ok w3]
    rfl
  rw [e] at h
  obtain ⟨v1, x1, rfl, h1, v2, x2, rfl, h2, v3, x3, rfl, h3, v4, x4, rfl, h4, v5, x5, rfl, h5, v6, x6, rfl, h6, v7, x7, rfl, h7, rfl⟩ := h
  exact ⟨_, _, rfl, h1, _, _, rfl, h2, _, _, rfl, h3, _, _, rfl, h4, _, _, rfl, relRs w4 h5, _, _, rfl, relPs w5 h6, _, _, rfl, relCs w6 h7, rfl⟩
theorem undPart : ∃ fs, Tryz.prog.underlying 30 = some (.struct fs) ∧ fs.toList.map (·.type) = [24, 25, 25, 26, 27, 28] := structTypes_ok (by kernel_rfl)
structure PartSz (p : Part) : Prop where
  rl : p.recs.length * 64 ≤ 140737488351232
  pl : p.prods.length * 32 ≤ 140737488351232
  cl : p.cons.length * 24 ≤ 140737488351232
  po : ∀ x ∈ p.prods, 0 ≤ x.offset ∧ x.offset < 18446744073709551616
  co : wfC p.cons
theorem part_sz {K : Type} {d : DataW K} (hd : shPart.wf d) (hw : (d.weights Tryz.prog 30).all (· ≤ reachBytes) = true) : PartSz (toPart d) := by
  obtain ⟨ds, rfl, d1, r1, rfl, w1, d2, r2, rfl, w2, d3, r3, rfl, w3, d4, r4, rfl, w4, d5, r5, rfl, w5, d6, r6, rfl, w6, rfl⟩ := hd
  obtain ⟨fs, hf, ht⟩ := undPart
  have h := weights_struct hf hw
  rw [ht] at h
  obtain ⟨h1, h⟩ := weights_cons h
  obtain ⟨h2, h⟩ := weights_cons h
  obtain ⟨h3, h⟩ := weights_cons h
  obtain ⟨h4, h⟩ := weights_cons h
  obtain ⟨h5, h⟩ := weights_cons h
  obtain ⟨h6, h⟩ := weights_cons h
  have k5 := weights_slice toPro undPs h5
  have k6 := weights_slice toC undCs h6
  rw [bytesP] at k5
  rw [bytesC] at k6
  exact ⟨rs_sized h4, k5, k6, wf_prods w5, wf_cons w6⟩
end Go.Proofs.YtckklclehofddaaGreatDoor

/-! Lineage: the law Once; from the statement to it. -/
namespace Go.Proofs.YtckklclehofddaaGreatDoor.D
open Go.Ax Go.Shelf Go.RowKit Go.ChangeShapes Go.WideShapes Go.ChangeAt
set_option maxRecDepth 1000000
theorem tab_rising {l : List P.Producer} (h : P.isTable l = true) : P.rising l := ((P.table_iff l).1 h).2.1
theorem not_new {l : List P.Producer} (h : P.isTable l = true) {x : P.Producer} (hx : x ∈ l) {s : Int} (hs : s ≤ x.seq) : P.judgeV l x.id s ≠ 1 := fun e => by
  obtain ⟨_, h2⟩ := (P.judge_fresh (tab_rising h) x.id s).1 e
  have := h2 x hx rfl
  omega
theorem judge_two {l : List P.Producer} {id s : Int} (h : P.judgeV l id s = 2) : P.findI l id = true ∧ (P.findD l id).here = true := by
  unfold P.judgeV at h
  split at h
  · cases h
  · split at h
    · cases h
    · split at h
      · rename_i h1 h2 h3
        simp only [Bool.or_eq_true, not_or, Bool.not_eq_true', Bool.and_eq_true] at h2 h3
        exact ⟨by simpa using h2.1, h3.2⟩
      · cases h
theorem find_mem {l : List P.Producer} (h : P.isTable l = true) {x : P.Producer} (hx : x ∈ l) (to : List Int) (hf : P.findI (P.moveL l to) x.id = true) : P.findD (P.moveL l to) x.id = P.mvP to x := by
  rw [P.findI_move] at hf
  obtain ⟨h1, h2⟩ := P.find_of hf
  have e := P.pw_unique ((P.rising_pw l).1 (tab_rising h)) h1 hx h2
  unfold P.findD
  rw [P.find_move]
  unfold P.findD at e
  unfold P.findI at hf
  obtain ⟨z, hz⟩ := Option.isSome_iff_exists.1 hf
  rw [hz] at e ⊢
  have e : z = x := e
  rw [e]; rfl
theorem xat_mem {x : Onc} {i : Nat} (hi : i < x.p.prods.length + x.q.prods.length) : (i < x.p.prods.length ∧ xAt x i ∈ x.p.prods) ∨ xAt x i ∈ x.q.prods := by
  unfold xAt
  split
  · rename_i h; exact .inl ⟨h, by simp [h]⟩
  · rename_i h
    have : i - x.p.prods.length < x.q.prods.length := by omega
    exact .inr (by simp [this])
def SqOk (p : Part) : Prop := ∀ y ∈ p.prods, 0 ≤ y.seq ∧ y.seq < 18446744073709551616
theorem once_c (p : Part) (k : ByteArray) (q : Part) (hp : PartTy p) (hq : PartTy q) (sp : SqOk p) (sq : SqOk q) (hk : k.size ≤ 9223372036854775807) :
    (boolR true).Sat (ACall' Tryz.prog 7 [.agg (encPt true p), .y (.string k), .agg (encPt true q)] []) := by
  have hS : ∃ A B e, SplR p k A B e ∧ A.prods.length ≤ 9223372036854775806 ∧ B.prods.length ≤ 9223372036854775806 ∧ (e = 0 → splitE p k = 0 ∧ A = partOf p (rLow p.rng k) ∧ B = partOf p (rHigh p.rng k)) := by
    have h0 := split_c p k hp hk
    unfold splitT at h0
    by_cases h1 : splitE p k = 0
    · rw [h1] at h0
      refine ⟨partOf p (rLow p.rng k), partOf p (rHigh p.rng k), 0, ⟨ret_as (r := .tup [.agg (encPt true (partOf p (rLow p.rng k))), .agg (encPt true (partOf p (rHigh p.rng k))), .s (.int .i64 0)]) (fun _ _ _ h => h) fun Q hq => h0 Q ⟨fun _ => hq, fun e => by simp at e⟩⟩, ?_, ?_, fun _ => ⟨h1, rfl, rfl⟩⟩
      · have := hp.pl; show (P.moveL _ _).length ≤ _; simp [P.moveL]; omega
      · have := hp.pl; show (P.moveL _ _).length ≤ _; simp [P.moveL]; omega
    · refine ⟨default, default, splitE p k, ⟨fun Q hq => h0 Q ⟨fun e => by simp at e; exact absurd e h1, fun _ => hq⟩⟩, by decide, by decide, fun e => absurd e h1⟩
  have hM : ∃ M f, MrgR p q M f ∧ M.prods.length ≤ 9223372036854775806 ∧ (f = 0 → ∃ x : Mrg, x.a = p ∧ x.b = q ∧ MrgOk x ∧ M = x.m) := by
    rcases merge_or p q hp hq with ⟨x, rfl, rfl, hx⟩ | ⟨f, f0, hf⟩
    · refine ⟨x.m, 0, ⟨ret_as (r := .tup [.agg (encPt true x.m), .s (.int .i64 0)]) (fun _ _ _ h => h) (m9_c x hx)⟩, ?_, fun _ => ⟨x, rfl, rfl, hx, rfl⟩⟩
      have := hx.oi.pl; omega
    · exact ⟨default, f, ⟨ret_as (r := .tup [.agg (encPt true default), .s (.int .i64 f)]) (fun _ _ _ h => h) hf⟩, by decide, fun e => absurd e f0⟩
  obtain ⟨A, B, e, hs, lA, lB, hS⟩ := hS
  obtain ⟨M, f, hm, lM, hM⟩ := hM
  refine oc_c ⟨p, k, q, A, B, M, e, f⟩ ⟨hp.pl, hq.pl, lA, lB, lM, fun i hi => ?_, fun e0 i hi s hs => ?_, fun f0 i hi s hs => ?_⟩ hs hm
  · rcases xat_mem hi with ⟨_, h⟩ | h
    · exact sp _ h
    · exact sq _ h
  · obtain ⟨s1, rfl, rfl⟩ := hS e0
    obtain ⟨o1, o2, o3, o4⟩ := split_ok.1 s1
    have tb := (ok_parts o1).2.2.2.1
    have hl := log_len (ok_parts o1).2.2.1
    have hf := (or_iff p).1 (ok_parts o1).2.2.2.2.2.1
    have hx : xAt ⟨p, k, q, partOf p (rLow p.rng k), partOf p (rHigh p.rng k), M, e, f⟩ i ∈ p.prods := by
      rcases xat_mem (x := ⟨p, k, q, partOf p (rLow p.rng k), partOf p (rHigh p.rng k), M, e, f⟩) (i := i) (by have hi' : i < p.prods.length := hi; show i < p.prods.length + q.prods.length; omega) with ⟨_, h⟩ | h
      · exact h
      · unfold xAt; rw [if_pos hi]; have hi : i < p.prods.length := hi; simp [hi]
    generalize xAt ⟨p, k, q, partOf p (rLow p.rng k), partOf p (rHigh p.rng k), M, e, f⟩ i = y at *
    show P.judgeV (P.moveL p.prods _) y.id s ≠ 1 ∧ P.judgeV (P.moveL p.prods _) y.id s ≠ 1 ∧ (P.judgeV (P.moveL p.prods _) y.id s = 2 → P.judgeV (P.moveL p.prods _) y.id s ≠ 2)
    have n1 := not_new tb hx hs
    refine ⟨fun h => n1 ((P.judge_move _ _ _ _).1 h), fun h => n1 ((P.judge_move _ _ _ _).1 h), fun h1 h2 => ?_⟩
    obtain ⟨g1, g2⟩ := judge_two h1
    obtain ⟨g3, g4⟩ := judge_two h2
    rw [find_mem tb hx _ g1] at g2
    rw [find_mem tb hx _ g3] at g4
    obtain ⟨o, ho, _, e1, r1, _⟩ := mv_here_at hl (hp.po y hx).1 g2
    obtain ⟨o', ho', _, e2, r2, _⟩ := mv_here_at hl (hp.po y hx).1 g4
    have : o = o' := by omega
    subst this
    have h5 := side_has o4 (hf.1 _ (List.getElem_mem ho)).1
    unfold hasR at r1 r2
    rw [r1, r2] at h5
    cases h5
  · obtain ⟨x, rfl, rfl, hx, rfl⟩ := hM f0
    have ta := (ok_parts (not_bad hx.i.ba).1).2.2.2.1
    have tb := (ok_parts (not_bad hx.i.bb).1).2.2.2.1
    have hm' : ∀ y : P.Producer, P.judgeV x.m.prods y.id s = 1 → P.judgeV x.a.prods y.id s = 1 ∧ P.judgeV x.b.prods y.id s = 1 := fun y h => by
      have h : P.judgeV x.ps y.id s = 1 := h
      rw [hx.ps] at h
      exact (P.judge_both ta tb _ _).1 h
    rcases xat_mem hi with ⟨_, h⟩ | h
    · exact fun e => not_new ta h hs (hm' _ e).1
    · exact fun e => not_new tb h hs (hm' _ e).2
theorem part_sq {K : Type} {d : DataW K} (hd : shPart.wf d) : SqOk (toPart d) := by
  obtain ⟨ds, rfl, d1, r1, rfl, w1, d2, r2, rfl, w2, d3, r3, rfl, w3, d4, r4, rfl, w4, d5, r5, rfl, w5, d6, r6, rfl, w6, rfl⟩ := hd
  show ∀ y ∈ listOf toPro d5, _
  rcases w5 with rfl | ⟨xs, r, rfl, hx⟩
  · intro y hy; cases hy
  · intro y hy
    obtain ⟨x, hx', rfl⟩ := List.mem_map.1 hy
    obtain ⟨ds, rfl, e1, _, rfl, v1, e2, _, rfl, v2, e3, _, rfl, v3, e4, _, rfl, v4, rfl⟩ := hx x hx'
    exact off_of v2
theorem ty_sz2 {p : Part} (h : PartSz p) : PartTy p := by
  obtain ⟨h1, h2, h3, h4, h5⟩ := h
  exact ⟨by omega, by omega, by omega, h4, h5⟩
def lineageOnce_laidL : List (String × DataW Unit) := Rows.lineageOnceRow.laid
noncomputable def lineageOnce_layW (os : Os) : World := World.laidAll Tryz.prog os lineageOnce_laidL
theorem lineageOnce_lay_met (os : Os) (args : Array Value) : laidMetH Tryz.prog lineageOnce_laidL ((lineageOnce_layW os).forCall (fun _ _ => 0) ⟨#[], args, []⟩).memory := by
  have e : ∀ w, laidMetH Tryz.prog lineageOnce_laidL w = laidMet Tryz.prog lineageOnce_laidL w := fun w => by kernel_rfl
  rw [e]
  exact laidMet_laidAll args (by kernel_rfl) (by kernel_rfl)
theorem lineageOnce_lifted (os : Os) (started : os.Started) (K : Type) (enc : TypeId × Value → K) :
    ReturnsInHanded {} Tryz.checked os 7 .any (fun w args => (Rows.lineageOnceSpec.pre enc Tryz.prog Tryz.f7 [] false w args ∧ laidMetH Tryz.prog lineageOnce_laidL w) ∧ sizedMet enc Tryz.prog Tryz.f7 (OpenSpec.ofChange Rows.lineageOnceSpec) false w args)
      (Rows.lineageOnceSpec.post enc Tryz.prog Tryz.f7 false true false false) := by
  refine returnsInHanded_of_change_and (C := Tryz.checked) (X := fun w _ => laidMetH Tryz.prog lineageOnce_laidL w) (fun _ _ _ hh h => h.of_heap hh) Tryz.own started (by kernel_rfl) Tryz.func7
    (ChangeSpec.witness_at (enc := enc) (C := Tryz.checked) (os := os) (X := fun w _ => laidMetH Tryz.prog lineageOnce_laidL w) false (lineageOnce_layW os) #[.agg #[.string ⟨#[]⟩, .string ⟨#[]⟩, .int .u64 0, .int .u64 0, .slice Option.none 0 0, .slice Option.none 0 0, .slice Option.none 0 0], .string ⟨#[]⟩, .agg #[.string ⟨#[]⟩, .string ⟨#[]⟩, .int .u64 0, .int .u64 0, .slice Option.none 0 0, .slice Option.none 0 0, .slice Option.none 0 0]] 8 rfl (by kernel_rfl) (by kernel_rfl) (by kernel_rfl) (by kernel_rfl) (by kernel_rfl) (lineageOnce_lay_met os _)) ?_
  intro W base args ds gs before hval0 hW hcnd hsz _ _
  have hps : Tryz.f7.params.toList = [30, 9, 30] := by kernel_rfl
  obtain ⟨p, q, hA, hV, hbef, hfz, hnd⟩ := id hW
  rw [hps] at hA hsz
  have ⟨hr, hwf⟩ := lift_all [shPart, .str, shPart] (by kernel_rfl) hA
  obtain ⟨v1, v2, v3, d1, d2, d3, _, _, _, e1, rfl, _, _, _, _⟩ := trodAll_three hA
  obtain ⟨_, _, g1, w1, _, _, g2, w2, _, _, g3, w3, _⟩ := hwf
  obtain ⟨rfl, q1⟩ := List.cons.inj g1
  subst q1
  obtain ⟨rfl, q2⟩ := List.cons.inj g2
  subst q2
  obtain ⟨rfl, _⟩ := List.cons.inj g3
  subst e1
  obtain ⟨h1, hs1⟩ := weights_cons (P := Tryz.prog) (t := 30) (d := d1) hsz
  obtain ⟨h2, hs2⟩ := weights_cons (P := Tryz.prog) (t := 9) (d := d2) hs1
  obtain ⟨h3, hs3⟩ := weights_cons (P := Tryz.prog) (t := 30) (d := d3) hs2
  have r1 := hr.1
  obtain ⟨fs1, hf1, _⟩ := undPart
  have r1 := relA hf1 (hval0 0 _ _ (by kernel_rfl) rfl) (relPart w1 r1)
  have r2 := hr.2.1
  rw [encS_ok w2] at r2
  obtain ⟨n2, rfl⟩ := okWide_string (show Tryz.prog.underlying 9 = some .string by kernel_rfl) (hval0 1 _ _ (by kernel_rfl) rfl)
  obtain ⟨_, _, er, r2, _⟩ := r2
  cases er
  have r3 := hr.2.2.1
  obtain ⟨fs3, hf3, _⟩ := undPart
  have r3 := relA hf3 (hval0 2 _ _ (by kernel_rfl) rfl) (relPart w3 r3)
  refine open_calls (call_of (once_c _ _ _ (ty_sz2 (part_sz w1 h1)) (ty_sz2 (part_sz w3 h3)) (part_sq w1) (part_sq w3) (str_size w2))) (t := 4) (ds := [d1, d2, d3]) ⟨_, _, rfl, r1, _, _, rfl, r2, _, _, rfl, r3, rfl⟩ (by kernel_rfl) underBool rfl rfl Tryz.laidOut Tryz.mapsRowed Tryz.slicesOk (by rw [hps]; intro t ht; simp only [List.mem_cons, List.not_mem_nil, or_false] at ht; rcases ht with rfl | rfl | rfl <;> exact of_decide_eq_true (by kernel_rfl)) hW
theorem lineageOnce_holds : Rows.LineageOnceSaid :=
  OpenClaim.holds_of_wide 7 Tryz.f7 rfl rfl rfl rfl rfl rfl rfl ⟨rfl, rfl, rfl, rfl, rfl⟩ rfl rfl rfl rfl rfl (by kernel_rfl) Tryz.func7 (by kernel_rfl)
    (of_decide_eq_true (by kernel_rfl)) (by unfold Func.isWrapper; first | (rw [if_pos (by decide +kernel)]; kernel_rfl) | (rw [if_neg (by decide +kernel)]; exact ⟨rfl, rfl⟩))
    (fun os started H enc _ => lineageOnce_lifted os started H enc)
theorem lineageOnce_said : Rows.LineageOnceCardSaid :=
  Claim7.holds_tied_plain_at .later [] [.data, .pinned] true (true, "2178a0abd1c3215b494c4ba3807e31ca51ad02823946fccec094b9321f61a96a") true
    lineageOnce_holds (fun _ h => by cases h) (by kernel_rfl) (fun _ h => by cases h) lineageOnce_row_tie rfl ⟨rfl, rfl⟩ (by kernel_rfl) rfl
    (fun f fn hf hfn => by
      obtain rfl : f = 7 := Option.some.inj ((show Tryz.prog.funcNamed "gazette/gazettelaw17.LineageOnce" = some 7 by kernel_rfl).symm.trans hf) |>.symm
      obtain rfl : fn = Tryz.f7 := (Option.some.inj (Tryz.func7.symm.trans hfn)).symm
      exact ⟨by kernel_rfl, fun j t ht => by
        rw [show Tryz.f7.params = #[30, 9, 30] by kernel_rfl] at ht
        have h3 : t = 30 ∨ t = 9 ∨ t = 30 := by
          rcases j with _ | _ | _ | j
          · exact Or.inl (by simpa using ht.symm)
          · exact Or.inr (Or.inl (by simpa using ht.symm))
          · exact Or.inr (Or.inr ((by simpa using ht.symm)))
          · simp at ht
        rcases h3 with rfl | rfl | rfl
        · exact (show Tryz.prog.wantsStandIn 30 = false by kernel_rfl)
        · exact (show Tryz.prog.wantsStandIn 9 = false by kernel_rfl)
        · exact (show Tryz.prog.wantsStandIn 30 = false by kernel_rfl)⟩)
    (by kernel_rfl)
end Go.Proofs.YtckklclehofddaaGreatDoor.D
namespace Go.Proofs.YtckklclehofddaaGreatDoor
theorem once_said : Rows.LineageOnceCardSaid := D.lineageOnce_said
end Go.Proofs.YtckklclehofddaaGreatDoor
