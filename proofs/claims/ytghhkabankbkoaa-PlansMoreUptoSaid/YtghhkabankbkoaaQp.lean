import Derived.Test.YtghhkabankbkoaaQo
import Derived.Test.YtghhkabankbkoaaRows
import Derived.Test.YtghhkabankbkoaaTyA
import Derived.OpenShut
set_option linter.unusedVariables false
set_option linter.unusedSimpArgs false
/-! Plans: from the statements to the laws. -/
namespace Go.Proofs.Ytghhkabankbkoaa
open Go.Ax Go.Shelf Go.RowKit Go.ChangeShapes Go.WideShapes Go.ChangeAt
set_option maxRecDepth 1000000
def toI {K : Type} : DataW K → Int
  | .lit (.int _ a) => a
  | _ => 0
def toS {K : Type} : DataW K → ByteArray
  | .lit (.string l) => ⟨l.toArray⟩
  | _ => ByteArray.empty
def toB {K : Type} : DataW K → Bool
  | .lit (.bool b) => b
  | _ => false
theorem encI_ok {K : Type} {k : IntKind} {d : DataW K} (h : (Sh.int k).wf d) : (Sh.int k).enc d = [.y (.int k (toI d))] := by
  obtain ⟨k', n, rfl, _⟩ := h
  rfl
theorem encS_ok {K : Type} {d : DataW K} (h : Sh.str.wf d) : Sh.str.enc d = [.y (.string (toS d))] := by
  obtain ⟨l, rfl, _⟩ := h
  rfl
theorem encB_ok {K : Type} {d : DataW K} (h : Sh.bool.wf d) : Sh.bool.enc d = [.y (.bool (toB d))] := by
  obtain ⟨l, rfl⟩ := h
  rfl
theorem enc_st {K : Type} (fs : List Sh) (ds : List (DataW K)) : (Sh.st fs).enc (.agg ds) = Sh.encL fs ds := by simp only [Sh.enc]
theorem enc_cons {K : Type} (s : Sh) (r : List Sh) (d : DataW K) (ds : List (DataW K)) : Sh.encL (s :: r) (d :: ds) = s.enc d ++ Sh.encL r ds := by simp only [Sh.encL]
theorem enc_nil {K : Type} (l : List (DataW K)) : Sh.encL [] l = [] := by simp only [Sh.encL]
def shSite : Sh := .st [.int .u64, .int .i64]
def toSite {K : Type} : DataW K → Site
  | .agg [a, b] => ⟨toI a, toI b⟩
  | _ => default
theorem toSite_ok {K : Type} {d : DataW K} (h : shSite.wf d) : shSite.enc d = encS (toSite d) := by
  obtain ⟨ds, rfl, d1, r1, rfl, w1, d2, r2, rfl, w2, rfl⟩ := h
  simp only [shSite, enc_st, enc_cons, enc_nil, encI_ok w1, encI_ok w2]
  rfl
theorem relU {K : Type} {d : DataW K} (hd : (Sh.sl (.int .u64)).wf d) {H : HH} {E : Env} {v : Value} (h : Rel (slAV (.int .u64) d) H E v) : Rel (encUs true (listOf toI d)) H E v := conv_sl (encA := encU) (fun x hx => encI_ok hx) hd h
theorem relI {K : Type} {d : DataW K} (hd : (Sh.sl (.int .i64)).wf d) {H : HH} {E : Env} {v : Value} (h : Rel (slAV (.int .i64) d) H E v) : Rel (encIs true (listOf toI d)) H E v := conv_sl (encA := encI) (fun x hx => encI_ok hx) hd h
theorem relS {K : Type} {d : DataW K} (hd : (Sh.sl shSite).wf d) {H : HH} {E : Env} {v : Value} (h : Rel (slAV shSite d) H E v) : Rel (encSs true (listOf toSite d)) H E v := conv_sl (fun x hx => toSite_ok hx) hd h
def shPlan : Sh := .st [.int .u64, .int .i64, .str, .int .u64, .int .u64, .str, .sl (.int .u64), .sl (.int .i64), .int .i64, .int .i64, .int .i64]
def toPlan {K : Type} : DataW K → Plan
  | .agg [a, b, c, d, e, f, g, h, i, j, k] => ⟨toI a, toI b, toS c, toI d, toI e, toS f, listOf toI g, listOf toI h, toI i, toI j, toI k⟩
  | _ => ⟨0, 0, ByteArray.empty, 0, 0, ByteArray.empty, [], [], 0, 0, 0⟩
theorem relPlan {K : Type} {d : DataW K} (hd : shPlan.wf d) {H : HH} {E : Env} {vs : List Value} (h : RelL (shPlan.enc d) H E vs) : RelL (encPl true (toPlan d)) H E vs := by
  obtain ⟨ds, rfl, d1, r1, rfl, w1, d2, r2, rfl, w2, d3, r3, rfl, w3, d4, r4, rfl, w4, d5, r5, rfl, w5, d6, r6, rfl, w6, d7, r7, rfl, w7, d8, r8, rfl, w8, d9, r9, rfl, w9, d10, r10, rfl, w10, d11, r11, rfl, w11, rfl⟩ := hd
  simp only [shPlan, enc_st, enc_cons, enc_nil, slAV_eq, encI_ok w1, encI_ok w2, encS_ok w3, encI_ok w4, encI_ok w5, encS_ok w6, encI_ok w9, encI_ok w10, encI_ok w11, List.append_nil, List.cons_append, List.nil_append] at h
  obtain ⟨v1, x1, rfl, h1, v2, x2, rfl, h2, v3, x3, rfl, h3, v4, x4, rfl, h4, v5, x5, rfl, h5, v6, x6, rfl, h6, v7, x7, rfl, h7, v8, x8, rfl, h8, v9, x9, rfl, h9, v10, x10, rfl, h10, v11, x11, rfl, h11, rfl⟩ := h
  exact ⟨_, _, rfl, h1, _, _, rfl, h2, _, _, rfl, h3, _, _, rfl, h4, _, _, rfl, h5, _, _, rfl, h6, _, _, rfl, relU w7 h7, _, _, rfl, relI w8 h8, _, _, rfl, h9, _, _, rfl, h10, _, _, rfl, h11, rfl⟩
def shConf : Sh := .st [.sl (.int .i64), .sl (.int .i64)]
def shSeen : Sh := .st [.sl (.int .u64), .sl shSite, .sl shSite, shConf, .int .i64, .bool]
def toConf {K : Type} : DataW K → List Int × List Int
  | .agg [a, b] => (listOf toI a, listOf toI b)
  | _ => ([], [])
def toSeen {K : Type} : DataW K → Seen
  | .agg [a, b, c, d, e, f] => ⟨listOf toI a, listOf toSite b, listOf toSite c, (toConf d).1, (toConf d).2, toI e, toB f⟩
  | _ => ⟨[], [], [], [], [], 0, false⟩
theorem relSeen {K : Type} {d : DataW K} (hd : shSeen.wf d) {H : HH} {E : Env} {vs : List Value} (h : RelL (shSeen.enc d) H E vs) : RelL (encSe true true (toSeen d)) H E vs := by
  obtain ⟨ds, rfl, d1, r1, rfl, w1, d2, r2, rfl, w2, d3, r3, rfl, w3, d4, r4, rfl, ⟨cs, rfl, c1, q1, rfl, u1, c2, q2, rfl, u2, rfl⟩, d5, r5, rfl, w5, d6, r6, rfl, w6, rfl⟩ := hd
  simp only [shSeen, shConf, enc_st, enc_cons, enc_nil, slAV_eq, encI_ok w5, encB_ok w6, List.append_nil, List.cons_append, List.nil_append] at h
  obtain ⟨v1, x1, rfl, h1, v2, x2, rfl, h2, v3, x3, rfl, h3, v4, x4, rfl, h4, v5, x5, rfl, h5, v6, x6, rfl, h6, v7, x7, rfl, h7, rfl⟩ := h
  exact ⟨_, _, rfl, relU w1 h1, _, _, rfl, relS w2 h2, _, _, rfl, relS w3 h3, _, _, rfl, relI u1 h4, _, _, rfl, relI u2 h5, _, _, rfl, h6, _, _, rfl, h7, rfl⟩
def structTypes (P : Program) (t : TypeId) : Option (List TypeId) := match P.underlying t with | some (.struct fs) => some (fs.toList.map (·.type)) | _ => Option.none
theorem structTypes_ok {P : Program} {t : TypeId} {l : List TypeId} (h : structTypes P t = some l) : ∃ fs, P.underlying t = some (.struct fs) ∧ fs.toList.map (·.type) = l := by
  unfold structTypes at h
  split at h
  · rename_i fs hu
    exact ⟨fs, hu, Option.some.inj h⟩
  · cases h
theorem undPl : ∃ fs, Try.prog.underlying 32 = some (.struct fs) ∧ fs.toList.map (·.type) = [27, 28, 9, 27, 27, 9, 29, 30, 3, 3, 3] := structTypes_ok (by kernel_rfl)
theorem undSe : ∃ fs, Try.prog.underlying 38 = some (.struct fs) ∧ fs.toList.map (·.type) = [29, 34, 34, 36, 3, 4] := structTypes_ok (by kernel_rfl)
theorem undCo : ∃ fs, Try.prog.underlying 36 = some (.struct fs) ∧ fs.toList.map (·.type) = [30, 30] := structTypes_ok (by kernel_rfl)
theorem undU : Try.prog.underlying 29 = some (.slice 27) := by kernel_rfl
theorem undI : Try.prog.underlying 30 = some (.slice 3) := by kernel_rfl
theorem undS : Try.prog.underlying 34 = some (.slice 40) := by kernel_rfl
theorem bytesU : Try.prog.bytesOf 27 = 8 := by kernel_rfl
theorem bytesI : Try.prog.bytesOf 3 = 8 := by kernel_rfl
theorem bytesS : Try.prog.bytesOf 40 = 16 := by kernel_rfl
structure Plan.Sized (p : Plan) : Prop where
  into : p.into.length * 8 ≤ 140737488351232
  nodes : p.nodes.length * 8 ≤ 140737488351232
structure Seen.Sized (s : Seen) : Prop where
  frozen : s.frozen.length * 8 ≤ 140737488351232
  made : s.made.length * 16 ≤ 140737488351232
  gone : s.gone.length * 16 ≤ 140737488351232
  voters : s.voters.length * 8 ≤ 140737488351232
  learners : s.learners.length * 8 ≤ 140737488351232
theorem Plan.Sized.ok {p : Plan} (h : p.Sized) : p.Ok := ⟨by have := h.into; omega, by have := h.nodes; omega⟩
theorem Seen.Sized.ok {s : Seen} (h : s.Sized) : s.Ok := ⟨by have := h.frozen; omega, by have := h.made; omega, by have := h.gone; omega, by have := h.voters; omega, by have := h.learners; omega⟩
theorem plan_sized {K : Type} {d : DataW K} (hd : shPlan.wf d) (hw : (d.weights Try.prog 32).all (· ≤ reachBytes) = true) : (toPlan d).Sized := by
  obtain ⟨ds, rfl, d1, r1, rfl, w1, d2, r2, rfl, w2, d3, r3, rfl, w3, d4, r4, rfl, w4, d5, r5, rfl, w5, d6, r6, rfl, w6, d7, r7, rfl, w7, d8, r8, rfl, w8, d9, r9, rfl, w9, d10, r10, rfl, w10, d11, r11, rfl, w11, rfl⟩ := hd
  obtain ⟨fs, hf, ht⟩ := undPl
  have h := weights_struct hf hw
  rw [ht] at h
  have h7 := (weights_cons (weights_cons (weights_cons (weights_cons (weights_cons (weights_cons h).2).2).2).2).2).2
  have k1 := weights_slice toI undU (weights_cons h7).1
  have k2 := weights_slice toI undI (weights_cons (weights_cons h7).2).1
  rw [bytesU] at k1
  rw [bytesI] at k2
  exact ⟨k1, k2⟩
theorem seen_sized {K : Type} {d : DataW K} (hd : shSeen.wf d) (hw : (d.weights Try.prog 38).all (· ≤ reachBytes) = true) : (toSeen d).Sized := by
  obtain ⟨ds, rfl, d1, r1, rfl, w1, d2, r2, rfl, w2, d3, r3, rfl, w3, d4, r4, rfl, ⟨cs, rfl, c1, q1, rfl, u1, c2, q2, rfl, u2, rfl⟩, d5, r5, rfl, w5, d6, r6, rfl, w6, rfl⟩ := hd
  obtain ⟨fs, hf, ht⟩ := undSe
  obtain ⟨fs2, hf2, ht2⟩ := undCo
  have h := weights_struct hf hw
  rw [ht] at h
  obtain ⟨h1, h⟩ := weights_cons h
  obtain ⟨h2, h⟩ := weights_cons h
  obtain ⟨h3, h⟩ := weights_cons h
  obtain ⟨h4, h⟩ := weights_cons h
  have g := weights_struct hf2 h4
  rw [ht2] at g
  have k1 := weights_slice toI undU h1
  have k2 := weights_slice toSite undS h2
  have k3 := weights_slice toSite undS h3
  have k4 := weights_slice toI undI (weights_cons g).1
  have k5 := weights_slice toI undI (weights_cons (weights_cons g).2).1
  rw [bytesU] at k1
  rw [bytesS] at k2 k3
  rw [bytesI] at k4 k5
  exact ⟨k1, k2, k3, k4, k5⟩
theorem Try.own : ownKnob Try.prog.godebug = Option.none := by kernel_rfl
theorem Try.laidOut : laidOutB Try.prog = true := by kernel_rfl
theorem Try.mapsRowed : mapsRowed Try.prog = true := by kernel_rfl
theorem Try.slicesOk : slicesOk Try.prog = true := by kernel_rfl
theorem underBool : Try.prog.underlying 4 = some .bool := by kernel_rfl
end Go.Proofs.Ytghhkabankbkoaa
