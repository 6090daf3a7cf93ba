import Derived.Test.YtjdnbdgekkdlgaaQl
import Derived.Test.YtjdnbdgekkdlgaaRows
import Derived.Test.YtjdnbdgekkdlgaaTyA
import Derived.OpenShut
/-! Producers: from the statements to the laws. -/
namespace Go.Proofs.Ytjdnbdgekkdlgaa
open Go.Ax Go.Shelf Go.RowKit Go.ChangeShapes Go.WideShapes Go.ChangeAt
set_option maxRecDepth 1000000
def shP : Sh := .st [.int .u64, .int .u64, .bool, .int .u64]
def shTwo : Sh := .st [.sl shP, .sl shP, .sl (.int .u64), .sl (.int .u64)]
def toP {K : Type} : DataW K → Producer
  | .agg [.lit (.int _ a), .lit (.int _ b), .lit (.bool c), .lit (.int _ d)] => ⟨a, b, c, d⟩
  | _ => default
def toI {K : Type} : DataW K → Int
  | .lit (.int _ a) => a
  | _ => 0
theorem toP_ok {K : Type} {d : DataW K} (h : shP.wf d) : shP.enc d = encP (toP d) ∧ 0 ≤ (toP d).offset ∧ (toP d).offset < 18446744073709551616 := by
  obtain ⟨ds, rfl, d1, r1, rfl, ⟨k1, n1, rfl, w1⟩, d2, r2, rfl, ⟨k2, n2, rfl, w2⟩, d3, r3, rfl, ⟨b3, rfl⟩, d4, r4, rfl, ⟨k4, n4, rfl, w4⟩, rfl⟩ := h
  refine ⟨rfl, ?_⟩
  have := bounds_u64 w4
  show 0 ≤ n4 ∧ n4 < _
  omega
theorem toI_ok {K : Type} {d : DataW K} (h : (Sh.int .u64).wf d) : (Sh.int .u64).enc d = encI (toI d) := by
  obtain ⟨k, n, rfl, _⟩ := h
  rfl
def toTwo {K : Type} : DataW K → Two
  | .agg [a, b, c, d] => ⟨listOf toP a, listOf toP b, listOf toI c, listOf toI d⟩
  | _ => ⟨[], [], [], []⟩
theorem off_ok {K : Type} {d : DataW K} (h : (Sh.sl shP).wf d) : ∀ y ∈ listOf toP d, 0 ≤ y.offset ∧ y.offset < 18446744073709551616 := by
  rcases h with rfl | ⟨xs, r, rfl, hx⟩
  · intro y hy; cases hy
  · intro y hy
    obtain ⟨x, hx', rfl⟩ := List.mem_map.1 hy
    exact (toP_ok (hx x hx')).2
theorem relPs {K : Type} {d : DataW K} (hd : (Sh.sl shP).wf d) {H : HH} {E : Env} {v : Value} (h : Rel (slAV shP d) H E v) : Rel (encPs true (listOf toP d)) H E v := conv_sl (fun x hx => (toP_ok hx).1) hd h
theorem relU {K : Type} {d : DataW K} (hd : (Sh.sl (.int .u64)).wf d) {H : HH} {E : Env} {v : Value} (h : Rel (slAV (.int .u64) d) H E v) : Rel (encU true (listOf toI d)) H E v := conv_sl (encA := encI) (fun x hx => toI_ok hx) hd h
theorem relTwo {K : Type} {d : DataW K} (hd : shTwo.wf d) {H : HH} {E : Env} {vs : List Value} (h : RelL (shTwo.enc d) H E vs) : RelL (encTwo (toTwo d)) H E vs := by
  obtain ⟨ds, rfl, d1, r1, rfl, w1, d2, r2, rfl, w2, d3, r3, rfl, w3, d4, r4, rfl, w4, rfl⟩ := hd
  have e : shTwo.enc (DataW.agg [d1, d2, d3, d4]) = [slAV shP d1, slAV shP d2, slAV (.int .u64) d3, slAV (.int .u64) d4] := by
    simp only [shTwo, Sh.enc, Sh.encL]
    cases d1 <;> cases d2 <;> cases d3 <;> cases d4 <;> rfl
  rw [e] at h
  obtain ⟨v1, x1, rfl, h1, v2, x2, rfl, h2, v3, x3, rfl, h3, v4, x4, rfl, h4, rfl⟩ := h
  exact ⟨_, _, rfl, relPs w1 h1, _, _, rfl, relPs w2 h2, _, _, rfl, relU w3 h3, _, _, rfl, relU w4 h4, rfl⟩
def structTypes (P : Program) (t : TypeId) : Option (List TypeId) := match P.underlying t with | some (.struct fs) => some (fs.toList.map (·.type)) | _ => Option.none
theorem structTypes_ok {P : Program} {t : TypeId} {l : List TypeId} (h : structTypes P t = some l) : ∃ fs, P.underlying t = some (.struct fs) ∧ fs.toList.map (·.type) = l := by
  unfold structTypes at h
  split at h
  · rename_i fs hu
    exact ⟨fs, hu, Option.some.inj h⟩
  · cases h
theorem und44 : ∃ fs, Try.prog.underlying 44 = some (.struct fs) ∧ fs.toList.map (·.type) = [24, 24, 42, 42] := structTypes_ok (by kernel_rfl)
theorem undPs : Try.prog.underlying 24 = some (.slice 39) := by kernel_rfl
theorem undU : Try.prog.underlying 42 = some (.slice 26) := by kernel_rfl
theorem bytesP : Try.prog.bytesOf 39 = 32 := by kernel_rfl
theorem bytesU : Try.prog.bytesOf 26 = 8 := by kernel_rfl
theorem two_ok {K : Type} {d : DataW K} (hd : shTwo.wf d) (hw : (d.weights Try.prog 44).all (· ≤ reachBytes) = true) : (toTwo d).Ok := by
  obtain ⟨ds, rfl, d1, r1, rfl, w1, d2, r2, rfl, w2, d3, r3, rfl, w3, d4, r4, rfl, w4, rfl⟩ := hd
  obtain ⟨fs, hf, ht⟩ := und44
  have h := weights_struct hf hw
  rw [ht] at h
  obtain ⟨h1, h⟩ := weights_cons h
  obtain ⟨h2, h⟩ := weights_cons h
  obtain ⟨h3, h⟩ := weights_cons h
  obtain ⟨h4, h⟩ := weights_cons h
  have k1 := weights_slice toP undPs h1
  have k2 := weights_slice toP undPs h2
  have k3 := weights_slice toI undU h3
  have k4 := weights_slice toI undU h4
  rw [bytesP] at k1 k2
  rw [bytesU] at k3 k4
  exact ⟨by show (listOf toP d1).length * 32 ≤ _; omega, by show (listOf toP d2).length * 32 ≤ _; omega, by show (listOf toI d3).length ≤ _; omega, by show (listOf toI d4).length ≤ _; omega, off_ok w1, off_ok w2⟩
theorem Try.own : ownKnob Try.prog.godebug = Option.none := by kernel_rfl
theorem Try.laidOut : laidOutB Try.prog = true := by kernel_rfl
theorem Try.mapsRowed : mapsRowed Try.prog = true := by kernel_rfl
theorem Try.slicesOk : slicesOk Try.prog = true := by kernel_rfl
theorem underBool : Try.prog.underlying 4 = some .bool := by kernel_rfl
theorem moves_lifted (os : Os) (started : os.Started) (K : Type) (enc : TypeId × Value → K) :
    ReturnsInHanded {} Try.checked os 6 .any (Rows.producersMovesSpec.pre6 enc Try.prog Try.f6 Rows.producersMovesRow.domain false) (Rows.producersMovesSpec.post enc Try.prog Try.f6 false true false false) := by
  refine returnsInHanded_of_change_sized (C := Try.checked) Try.own started (by kernel_rfl) Try.func6
    (ChangeSpec.witness6 (enc := enc) (C := Try.checked) false ⟨#[], #[.agg #[.slice Option.none 0 0, .slice Option.none 0 0, .slice Option.none 0 0, .slice Option.none 0 0]], []⟩ 8 (by kernel_rfl) (by kernel_rfl) (by kernel_rfl) (by kernel_rfl)) ?_
  intro W base args ds gs before hval0 hW hcnd hsz _
  have hps : Try.f6.params.toList = [44] := by kernel_rfl
  obtain ⟨p, q, hA, hV, hbef, hfz, hnd⟩ := id hW
  rw [hps] at hA hsz
  have ⟨hr, hwf⟩ := lift_all [shTwo] (by kernel_rfl) hA
  obtain ⟨v, d, e1, rfl, hd⟩ := trodAll_one hA
  obtain ⟨_, _, e2, hw1, _⟩ := hwf
  obtain ⟨rfl, _⟩ := List.cons.inj e2
  subst e1
  obtain ⟨fs, hf, _⟩ := und44
  obtain ⟨cs, rfl, _⟩ := okWide_struct hf (hval0 0 _ _ (by kernel_rfl) rfl)
  have hw2 := (weights_cons (P := Try.prog) (t := 44) (d := d) (ds := gs) hsz).1
  refine open_calls (call_of (moves_c (toTwo d) (two_ok hw1 hw2))) (t := 4) (ds := [d]) ⟨_, _, rfl, ⟨cs, rfl, relTwo hw1 hr.1⟩, rfl⟩ (by kernel_rfl) underBool rfl rfl Try.laidOut Try.mapsRowed Try.slicesOk (by rw [hps]; intro t ht; simp at ht; subst ht; exact of_decide_eq_true (by kernel_rfl)) hW
theorem moves_said : Rows.ProducersMovesSaid :=
  OpenClaim.holds_of_wide 6 Try.f6 rfl rfl rfl rfl rfl rfl rfl ⟨rfl, rfl, rfl, rfl, rfl⟩ rfl rfl rfl rfl rfl (by kernel_rfl) Try.func6 (by kernel_rfl)
    (of_decide_eq_true (by kernel_rfl)) (by unfold Func.isWrapper; first | (rw [if_pos (by decide +kernel)]; kernel_rfl) | (rw [if_neg (by decide +kernel)]; exact ⟨rfl, rfl⟩))
    (fun os started H enc _ => moves_lifted os started H enc)
end Go.Proofs.Ytjdnbdgekkdlgaa
#print axioms Go.Proofs.Ytjdnbdgekkdlgaa.moves_said
