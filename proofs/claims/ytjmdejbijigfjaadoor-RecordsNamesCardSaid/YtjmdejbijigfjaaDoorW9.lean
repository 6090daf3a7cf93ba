/- PROVED: the errors by their numbers, rows of the examples -/
import Derived.Test.YtjmdejbijigfjaaDoorRows
import Derived.Test.YtjmdejbijigfjaaDoorTie
import Derived.Test.YtjmdejbijigfjaaDoorCards
import Derived.OpenShut
import Derived.Lay
import Derived.Handed
import Derived.SevenTiedAt
import Derived.Test.YtjmdejbijigfjaaDoorE8
import Derived.Test.YtjmdejbijigfjaaDoorW3
import Derived.Test.YtjmdejbijigfjaaDoorW4
import Derived.Test.YtjmdejbijigfjaaDoorW7
import Derived.Test.YtjmdejbijigfjaaDoorW8
set_option linter.unusedVariables false
set_option linter.unusedSimpArgs false
/-! Records: the law RecordsNames. -/
namespace Go.Proofs.YtjmdejbijigfjaaDoor
open Go.Ax
set_option maxRecDepth 1000000
theorem names_c : (boolR true).Sat (ACall' Tryd.prog 10 [] []) := by
  refine ctr_vc (ht := nmbH) Tryd.mixed rfl ?_
  rw [vcNmb_eq ()]
  unfold vcNmb
  have a1 : contLe 1 2 (fun (k j : Nat) => Ax.get [AV.s (Value.string { data := #[99] }), AV.s (Value.int IntKind.u64 2)] (k * 2 + j)) (cellsOf' encC [{ name := cB, off := 2 }]) := by
    intro k hk j hj
    obtain rfl : k = 0 := by omega
    match j, hj with
    | 0, _ => simp [cellsOf', encC, cB]
    | 1, _ => simp [cellsOf', encC]
  have a2 : contLe 1 2 (fun (k j : Nat) => Ax.get [AV.s (Value.string { data := #[99] }), AV.s (Value.int IntKind.u64 0)] (k * 2 + j)) (cellsOf' encC [{ name := cB, off := 0 }]) := by
    intro k hk j hj
    obtain rfl : k = 0 := by omega
    match j, hj with
    | 0, _ => simp [cellsOf', encC, cB]
    | 1, _ => simp [cellsOf', encC]
  have a3 : ∀ x y z : Int, contLe 3 1 (fun (k j : Nat) => Ax.get [AV.s (Value.int IntKind.u64 x), AV.s (Value.int IntKind.u64 y), AV.s (Value.int IntKind.u64 z)] (k + j)) (cellsOf' encU [x, y, z]) := by
    intro x y z k hk j hj
    obtain rfl : j = 0 := by omega
    match k, hk with
    | 0, _ => simp [cellsOf', encU]
    | 1, _ => simp [cellsOf', encU]
    | 2, _ => simp [cellsOf', encU]
  have a4 : joC [{ name := cB, off := (2 : Int) }] [{ name := cB, off := (0 : Int) }] [1, 2, 4] [0, 3, 4] { name := cB, off := (0 : Int) } = { name := cB, off := 0 } := by
    rw [joB]; rfl
  have a5 : ∀ (j : Nat), j < 2 → tagT (cellsOf' encC [{ name := cB, off := (0 : Int) }] 0 j) = true := tagC _ 0 (by simp)
  simp [a4]
  exact ⟨⟨a1, a2, a3 1 2 4, a3 0 3 4⟩, a5⟩
end Go.Proofs.YtjmdejbijigfjaaDoor

/-! Records: from the statements to the laws: the tables; the law RecordsFull. -/
namespace Go.Proofs.YtjmdejbijigfjaaDoor
open Go.Ax Go.Shelf Go.RowKit Go.ChangeShapes Go.WideShapes Go.ChangeAt
set_option maxRecDepth 1000000
def toI {K : Type} : DataW K → Int
  | .lit (.int _ a) => a
  | _ => 0
def toS {K : Type} : DataW K → ByteArray
  | .lit (.string l) => ⟨l.toArray⟩
  | _ => ByteArray.empty
theorem encI_ok {K : Type} {k : IntKind} {d : DataW K} (h : (Sh.int k).wf d) : (Sh.int k).enc d = [.y (.int k (toI d))] := by
  obtain ⟨k', n, rfl, _⟩ := h
  rfl
theorem encS_ok {K : Type} {d : DataW K} (h : Sh.str.wf d) : Sh.str.enc d = [.y (.string (toS d))] := by
  obtain ⟨l, rfl, _⟩ := h
  rfl
theorem enc_st {K : Type} (fs : List Sh) (ds : List (DataW K)) : (Sh.st fs).enc (.agg ds) = Sh.encL fs ds := by simp only [Sh.enc]
theorem enc_cons {K : Type} (s : Sh) (r : List Sh) (d : DataW K) (ds : List (DataW K)) : Sh.encL (s :: r) (d :: ds) = s.enc d ++ Sh.encL r ds := by simp only [Sh.encL]
theorem enc_nil {K : Type} (l : List (DataW K)) : Sh.encL [] l = [] := by simp only [Sh.encL]
theorem relA {P : Program} {W : World} {r : Reach} {base : Nat} {t : TypeId} {v : Value} {fs : Array Field} {l : List AV} {H : HH} {E : Env} (hu : P.underlying t = some (.struct fs)) (hv : Value.okWide P W r base t v) (h : RelL l H E v.cells.toList) : Rel (.agg l) H E v := by
  obtain ⟨cs, rfl, _⟩ := okWide_struct hu hv
  exact ⟨cs, rfl, h⟩
/-! a world where the library's tables lie -/
def laidL : List (String × DataW Unit) := Rows.recordsFullRow.laid
noncomputable def layW (os : Os) : World := World.laidAll Tryd.prog os laidL
theorem lay_met (os : Os) (args : Array Value) : laidMetH Tryd.prog laidL ((layW os).forCall (fun _ _ => 0) ⟨#[], args, []⟩).memory := by
  have e : ∀ w, laidMetH Tryd.prog laidL w = laidMet Tryd.prog laidL w := fun w => by kernel_rfl
  rw [e]
  exact laidMet_laidAll args (by kernel_rfl) (by kernel_rfl)
theorem Tryd.own : ownKnob Tryd.prog.godebug = Option.none := by kernel_rfl
theorem Tryd.laidOut : laidOutB Tryd.prog = true := by kernel_rfl
theorem Tryd.mapsRowed : mapsRowed Tryd.prog = true := by kernel_rfl
theorem Tryd.slicesOk : slicesOk Tryd.prog = true := by kernel_rfl
theorem underBool : Tryd.prog.underlying 4 = some .bool := by kernel_rfl
theorem full_lifted (os : Os) (started : os.Started) (K : Type) (enc : TypeId × Value → K) :
    ReturnsInHanded {} Tryd.checked os 4 .any (fun w args => (Rows.recordsFullSpec.pre enc Tryd.prog Tryd.f4 [] false w args ∧ laidMetH Tryd.prog laidL w) ∧ sizedMet enc Tryd.prog Tryd.f4 (OpenSpec.ofChange Rows.recordsFullSpec) false w args)
      (Rows.recordsFullSpec.post enc Tryd.prog Tryd.f4 false true false false) := by
  refine returnsInHanded_of_change_and (C := Tryd.checked) (X := fun w _ => laidMetH Tryd.prog laidL w) (fun _ _ _ hh h => h.of_heap hh) Tryd.own started (by kernel_rfl) Tryd.func4
    (ChangeSpec.witness_at (enc := enc) (C := Tryd.checked) (os := os) (X := fun w _ => laidMetH Tryd.prog laidL w) false (layW os) #[.int .u16 0, .int .u16 0] 8 rfl (by kernel_rfl) (by kernel_rfl) (by kernel_rfl) (by kernel_rfl) (by kernel_rfl) (lay_met os _)) ?_
  intro W base args ds gs before hval0 hW hcnd hsz _ _
  have hps : Tryd.f4.params.toList = [23, 23] := by kernel_rfl
  obtain ⟨p, q, hA, hV, hbef, hfz, hnd⟩ := id hW
  rw [hps] at hA hsz
  have ⟨hr, hwf⟩ := lift_all [.int .u16, .int .u16] (by kernel_rfl) hA
  obtain ⟨v, v2, d, d2, _, _, e1, rfl, _, hd, hd2⟩ := trodAll_two hA
  obtain ⟨_, _, e2, hw1, _, _, e3, hw2, _⟩ := hwf
  obtain ⟨rfl, e5⟩ := List.cons.inj e2
  subst e5
  obtain ⟨rfl, _⟩ := List.cons.inj e3
  subst e1
  have r1 := hr.1
  have r2 := hr.2.1
  rw [encI_ok hw1] at r1
  rw [encI_ok hw2] at r2
  have u3 : Tryd.prog.underlying 23 = some (.int .u16) := by kernel_rfl
  obtain ⟨n1, rfl⟩ := okWide_int u3 (hval0 0 _ _ (by kernel_rfl) rfl)
  obtain ⟨n2, rfl⟩ := okWide_int u3 (hval0 1 _ _ (by kernel_rfl) rfl)
  obtain ⟨_, _, er, r1, _⟩ := r1
  cases er
  obtain ⟨_, _, er, r2, _⟩ := r2
  cases er
  refine open_calls (call_of (full_c (toI d) (toI d2))) (t := 4) (ds := [d, d2]) ⟨_, _, rfl, r1, _, _, rfl, r2, rfl⟩ (by kernel_rfl) underBool rfl rfl Tryd.laidOut Tryd.mapsRowed Tryd.slicesOk (by rw [hps]; intro t ht; simp at ht; rcases ht with rfl | rfl <;> exact of_decide_eq_true (by kernel_rfl)) hW
theorem full_holds : Rows.RecordsFullSaid :=
  OpenClaim.holds_of_wide 4 Tryd.f4 rfl rfl rfl rfl rfl rfl rfl ⟨rfl, rfl, rfl, rfl, rfl⟩ rfl rfl rfl rfl rfl (by kernel_rfl) Tryd.func4 (by kernel_rfl)
    (of_decide_eq_true (by kernel_rfl)) (by unfold Func.isWrapper; first | (rw [if_pos (by decide +kernel)]; kernel_rfl) | (rw [if_neg (by decide +kernel)]; exact ⟨rfl, rfl⟩))
    (fun os started H enc _ => full_lifted os started H enc)
theorem full_said : Rows.RecordsFullCardSaid :=
  Claim7.holds_tied_plain_at .later [] [.data, .pinned] true (true, "c6216772fa23618345da0e61fb6b64e81834fe3c41d4c2546afdeda0683467e7") false
    full_holds (fun _ h => by cases h) (by kernel_rfl) (fun _ h => by cases h) recordsFull_row_tie rfl ⟨rfl, rfl⟩ (by kernel_rfl) rfl
    (fun f fn hf hfn => by
      obtain rfl : f = 4 := Option.some.inj ((show Tryd.prog.funcNamed "gazette/gazettelaw14.RecordsFull" = some 4 by kernel_rfl).symm.trans hf) |>.symm
      obtain rfl : fn = Tryd.f4 := (Option.some.inj (Tryd.func4.symm.trans hfn)).symm
      exact ⟨by kernel_rfl, fun j t ht => by
        rw [show Tryd.f4.params = #[23, 23] by kernel_rfl] at ht
        have h3 : t = 23 := by
          rcases j with _ | _ | j
          · simpa using ht.symm
          · simpa using ht.symm
          · simp at ht
        subst h3
        exact (show Tryd.prog.wantsStandIn 23 = false by kernel_rfl)⟩)
    (by kernel_rfl)
end Go.Proofs.YtjmdejbijigfjaaDoor

/-! Records: from the statement to RecordsWhole. -/
namespace Go.Proofs.YtjmdejbijigfjaaDoor
open Go.Ax Go.Shelf Go.RowKit Go.ChangeShapes Go.WideShapes Go.ChangeAt
set_option maxRecDepth 1000000
def shRec : Sh := .st [.int .u64, .str, .sl (.int .u8), .int .u64, .int .u64]
def toRec {K : Type} : DataW K → Rec
  | .agg [a, b, c, d, e] => ⟨toI a, toS b, listOf toI c, toI d, toI e⟩
  | _ => default
theorem relB {K : Type} {d : DataW K} (hd : (Sh.sl (.int .u8)).wf d) {H : HH} {E : Env} {v : Value} (h : Rel (slAV (.int .u8) d) H E v) : Rel (encBs true (listOf toI d)) H E v := conv_sl (encA := encB) (fun x hx => encI_ok hx) hd h
theorem rec_enc {K : Type} {d : DataW K} (hd : shRec.wf d) : ∃ a b c e f, d = .agg [a, b, c, e, f] ∧ (Sh.sl (.int .u8)).wf c ∧ shRec.enc d = [.y (.int .u64 (toI a)), .y (.string (toS b)), slAV (.int .u8) c, .y (.int .u64 (toI e)), .y (.int .u64 (toI f))] := by
  obtain ⟨ds, rfl, d1, r1, rfl, w1, d2, r2, rfl, w2, d3, r3, rfl, w3, d4, r4, rfl, w4, d5, r5, rfl, w5, rfl⟩ := hd
  refine ⟨d1, d2, d3, d4, d5, rfl, w3, ?_⟩
  simp only [shRec, enc_st, enc_cons, enc_nil, encI_ok w1, encS_ok w2, slAV_eq, encI_ok w4, encI_ok w5]
  rfl
theorem rec_conv {K : Type} {d : DataW K} (hd : shRec.wf d) (j : Nat) (hj : j < 5) (H : HH) (E : Env) (v : Value) (h : Rel (Ax.get (shRec.enc d) j) H E v) : Rel (Ax.get (encR (toRec d)) j) H E v := by
  obtain ⟨a, b, c, e, f, rfl, wc, he⟩ := rec_enc hd
  rw [he] at h
  match j, hj with
  | 0, _ => exact h
  | 1, _ => exact h
  | 2, _ => exact relB wc h
  | 3, _ => exact h
  | 4, _ => exact h
theorem relRs {K : Type} {d : DataW K} (hd : (Sh.sl shRec).wf d) {H : HH} {E : Env} {v : Value} (h : Rel (slAV shRec d) H E v) : Rel (encRs true (listOf toRec d)) H E v :=
  conv_slR (encA := encR) (fun x hx j hj H E v => rec_conv hx j hj H E v) hd h
theorem undRs : Tryd.prog.underlying 22 = some (.slice 27) := by kernel_rfl
theorem bytesR : Tryd.prog.bytesOf 27 = 64 := by kernel_rfl
theorem rs_sized {K : Type} {d : DataW K} (hw : (d.weights Tryd.prog 22).all (· ≤ reachBytes) = true) : (listOf toRec d).length * 64 ≤ 140737488351232 := by
  have := weights_slice toRec undRs hw
  rwa [bytesR] at this
theorem whole_lifted (os : Os) (started : os.Started) (K : Type) (enc : TypeId × Value → K) :
    ReturnsInHanded {} Tryd.checked os 7 .any (fun w args => (Rows.recordsWholeSpec.pre enc Tryd.prog Tryd.f7 [] false w args ∧ laidMetH Tryd.prog laidL w) ∧ sizedMet enc Tryd.prog Tryd.f7 (OpenSpec.ofChange Rows.recordsWholeSpec) false w args)
      (Rows.recordsWholeSpec.post enc Tryd.prog Tryd.f7 false true false false) := by
  refine returnsInHanded_of_change_and (C := Tryd.checked) (X := fun w _ => laidMetH Tryd.prog laidL w) (fun _ _ _ hh h => h.of_heap hh) Tryd.own started (by kernel_rfl) Tryd.func7
    (ChangeSpec.witness_at (enc := enc) (C := Tryd.checked) (os := os) (X := fun w _ => laidMetH Tryd.prog laidL w) false (layW os) #[.slice Option.none 0 0] 8 rfl (by kernel_rfl) (by kernel_rfl) (by kernel_rfl) (by kernel_rfl) (by kernel_rfl) (lay_met os _)) ?_
  intro W base args ds gs before hval0 hW hcnd hsz _ _
  have hps : Tryd.f7.params.toList = [22] := by kernel_rfl
  obtain ⟨p, q, hA, hV, hbef, hfz, hnd⟩ := id hW
  rw [hps] at hA hsz
  have ⟨hr, hwf⟩ := lift_all [.sl shRec] (by kernel_rfl) hA
  obtain ⟨v, d, e1, rfl, hd⟩ := trodAll_one hA
  obtain ⟨_, _, e2, hw1, _⟩ := hwf
  obtain ⟨rfl, _⟩ := List.cons.inj e2
  subst e1
  have hwt := weights_cons (P := Tryd.prog) (t := 22) (d := d) (ds := gs) hsz
  have k1 := rs_sized hwt.1
  have r1 := hr.1
  rw [slAV_eq] at r1
  obtain ⟨s1, n1, c1, rfl⟩ := okWide_slice undRs (hval0 0 _ _ (by kernel_rfl) rfl)
  obtain ⟨_, _, er, r1, _⟩ := r1
  cases er
  refine open_calls (call_of (wh_c (listOf toRec d) (by omega))) (t := 4) (ds := [d]) ⟨_, _, rfl, relRs hw1 r1, rfl⟩ (by kernel_rfl) underBool rfl rfl Tryd.laidOut Tryd.mapsRowed Tryd.slicesOk (by rw [hps]; intro t ht; simp at ht; rcases ht with rfl; exact of_decide_eq_true (by kernel_rfl)) hW
theorem whole_holds : Rows.RecordsWholeSaid :=
  OpenClaim.holds_of_wide 7 Tryd.f7 rfl rfl rfl rfl rfl rfl rfl ⟨rfl, rfl, rfl, rfl, rfl⟩ rfl rfl rfl rfl rfl (by kernel_rfl) Tryd.func7 (by kernel_rfl)
    (of_decide_eq_true (by kernel_rfl)) (by unfold Func.isWrapper; first | (rw [if_pos (by decide +kernel)]; kernel_rfl) | (rw [if_neg (by decide +kernel)]; exact ⟨rfl, rfl⟩))
    (fun os started H enc _ => whole_lifted os started H enc)
theorem whole_said : Rows.RecordsWholeCardSaid :=
  Claim7.holds_tied_plain_at .later [] [.data, .pinned] true (true, "c6216772fa23618345da0e61fb6b64e81834fe3c41d4c2546afdeda0683467e7") false
    whole_holds (fun _ h => by cases h) (by kernel_rfl) (fun _ h => by cases h) recordsWhole_row_tie rfl ⟨rfl, rfl⟩ (by kernel_rfl) rfl
    (fun f fn hf hfn => by
      obtain rfl : f = 7 := Option.some.inj ((show Tryd.prog.funcNamed "gazette/gazettelaw14.RecordsWhole" = some 7 by kernel_rfl).symm.trans hf) |>.symm
      obtain rfl : fn = Tryd.f7 := (Option.some.inj (Tryd.func7.symm.trans hfn)).symm
      exact ⟨by kernel_rfl, fun j t ht => by
        rw [show Tryd.f7.params = #[22] by kernel_rfl] at ht
        have h3 : t = 22 := by
          rcases j with _ | j
          · simpa using ht.symm
          · simp at ht
        subst h3
        exact (show Tryd.prog.wantsStandIn 22 = false by kernel_rfl)⟩)
    (by kernel_rfl)
end Go.Proofs.YtjmdejbijigfjaaDoor

/-! Records: from the statement to RecordsReaders. -/
namespace Go.Proofs.YtjmdejbijigfjaaDoor
open Go.Ax Go.Shelf Go.RowKit Go.ChangeShapes Go.WideShapes Go.ChangeAt
set_option maxRecDepth 1000000
def shCon : Sh := .st [.str, .int .u64]
def shRdr : Sh := .st [.sl shCon, .sl shCon, shCon, .int .u64, .sl (.int .u64), .sl (.int .u64)]
def toC {K : Type} : DataW K → Con
  | .agg [a, b] => ⟨toS a, toI b⟩
  | _ => default
def toRdr {K : Type} : DataW K → Rdr
  | .agg [a, b, c, e, ta, tb] => ⟨listOf toC a, listOf toC b, toC c, toI e, listOf toI ta, listOf toI tb⟩
  | _ => default
theorem off_of {K : Type} {d : DataW K} (h : (Sh.int .u64).wf d) : offOk (toI d) := by
  obtain ⟨k, n, rfl, w⟩ := h
  have := bounds_u64 w
  exact ⟨by show 0 ≤ n; omega, by show n < _; omega⟩
theorem toC_ok {K : Type} {d : DataW K} (h : shCon.wf d) : shCon.enc d = encC (toC d) ∧ offOk (toC d).off := by
  obtain ⟨ds, rfl, d1, r1, rfl, w1, d2, r2, rfl, w2, rfl⟩ := h
  refine ⟨?_, off_of w2⟩
  simp only [shCon, enc_st, enc_cons, enc_nil, encS_ok w1, encI_ok w2]
  rfl
theorem wf_cons {K : Type} {d : DataW K} (h : (Sh.sl shCon).wf d) : wfC (listOf toC d) := by
  rcases h with rfl | ⟨xs, r, rfl, hx⟩
  · intro y hy; cases hy
  · intro y hy
    obtain ⟨x, hx', rfl⟩ := List.mem_map.1 hy
    exact (toC_ok (hx x hx')).2
theorem relCs {K : Type} {d : DataW K} (hd : (Sh.sl shCon).wf d) {H : HH} {E : Env} {v : Value} (h : Rel (slAV shCon d) H E v) : Rel (encCs true (listOf toC d)) H E v := conv_sl (fun x hx => (toC_ok hx).1) hd h
theorem relUs {K : Type} {d : DataW K} (hd : (Sh.sl (.int .u64)).wf d) {H : HH} {E : Env} {v : Value} (h : Rel (slAV (.int .u64) d) H E v) : Rel (encUs true (listOf toI d)) H E v := conv_sl (encA := encU) (fun x hx => encI_ok hx) hd h
theorem relRdr {K : Type} {d : DataW K} (hd : shRdr.wf d) {H : HH} {E : Env} {vs : List Value} (h : RelL (shRdr.enc d) H E vs) : RelL (encO (toRdr d)) H E vs := by
  obtain ⟨ds, rfl, d1, r1, rfl, w1, d2, r2, rfl, w2, d3, r3, rfl, w3, d4, r4, rfl, w4, d5, r5, rfl, w5, d6, r6, rfl, w6, rfl⟩ := hd
  have e : shRdr.enc (DataW.agg [d1, d2, d3, d4, d5, d6]) = [slAV shCon d1, slAV shCon d2, .y (.string (toC d3).name), .y (.int .u64 (toC d3).off), .y (.int .u64 (toI d4)), slAV (.int .u64) d5, slAV (.int .u64) d6] := by
    simp only [shRdr, enc_st, enc_cons, enc_nil, slAV_eq, (toC_ok w3).1, encI_ok w4]
    rfl
  rw [e] at h
  obtain ⟨v1, x1, rfl, h1, v2, x2, rfl, h2, v3, x3, rfl, h3, v4, x4, rfl, h4, v5, x5, rfl, h5, v6, x6, rfl, h6, v7, x7, rfl, h7, rfl⟩ := h
  exact ⟨_, _, rfl, relCs w1 h1, _, _, rfl, relCs w2 h2, _, _, rfl, h3, _, _, rfl, h4, _, _, rfl, h5, _, _, rfl, relUs w5 h6, _, _, rfl, relUs w6 h7, rfl⟩
def structTypes (P : Program) (t : TypeId) : Option (List TypeId) := match P.underlying t with | some (.struct fs) => some (fs.toList.map (·.type)) | _ => Option.none
theorem structTypes_ok {P : Program} {t : TypeId} {l : List TypeId} (h : structTypes P t = some l) : ∃ fs, P.underlying t = some (.struct fs) ∧ fs.toList.map (·.type) = l := by
  unfold structTypes at h
  split at h
  · rename_i fs hu
    exact ⟨fs, hu, Option.some.inj h⟩
  · cases h
theorem undRdr : ∃ fs, Tryd.prog.underlying 61 = some (.struct fs) ∧ fs.toList.map (·.type) = [57, 57, 59, 24, 42, 42] := structTypes_ok (by kernel_rfl)
theorem undCs : Tryd.prog.underlying 57 = some (.slice 59) := by kernel_rfl
theorem undU : Tryd.prog.underlying 42 = some (.slice 24) := by kernel_rfl
theorem bytesC : Tryd.prog.bytesOf 59 = 24 := by kernel_rfl
theorem bytesU : Tryd.prog.bytesOf 24 = 8 := by kernel_rfl
theorem rdr_call {K : Type} {d : DataW K} (hd : shRdr.wf d) (hw : (d.weights Tryd.prog 61).all (· ≤ reachBytes) = true) : (boolR true).Sat (ACall' Tryd.prog 8 [.agg (encO (toRdr d))] []) := by
  obtain ⟨ds, rfl, d1, r1, rfl, w1, d2, r2, rfl, w2, d3, r3, rfl, w3, d4, r4, rfl, w4, d5, r5, rfl, w5, d6, r6, rfl, w6, rfl⟩ := hd
  obtain ⟨fs, hf, ht⟩ := undRdr
  have h := weights_struct hf hw
  rw [ht] at h
  obtain ⟨h1, h⟩ := weights_cons h
  obtain ⟨h2, h⟩ := weights_cons h
  obtain ⟨h3, h⟩ := weights_cons h
  obtain ⟨h4, h⟩ := weights_cons h
  obtain ⟨h5, h⟩ := weights_cons h
  obtain ⟨h6, h⟩ := weights_cons h
  have k1 := weights_slice toC undCs h1
  have k2 := weights_slice toC undCs h2
  have k5 := weights_slice toI undU h5
  have k6 := weights_slice toI undU h6
  rw [bytesC] at k1 k2
  rw [bytesU] at k5 k6
  exact rd_c _ (by show (listOf toC d1).length * 24 ≤ _; omega) (by show (listOf toC d2).length * 24 ≤ _; omega) (by show (listOf toI d5).length ≤ _; omega) (by show (listOf toI d6).length ≤ _; omega) (wf_cons w1) (wf_cons w2)
theorem readers_lifted (os : Os) (started : os.Started) (K : Type) (enc : TypeId × Value → K) :
    ReturnsInHanded {} Tryd.checked os 8 .any (fun w args => (Rows.recordsReadersSpec.pre enc Tryd.prog Tryd.f8 [] false w args ∧ laidMetH Tryd.prog laidL w) ∧ sizedMet enc Tryd.prog Tryd.f8 (OpenSpec.ofChange Rows.recordsReadersSpec) false w args)
      (Rows.recordsReadersSpec.post enc Tryd.prog Tryd.f8 false true false false) := by
  refine returnsInHanded_of_change_and (C := Tryd.checked) (X := fun w _ => laidMetH Tryd.prog laidL w) (fun _ _ _ hh h => h.of_heap hh) Tryd.own started (by kernel_rfl) Tryd.func8
    (ChangeSpec.witness_at (enc := enc) (C := Tryd.checked) (os := os) (X := fun w _ => laidMetH Tryd.prog laidL w) false (layW os) #[.agg #[.slice Option.none 0 0, .slice Option.none 0 0, .string ⟨#[]⟩, .int .u64 0, .int .u64 0, .slice Option.none 0 0, .slice Option.none 0 0]] 8 rfl (by kernel_rfl) (by kernel_rfl) (by kernel_rfl) (by kernel_rfl) (by kernel_rfl) (lay_met os _)) ?_
  intro W base args ds gs before hval0 hW hcnd hsz _ _
  have hps : Tryd.f8.params.toList = [61] := by kernel_rfl
  obtain ⟨p, q, hA, hV, hbef, hfz, hnd⟩ := id hW
  rw [hps] at hA hsz
  have ⟨hr, hwf⟩ := lift_all [shRdr] (by kernel_rfl) hA
  obtain ⟨v, d, e1, rfl, hd⟩ := trodAll_one hA
  obtain ⟨_, _, e2, hw1, _⟩ := hwf
  obtain ⟨rfl, _⟩ := List.cons.inj e2
  subst e1
  have hwt := weights_cons (P := Tryd.prog) (t := 61) (d := d) (ds := gs) hsz
  obtain ⟨fs, hf, _⟩ := undRdr
  have r1 := relA hf (hval0 0 _ _ (by kernel_rfl) rfl) (relRdr hw1 hr.1)
  refine open_calls (call_of (rdr_call hw1 hwt.1)) (t := 4) (ds := [d]) ⟨_, _, rfl, r1, rfl⟩ (by kernel_rfl) underBool rfl rfl Tryd.laidOut Tryd.mapsRowed Tryd.slicesOk (by rw [hps]; intro t ht; simp at ht; rcases ht with rfl; exact of_decide_eq_true (by kernel_rfl)) hW
theorem readers_holds : Rows.RecordsReadersSaid :=
  OpenClaim.holds_of_wide 8 Tryd.f8 rfl rfl rfl rfl rfl rfl rfl ⟨rfl, rfl, rfl, rfl, rfl⟩ rfl rfl rfl rfl rfl (by kernel_rfl) Tryd.func8 (by kernel_rfl)
    (of_decide_eq_true (by kernel_rfl)) (by unfold Func.isWrapper; first | (rw [if_pos (by decide +kernel)]; kernel_rfl) | (rw [if_neg (by decide +kernel)]; exact ⟨rfl, rfl⟩))
    (fun os started H enc _ => readers_lifted os started H enc)
theorem readers_said : Rows.RecordsReadersCardSaid :=
  Claim7.holds_tied_plain_at .later [] [.data, .pinned] true (true, "c6216772fa23618345da0e61fb6b64e81834fe3c41d4c2546afdeda0683467e7") false
    readers_holds (fun _ h => by cases h) (by kernel_rfl) (fun _ h => by cases h) recordsReaders_row_tie rfl ⟨rfl, rfl⟩ (by kernel_rfl) rfl
    (fun f fn hf hfn => by
      obtain rfl : f = 8 := Option.some.inj ((show Tryd.prog.funcNamed "gazette/gazettelaw14.RecordsReaders" = some 8 by kernel_rfl).symm.trans hf) |>.symm
      obtain rfl : fn = Tryd.f8 := (Option.some.inj (Tryd.func8.symm.trans hfn)).symm
      exact ⟨by kernel_rfl, fun j t ht => by
        rw [show Tryd.f8.params = #[61] by kernel_rfl] at ht
        have h3 : t = 61 := by
          rcases j with _ | j
          · simpa using ht.symm
          · simp at ht
        subst h3
        exact (show Tryd.prog.wantsStandIn 61 = false by kernel_rfl)⟩)
    (by kernel_rfl)
end Go.Proofs.YtjmdejbijigfjaaDoor

/-! Records: from the statement to RecordsUnread. -/
namespace Go.Proofs.YtjmdejbijigfjaaDoor
open Go.Ax Go.Shelf Go.RowKit Go.ChangeShapes Go.WideShapes Go.ChangeAt
set_option maxRecDepth 1000000
def shRng : Sh := .st [.str, .str]
def shUnr : Sh := .st [.sl shRec, .sl shRec, shRng, .int .u16, .int .u16]
def toG {K : Type} : DataW K → Rng
  | .agg [a, b] => ⟨toS a, toS b⟩
  | _ => default
def mkU (a b : List Rec) (r : Rng) (one two : Int) : Unr where
  a := a
  b := b
  r := r
  one := one
  two := two
  p := (plcE one a.length).toNat
  q := (plcE two b.length).toNat
  K := (ke r a).end
  J := ((jo0 a b).run.getD (jo0 a b)).end
  m := [⟨cB, elemO (ke r a).end.to ((plcE one a.length).toNat : Nat)⟩]
  c := [⟨cB, miN (elemO ((jo0 a b).run.getD (jo0 a b)).end.ta ((plcE one a.length).toNat : Nat)) (elemO ((jo0 a b).run.getD (jo0 a b)).end.tb ((plcE two b.length).toNat : Nat))⟩]
theorem mkU_ok (a b : List Rec) (r : Rng) (one two : Int) (la : a.length ≤ 4398046511104) (lb : b.length ≤ 4398046511104) (h1 : 0 ≤ one ∧ one < 65536) (h2 : 0 ≤ two ∧ two < 65536) : (mkU a b r one two).Facts where
  la := la
  lb := lb
  hp := (plc_ok h1.1 h1.2 (Nat.le_trans la (by omega))).1
  pl := (plc_ok h1.1 h1.2 (Nat.le_trans la (by omega))).2
  hq := (plc_ok h2.1 h2.2 (Nat.le_trans lb (by omega))).1
  ql := (plc_ok h2.1 h2.2 (Nat.le_trans lb (by omega))).2
  hK := rfl
  hJ := rfl
  hm := rfl
  hc := rfl
def toUnr {K : Type} : DataW K → Unr
  | .agg [a, b, c, e, f] => mkU (listOf toRec a) (listOf toRec b) (toG c) (toI e) (toI f)
  | _ => mkU [] [] default 0 0
theorem toG_ok {K : Type} {d : DataW K} (h : shRng.wf d) : shRng.enc d = encG (toG d) := by
  obtain ⟨ds, rfl, d1, r1, rfl, w1, d2, r2, rfl, w2, rfl⟩ := h
  simp only [shRng, enc_st, enc_cons, enc_nil, encS_ok w1, encS_ok w2]
  rfl
theorem u16_of {K : Type} {d : DataW K} (h : (Sh.int .u16).wf d) : 0 ≤ toI d ∧ toI d < 65536 := by
  obtain ⟨k, n, rfl, w⟩ := h
  show 0 ≤ n ∧ n < 65536
  simp only [Lit.wf, Bool.and_eq_true, decide_eq_true_eq] at w
  have e1 : IntKind.u16.min = 0 := by rfl
  have e2 : IntKind.u16.max = 65535 := by rfl
  rw [e1, e2] at w
  omega
theorem relUnr {K : Type} {d : DataW K} (hd : shUnr.wf d) {H : HH} {E : Env} {vs : List Value} (h : RelL (shUnr.enc d) H E vs) : RelL (encX (toUnr d)) H E vs := by
  obtain ⟨ds, rfl, d1, r1, rfl, w1, d2, r2, rfl, w2, d3, r3, rfl, w3, d4, r4, rfl, w4, d5, r5, rfl, w5, rfl⟩ := hd
  have e : shUnr.enc (DataW.agg [d1, d2, d3, d4, d5]) = [slAV shRec d1, slAV shRec d2, .y (.string (toG d3).lo), .y (.string (toG d3).hi), .y (.int .u16 (toI d4)), .y (.int .u16 (toI d5))] := by
    simp only [shUnr, enc_st, enc_cons, enc_nil, slAV_eq, toG_ok w3, encI_ok w4, encI_ok w5]
    rfl
  rw [e] at h
  obtain ⟨v1, x1, rfl, h1, v2, x2, rfl, h2, v3, x3, rfl, h3, v4, x4, rfl, h4, v5, x5, rfl, h5, v6, x6, rfl, h6, rfl⟩ := h
  exact ⟨_, _, rfl, relRs w1 h1, _, _, rfl, relRs w2 h2, _, _, rfl, h3, _, _, rfl, h4, _, _, rfl, h5, _, _, rfl, h6, rfl⟩
theorem undUnr : ∃ fs, Tryd.prog.underlying 73 = some (.struct fs) ∧ fs.toList.map (·.type) = [22, 22, 47, 23, 23] := structTypes_ok (by kernel_rfl)
theorem unr_call {K : Type} {d : DataW K} (hd : shUnr.wf d) (hw : (d.weights Tryd.prog 73).all (· ≤ reachBytes) = true) : (boolR true).Sat (ACall' Tryd.prog 9 [.agg (encX (toUnr d))] []) := by
  obtain ⟨ds, rfl, d1, r1, rfl, w1, d2, r2, rfl, w2, d3, r3, rfl, w3, d4, r4, rfl, w4, d5, r5, rfl, w5, rfl⟩ := hd
  obtain ⟨fs, hf, ht⟩ := undUnr
  have h := weights_struct hf hw
  rw [ht] at h
  obtain ⟨h1, h⟩ := weights_cons h
  obtain ⟨h2, h⟩ := weights_cons h
  have k1 := rs_sized h1
  have k2 := rs_sized h2
  exact un_c _ (mkU_ok _ _ _ _ _ (by omega) (by omega) (u16_of w4) (u16_of w5))
theorem unread_lifted (os : Os) (started : os.Started) (K : Type) (enc : TypeId × Value → K) :
    ReturnsInHanded {} Tryd.checked os 9 .any (fun w args => (Rows.recordsUnreadSpec.pre enc Tryd.prog Tryd.f9 [] false w args ∧ laidMetH Tryd.prog laidL w) ∧ sizedMet enc Tryd.prog Tryd.f9 (OpenSpec.ofChange Rows.recordsUnreadSpec) false w args)
      (Rows.recordsUnreadSpec.post enc Tryd.prog Tryd.f9 false true false false) := by
  refine returnsInHanded_of_change_and (C := Tryd.checked) (X := fun w _ => laidMetH Tryd.prog laidL w) (fun _ _ _ hh h => h.of_heap hh) Tryd.own started (by kernel_rfl) Tryd.func9
    (ChangeSpec.witness_at (enc := enc) (C := Tryd.checked) (os := os) (X := fun w _ => laidMetH Tryd.prog laidL w) false (layW os) #[.agg #[.slice Option.none 0 0, .slice Option.none 0 0, .string ⟨#[]⟩, .string ⟨#[]⟩, .int .u16 0, .int .u16 0]] 8 rfl (by kernel_rfl) (by kernel_rfl) (by kernel_rfl) (by kernel_rfl) (by kernel_rfl) (lay_met os _)) ?_
  intro W base args ds gs before hval0 hW hcnd hsz _ _
  have hps : Tryd.f9.params.toList = [73] := by kernel_rfl
  obtain ⟨p, q, hA, hV, hbef, hfz, hnd⟩ := id hW
  rw [hps] at hA hsz
  have ⟨hr, hwf⟩ := lift_all [shUnr] (by kernel_rfl) hA
  obtain ⟨v, d, e1, rfl, hd⟩ := trodAll_one hA
  obtain ⟨_, _, e2, hw1, _⟩ := hwf
  obtain ⟨rfl, _⟩ := List.cons.inj e2
  subst e1
  have hwt := weights_cons (P := Tryd.prog) (t := 73) (d := d) (ds := gs) hsz
  obtain ⟨fs, hf, _⟩ := undUnr
  have r1 := relA hf (hval0 0 _ _ (by kernel_rfl) rfl) (relUnr hw1 hr.1)
  refine open_calls (call_of (unr_call hw1 hwt.1)) (t := 4) (ds := [d]) ⟨_, _, rfl, r1, rfl⟩ (by kernel_rfl) underBool rfl rfl Tryd.laidOut Tryd.mapsRowed Tryd.slicesOk (by rw [hps]; intro t ht; simp at ht; rcases ht with rfl; exact of_decide_eq_true (by kernel_rfl)) hW
theorem unread_holds : Rows.RecordsUnreadSaid :=
  OpenClaim.holds_of_wide 9 Tryd.f9 rfl rfl rfl rfl rfl rfl rfl ⟨rfl, rfl, rfl, rfl, rfl⟩ rfl rfl rfl rfl rfl (by kernel_rfl) Tryd.func9 (by kernel_rfl)
    (of_decide_eq_true (by kernel_rfl)) (by unfold Func.isWrapper; first | (rw [if_pos (by decide +kernel)]; kernel_rfl) | (rw [if_neg (by decide +kernel)]; exact ⟨rfl, rfl⟩))
    (fun os started H enc _ => unread_lifted os started H enc)
theorem unread_said : Rows.RecordsUnreadCardSaid :=
  Claim7.holds_tied_plain_at .later [] [.data, .pinned] true (true, "c6216772fa23618345da0e61fb6b64e81834fe3c41d4c2546afdeda0683467e7") false
    unread_holds (fun _ h => by cases h) (by kernel_rfl) (fun _ h => by cases h) recordsUnread_row_tie rfl ⟨rfl, rfl⟩ (by kernel_rfl) rfl
    (fun f fn hf hfn => by
      obtain rfl : f = 9 := Option.some.inj ((show Tryd.prog.funcNamed "gazette/gazettelaw14.RecordsUnread" = some 9 by kernel_rfl).symm.trans hf) |>.symm
      obtain rfl : fn = Tryd.f9 := (Option.some.inj (Tryd.func9.symm.trans hfn)).symm
      exact ⟨by kernel_rfl, fun j t ht => by
        rw [show Tryd.f9.params = #[73] by kernel_rfl] at ht
        have h3 : t = 73 := by
          rcases j with _ | j
          · simpa using ht.symm
          · simp at ht
        subst h3
        exact (show Tryd.prog.wantsStandIn 73 = false by kernel_rfl)⟩)
    (by kernel_rfl)
end Go.Proofs.YtjmdejbijigfjaaDoor

/-! Records: from the statement to RecordsNames. -/
namespace Go.Proofs.YtjmdejbijigfjaaDoor
open Go.Ax Go.Shelf Go.RowKit Go.ChangeShapes Go.WideShapes Go.ChangeAt
set_option maxRecDepth 1000000
theorem names_lifted (os : Os) (started : os.Started) (K : Type) (enc : TypeId × Value → K) :
    ReturnsInHanded {} Tryd.checked os 10 .any (fun w args => (Rows.recordsNamesSpec.pre enc Tryd.prog Tryd.f10 [] false w args ∧ laidMetH Tryd.prog laidL w) ∧ sizedMet enc Tryd.prog Tryd.f10 (OpenSpec.ofChange Rows.recordsNamesSpec) false w args)
      (Rows.recordsNamesSpec.post enc Tryd.prog Tryd.f10 false true false false) := by
  refine returnsInHanded_of_change_and (C := Tryd.checked) (X := fun w _ => laidMetH Tryd.prog laidL w) (fun _ _ _ hh h => h.of_heap hh) Tryd.own started (by kernel_rfl) Tryd.func10
    (ChangeSpec.witness_at (enc := enc) (C := Tryd.checked) (os := os) (X := fun w _ => laidMetH Tryd.prog laidL w) false (layW os) #[] 8 rfl (by kernel_rfl) (by kernel_rfl) (by kernel_rfl) (by kernel_rfl) (by kernel_rfl) (lay_met os _)) ?_
  intro W base args ds gs before hval0 hW hcnd hsz _ _
  have hps : Tryd.f10.params.toList = [] := by kernel_rfl
  obtain ⟨p, q, hA, hV, hbef, hfz, hnd⟩ := id hW
  rw [hps] at hA
  obtain ⟨h1, rfl, _⟩ := trodAll_nil hA
  have h2 : args = #[] := by cases args; simp_all
  subst h2
  refine open_calls (call_of names_c) (t := 4) (ds := []) rfl (by kernel_rfl) underBool rfl rfl Tryd.laidOut Tryd.mapsRowed Tryd.slicesOk (by rw [hps]; intro t ht; simp at ht) hW
theorem names_holds : Rows.RecordsNamesSaid :=
  OpenClaim.holds_of_wide 10 Tryd.f10 rfl rfl rfl rfl rfl rfl rfl ⟨rfl, rfl, rfl, rfl, rfl⟩ rfl rfl rfl rfl rfl (by kernel_rfl) Tryd.func10 (by kernel_rfl)
    (of_decide_eq_true (by kernel_rfl)) (by unfold Func.isWrapper; first | (rw [if_pos (by decide +kernel)]; kernel_rfl) | (rw [if_neg (by decide +kernel)]; exact ⟨rfl, rfl⟩))
    (fun os started H enc _ => names_lifted os started H enc)
theorem names_said : Rows.RecordsNamesCardSaid :=
  Claim7.holds_tied_plain_at .later [] [.data, .pinned] true (true, "c6216772fa23618345da0e61fb6b64e81834fe3c41d4c2546afdeda0683467e7") false
    names_holds (fun _ h => by cases h) (by kernel_rfl) (fun _ h => by cases h) recordsNames_row_tie rfl ⟨rfl, rfl⟩ (by kernel_rfl) rfl
    (fun f fn hf hfn => by
      obtain rfl : f = 10 := Option.some.inj ((show Tryd.prog.funcNamed "gazette/gazettelaw14.RecordsNames" = some 10 by kernel_rfl).symm.trans hf) |>.symm
      obtain rfl : fn = Tryd.f10 := (Option.some.inj (Tryd.func10.symm.trans hfn)).symm
      exact ⟨by kernel_rfl, fun j t ht => by
        rw [show Tryd.f10.params = #[] by kernel_rfl] at ht
        simp at ht⟩)
    (by kernel_rfl)
end Go.Proofs.YtjmdejbijigfjaaDoor
