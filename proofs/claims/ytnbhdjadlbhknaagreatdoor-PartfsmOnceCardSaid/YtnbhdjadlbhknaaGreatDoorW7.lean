/- PROVED: PartfsmOnce, no producer's number stands twice, what was answered is there, and what comes at once again changes nothing, for every state and every list of commands. CONDITIONS: as the given card says. -/
import Derived.Test.YtnbhdjadlbhknaaGreatDoorRows
import Derived.Test.YtnbhdjadlbhknaaGreatDoorTie
import Derived.Test.YtnbhdjadlbhknaaGreatDoorCards
import Derived.OpenShut
import Derived.Lay
import Derived.Handed
import Derived.SevenTiedAt
import Derived.LaidHandle
import Derived.Test.YtnbhdjadlbhknaaGreatDoorE10
import Derived.Test.YtnbhdjadlbhknaaGreatDoorW3
import Derived.Test.YtnbhdjadlbhknaaGreatDoorW6
set_option linter.unusedVariables false
set_option linter.unusedSimpArgs false
set_option linter.unusedSectionVars false
/-! Shards' states: what was done stays done. -/
namespace Go.Proofs.YtnbhdjadlbhknaaGreatDoor.R
open Go.Ax
set_option maxRecDepth 1000000
structure OnRd (p q : Part) (c : Cmd) (x y : Res) : Prop where
  n : p.recs.length ≤ 4096
  m : q.recs.length ≤ 4096
  le : p.recs.length ≤ q.recs.length
  ge : q.recs.length ≤ p.recs.length + 1
  eq : ∀ k, k < p.recs.length → q.recs.getD k default = p.recs.getD k default ∧ (p.recs.getD k default).off = (k : Int)
  th : c.kind = 1 → x.err = 0 → ∃ o : Nat, x.off = o ∧ o < q.recs.length ∧ (q.recs.getD o default).prod = c.prod ∧ (q.recs.getD o default).seq = c.seq
  d1 : DoR p c q x
  d2 : DoR q c q y
  pi : PartIn p
  qi : PartIn q
  e : y.err = x.err
  o : x.err = 0 → c.kind = 3 → y.old = true
theorem oi_loop (l : List Cmd) (i : Nat) (p q : Part) (c : Cmd) (x y : Res) (h : OnRd p q c x y) (k : Nat) : LoopOk Tryz.prog 6 11 (loopAt Tryz.prog 6 11) ⟨oiT l i k, oiM p q x, []⟩ (T.map (lout oX (oiS l i p q x)) (.ret ())) := by
  refine loop_vc (o := fun _ => .ret ()) (stM := fun _ => oiM p q x) Tryz.mixed (fun _ => rfl) (fun k => (vcOiL_eq l i p q x k).mpr ?_) k
  unfold vcOiL
  have hn := h.n
  by_cases hk : k < p.recs.length
  · have hz : decide ((k : Int) < p.recs.length) = true := by simp; omega
    have h1 := h.le
    have hz2 : decide ((k : Int) < q.recs.length) = true := by simp; omega
    have hw : IntKind.i64.wrap ((k : Int) + 1) = ((k + 1 : Nat) : Int) := by rw [wrap_i64 (by omega) (by omega)]; omega
    have hu : IntKind.u64.wrap (k : Int) = k := wrap_u64 (by omega) (by omega)
    obtain ⟨e1, e2⟩ := h.eq k hk
    rw [Int.toNat_natCast]
    rw [e1]
    simp only [hz, hz2, hw, hu]
    generalize p.recs.getD k default = r at *
    simp [e2]
    exact ⟨k + 1, by omega, by omega⟩
  · have hz : decide ((k : Int) < p.recs.length) = false := by simp; omega
    simp only [hz]
    simp
theorem oo_loop (l : List Cmd) (hl : l.length ≤ 9223372036854775806) (f : Nat → Part) (x y : Nat → Res) (h : ∀ i, i < l.length → OnRd (f i) (f (i + 1)) (l.getD i default) (x i) (y i)) (hf : ∀ i, l.length ≤ i → f i = f l.length) (i : Nat) : LoopOk Tryz.prog 6 5 (loopAt Tryz.prog 6 5) ⟨ooT l i, stM f i, []⟩ (T.map (lout oX (ooS (f l.length))) (.ret ())) := by
  refine loop_vcH (o := fun _ => .ret ()) (ht := ooH l f x y) (stT := ooT l) (stM := stM f) Tryz.mixed (fun _ => rfl) (fun i => (vcOoL_eq l f x y i).mpr ?_) i
  unfold vcOoL
  by_cases hi : i < l.length
  · have hz : decide ((i : Int) < l.length) = true := by simp; omega
    have hw : IntKind.i64.wrap ((i : Int) + 1) = ((i + 1 : Nat) : Int) := by rw [wrap_i64 (by omega) (by omega)]; omega
    have hr := h i hi
    rw [Int.toNat_natCast]
    simp only [hz, hw]
    generalize l.getD i default = c at *
    have lp := oi_loop l i (f i) (f (i + 1)) c (x i) (y i) hr 0
    generalize f i = p at *
    generalize hq : f (i + 1) = q at *
    generalize x i = u at *
    generalize y i = v at *
    obtain ⟨n, m, le, ge, eq, th, d1, d2, pi, qi, he, ho⟩ := hr
    have w1 : IntKind.i64.wrap ((p.recs.length : Int) + 1) = ((p.recs.length + 1 : Nat) : Int) := by rw [wrap_i64 (by omega) (by omega)]; omega
    have w2 : IntKind.u64.wrap (q.recs.length : Int) = q.recs.length := wrap_u64 (by omega) (by omega)
    have z1 : decide ((q.recs.length : Int) < p.recs.length) = false := by simp; omega
    have z2 : decide (((p.recs.length + 1 : Nat) : Int) < q.recs.length) = false := by simp; omega
    have sm := same_refl q
    have ge' : (q.recs.length : Int) ≤ (p.recs.length : Int) + 1 := by omega
    by_cases k1 : c.kind = 1
    · have k3 : ¬ c.kind = 3 := by omega
      by_cases e0 : u.err = 0
      · obtain ⟨o, o1, o2, o3, o4⟩ := th k1 e0
        have w3 : IntKind.i64.wrap (o : Int) = o := wrap_i64 (by omega) (by omega)
        have z3 : decide ((q.recs.length : Int) ≤ (o : Int)) = false := by simp; omega
        have z4 : decide ((o : Int) < q.recs.length) = true := by simp; omega
        simp only [List.getD_eq_getElem?_getD, List.getElem?_eq_getElem o2, Option.getD_some] at o3 o4
        simp [w1, w2, z1, z2, le, ge', lp, k1, e0, o1, o2, w3, z3, z4, o3, o4, d1, d2, pi, qi, he, sm, hw]
        exact ⟨i + 1, by omega, by omega, by simp [hq]⟩
      · simp [w1, w2, z1, z2, le, ge', lp, k1, e0, d1, d2, pi, qi, he, sm, hw]
        exact ⟨i + 1, by omega, by omega, by simp [hq]⟩
    · by_cases e0 : u.err = 0
      · by_cases k3 : c.kind = 3
        · have := ho e0 k3
          simp [w1, w2, z1, z2, le, ge', lp, k3, e0, this, d1, d2, pi, qi, he, sm, hw]
          exact ⟨i + 1, by omega, by omega, by simp [hq]⟩
        · simp [w1, w2, z1, z2, le, ge', lp, k1, k3, e0, d1, d2, pi, qi, he, sm, hw]
          exact ⟨i + 1, by omega, by omega, by simp [hq]⟩
      · simp [w1, w2, z1, z2, le, ge', lp, k1, e0, d1, d2, pi, qi, he, sm, hw]
        exact ⟨i + 1, by omega, by omega, by simp [hq]⟩
  · have hz : decide ((i : Int) < l.length) = false := by simp; omega
    simp only [hz]
    simp
    rw [hf i (by omega)]
    simp
theorem ej_loop (p : Part) (hn : p.recs.length ≤ 4096) (h : ∀ i k, k < i → i < p.recs.length → (p.recs.getD i default).prod = (p.recs.getD k default).prod → ¬ (p.recs.getD i default).seq ≤ (p.recs.getD k default).seq) (i : Nat) (hi : i < p.recs.length) (k : Nat) : LoopOk Tryz.prog 6 27 (loopAt Tryz.prog 6 27) ⟨ejT i k, epM p, []⟩ (T.map (lout oX (ejS p i)) (.ret ())) := by
  refine loop_vc (o := fun _ => .ret ()) (stM := fun _ => epM p) Tryz.mixed (fun _ => rfl) (fun k => (vcEjL_eq p i k).mpr ?_) k
  unfold vcEjL
  by_cases hk : k < i
  · have hz : decide ((k : Int) < (i : Int)) = true := by simp; omega
    have hz1 : decide ((i : Int) < p.recs.length) = true := by simp; omega
    have hz2 : decide ((k : Int) < p.recs.length) = true := by simp; omega
    have hw : IntKind.i64.wrap ((k : Int) + 1) = ((k + 1 : Nat) : Int) := by rw [wrap_i64 (by omega) (by omega)]; omega
    have h1 := h i k hk hi
    rw [Int.toNat_natCast, Int.toNat_natCast]
    simp only [hz, hz1, hz2, hw]
    generalize p.recs.getD k default = r at *
    generalize p.recs.getD i default = s at *
    by_cases c1 : s.prod = r.prod
    · have h2 := h1 c1
      simp [c1, h2]
      exact ⟨k + 1, by omega, by omega⟩
    · simp [c1]
      exact ⟨k + 1, by omega, by omega⟩
  · have hz : decide ((k : Int) < (i : Int)) = false := by simp; omega
    simp only [hz]
    simp
theorem ei_loop (p : Part) (hn : p.recs.length ≤ 4096) (h : ∀ i k, k < i → i < p.recs.length → (p.recs.getD i default).prod = (p.recs.getD k default).prod → ¬ (p.recs.getD i default).seq ≤ (p.recs.getD k default).seq) (i : Nat) : LoopOk Tryz.prog 6 24 (loopAt Tryz.prog 6 24) ⟨eiT i, epM p, []⟩ (T.map (lout oX (eiS p)) (.ret ())) := by
  refine loop_vcH (P := Tryz.prog) (f := 6) (k := 24) (ι := Nat) (μ := fun i => p.recs.length - i) (o := fun _ => .ret ()) (ht := eiH p) (stT := eiT) (stM := fun _ => epM p) (X := oX) (S := eiS p) Tryz.mixed (fun _ => rfl) (fun i => ?_) i
  rw [vcEiL_eq p i]
  unfold vcEiL
  by_cases hi : i < p.recs.length
  · have hz : decide ((i : Int) < p.recs.length) = true := by simp; omega
    have hw : IntKind.i64.wrap ((i : Int) + 1) = ((i + 1 : Nat) : Int) := by rw [wrap_i64 (by omega) (by omega)]; omega
    have lp := ej_loop p hn h i hi 0
    simp only [hz, hw]
    simp [lp]
    exact ⟨i + 1, by omega, by omega⟩
  · have hz : decide ((i : Int) < p.recs.length) = false := by simp; omega
    simp only [hz]
    simp
theorem log_at {l : List Rec} (h : isLog l = true) {k : Nat} (hk : k < l.length) : (l.getD k default).off = (k : Int) := by
  have hl := log_len h
  simp only [isLog, Bool.and_eq_true] at h
  have := (D.logFrom_all _).1 h.1 k hk
  unfold okR at this
  generalize l.getD k default = x at *
  simp at this
  rw [this.1]
  exact wrap_u64 (by omega) (by omega)
theorem on_rd {p : Part} {l : List Cmd} (hp : D.PartTy p) (ho : partOk p = true) (hl : CmsOk l) {i : Nat} (hi : i < l.length) : OnRd (runP p l i) (runP p l (i + 1)) (l.getD i default) (dX (runP p l i) (l.getD i default)) (dX (runP p l (i + 1)) (l.getD i default)) := by
  obtain ⟨a1, a2⟩ := runP_ok hp ho hl i
  obtain ⟨b1, b2⟩ := runP_ok hp ho hl (i + 1)
  have hc := hl.at hi
  rw [runP_succ p l hi] at b1 b2 ⊢
  generalize runP p l i = q at *
  generalize l.getD i default = c at *
  have n := log_len (D.ok_parts a1).2.2.1
  have m := log_len (D.ok_parts b1).2.2.1
  have hA := again_of a2 a1 hc
  have hk := keep_recs (p := q) (c := c) a1
  have hL : (dQ q c).recs = q.recs ∨ ∃ y, (dQ q c).recs = q.recs ++ [y] := by
    rcases hk with e | ⟨e, _⟩
    · exact .inl e
    · exact .inr ⟨_, e⟩
  refine ⟨n, m, ?_, ?_, fun k hk => ⟨?_, log_at (D.ok_parts a1).2.2.1 hk⟩, fun k e => there a2 a1 k e, ⟨rfl, rfl, a2.isIn, hc⟩, ⟨hA.r.symm, rfl, b2.isIn, hc⟩, a2.isIn, b2.isIn, hA.e, hA.o⟩
  · rcases hL with e | ⟨y, e⟩
    · rw [e]; exact Nat.le_refl _
    · rw [e]; simp
  · rcases hL with e | ⟨y, e⟩
    · rw [e]; omega
    · rw [e]; simp
  · rcases hL with e | ⟨y, e⟩
    · rw [e]
    · rw [e]; simp [List.getElem?_append_left hk]
theorem rises {p : Part} (h : partOk p = true) : ∀ i k, k < i → i < p.recs.length → (p.recs.getD i default).prod = (p.recs.getD k default).prod → ¬ (p.recs.getD i default).seq ≤ (p.recs.getD k default).seq := by
  obtain ⟨_, _, _, _, _, ho, _, _⟩ := ok_un h
  have h2 := List.pairwise_iff_getElem.1 ho.2
  intro i k hk hi e
  have h3 := h2 k i (by omega) hi hk
  rw [List.getD_eq_getElem?_getD, List.getElem?_eq_getElem hi, List.getD_eq_getElem?_getD, List.getElem?_eq_getElem (show k < p.recs.length by omega)] at e ⊢
  have := h3 e.symm
  simp only [Option.getD_some]
  omega
theorem once_c (p : Part) (l : List Cmd) (hp : D.PartTy p) (hl : CmsOk l) : (boolR true).Sat (ACall' Tryz.prog 6 [.agg (encPt true p), encCms true l] []) := by
  refine ctr_vc (ht := oncH p l (runP p l)) Tryz.mixed rfl ?_
  rw [vcOnc_eq p l (runP p l)]
  unfold vcOnc
  have hi := hp.isIn
  have hn := hl.n
  cases ho : partOk p
  · simp [hi]
  · have e0 : runP p l 0 = p := by simp [runP]
    have hf : ∀ i, l.length ≤ i → runP p l i = runP p l l.length := fun i h => by
      unfold runP
      rw [List.take_of_length_le h, List.take_length]
    have lp := oo_loop l (by omega) (runP p l) (fun i => dX (runP p l i) (l.getD i default)) (fun i => dX (runP p l (i + 1)) (l.getD i default)) (fun i h => on_rd hp ho hl h) hf 0
    obtain ⟨b1, _⟩ := runP_ok hp ho hl l.length
    have lp2 := ei_loop (runP p l l.length) (log_len (D.ok_parts b1).2.2.1) (rises b1) 0
    unfold stM at lp
    rw [e0] at lp
    unfold stM
    simp [hi, e0, lp, lp2]
end Go.Proofs.YtnbhdjadlbhknaaGreatDoor.R

/-! From the statements to the laws: the data. -/
namespace Go.Proofs.YtnbhdjadlbhknaaGreatDoor
open Go.Ax Go.Shelf Go.RowKit Go.ChangeShapes Go.WideShapes Go.ChangeAt
set_option maxRecDepth 1000000
def toI {K : Type} : DataW K → Int
  | .lit (.int _ a) => a
  | _ => 0
def toS {K : Type} : DataW K → ByteArray
  | .lit (.string l) => ⟨l.toArray⟩
  | _ => ByteArray.empty
def toB {K : Type} : DataW K → Bool
  | .lit (.bool b) => b
  | _ => false
theorem encI_ok {K : Type} {k : IntKind} {d : DataW K} (h : (Sh.int k).wf d) : (Sh.int k).enc d = [.y (.int k (toI d))] := by
  obtain ⟨k', n, rfl, _⟩ := h
  rfl
theorem encS_ok {K : Type} {d : DataW K} (h : Sh.str.wf d) : Sh.str.enc d = [.y (.string (toS d))] := by
  obtain ⟨l, rfl, _⟩ := h
  rfl
theorem encO_ok {K : Type} {d : DataW K} (h : Sh.bool.wf d) : Sh.bool.enc d = [.y (.bool (toB d))] := by
  obtain ⟨l, rfl⟩ := h
  rfl
theorem enc_st {K : Type} (fs : List Sh) (ds : List (DataW K)) : (Sh.st fs).enc (.agg ds) = Sh.encL fs ds := by simp only [Sh.enc]
theorem enc_cons {K : Type} (s : Sh) (r : List Sh) (d : DataW K) (ds : List (DataW K)) : Sh.encL (s :: r) (d :: ds) = s.enc d ++ Sh.encL r ds := by simp only [Sh.encL]
theorem enc_nil {K : Type} (l : List (DataW K)) : Sh.encL [] l = [] := by simp only [Sh.encL]
theorem relA {P : Program} {W : World} {r : Reach} {base : Nat} {t : TypeId} {v : Value} {fs : Array Field} {l : List AV} {H : HH} {E : Env} (hu : P.underlying t = some (.struct fs)) (hv : Value.okWide P W r base t v) (h : RelL l H E v.cells.toList) : Rel (.agg l) H E v := by
  obtain ⟨cs, rfl, _⟩ := okWide_struct hu hv
  exact ⟨cs, rfl, h⟩
theorem Tryz.own : ownKnob Tryz.prog.godebug = Option.none := by kernel_rfl
theorem Tryz.laidOut : laidOutB Tryz.prog = true := by kernel_rfl
theorem Tryz.mapsRowed : mapsRowed Tryz.prog = true := by kernel_rfl
theorem Tryz.slicesOk : slicesOk Tryz.prog = true := by kernel_rfl
theorem underBool : Tryz.prog.underlying 4 = some .bool := by kernel_rfl
def structTypes (P : Program) (t : TypeId) : Option (List TypeId) := match P.underlying t with | some (.struct fs) => some (fs.toList.map (·.type)) | _ => Option.none
theorem structTypes_ok {P : Program} {t : TypeId} {l : List TypeId} (h : structTypes P t = some l) : ∃ fs, P.underlying t = some (.struct fs) ∧ fs.toList.map (·.type) = l := by
  unfold structTypes at h
  split at h
  · rename_i fs hu
    exact ⟨fs, hu, Option.some.inj h⟩
  · cases h
end Go.Proofs.YtnbhdjadlbhknaaGreatDoor

/-! From the statements to the laws: records, consumers, producers, states. -/
namespace Go.Proofs.YtnbhdjadlbhknaaGreatDoor
open Go.Ax Go.Shelf Go.RowKit Go.ChangeShapes Go.WideShapes Go.ChangeAt
set_option maxRecDepth 1000000
def shRec : Sh := .st [.int .u64, .str, .sl (.int .u8), .int .u64, .int .u64]
def toRec {K : Type} : DataW K → Rec
  | .agg [a, b, c, d, e] => ⟨toI a, toS b, listOf toI c, toI d, toI e⟩
  | _ => default
theorem relB {K : Type} {d : DataW K} (hd : (Sh.sl (.int .u8)).wf d) {H : HH} {E : Env} {v : Value} (h : Rel (slAV (.int .u8) d) H E v) : Rel (encBs true (listOf toI d)) H E v := conv_sl (encA := encB) (fun x hx => encI_ok hx) hd h
theorem rec_enc {K : Type} {d : DataW K} (hd : shRec.wf d) : ∃ a b c e f, d = .agg [a, b, c, e, f] ∧ (Sh.sl (.int .u8)).wf c ∧ shRec.enc d = [.y (.int .u64 (toI a)), .y (.string (toS b)), slAV (.int .u8) c, .y (.int .u64 (toI e)), .y (.int .u64 (toI f))] := by
  obtain ⟨ds, rfl, d1, r1, rfl, w1, d2, r2, rfl, w2, d3, r3, rfl, w3, d4, r4, rfl, w4, d5, r5, rfl, w5, rfl⟩ := hd
  refine ⟨d1, d2, d3, d4, d5, rfl, w3, ?_⟩
  simp only [shRec, enc_st, enc_cons, enc_nil, encI_ok w1, encS_ok w2, slAV_eq, encI_ok w4, encI_ok w5]
  rfl
theorem rec_conv {K : Type} {d : DataW K} (hd : shRec.wf d) (j : Nat) (hj : j < 5) (H : HH) (E : Env) (v : Value) (h : Rel (Ax.get (shRec.enc d) j) H E v) : Rel (Ax.get (encR (toRec d)) j) H E v := by
  obtain ⟨a, b, c, e, f, rfl, wc, he⟩ := rec_enc hd
  rw [he] at h
  match j, hj with
  | 0, _ => exact h
  | 1, _ => exact h
  | 2, _ => exact relB wc h
  | 3, _ => exact h
  | 4, _ => exact h
theorem relRs {K : Type} {d : DataW K} (hd : (Sh.sl shRec).wf d) {H : HH} {E : Env} {v : Value} (h : Rel (slAV shRec d) H E v) : Rel (encRs true (listOf toRec d)) H E v :=
  conv_slR (encA := encR) (fun x hx j hj H E v => rec_conv hx j hj H E v) hd h
theorem undRs : Tryz.prog.underlying 26 = some (.slice 54) := by kernel_rfl
theorem bytesR : Tryz.prog.bytesOf 54 = 64 := by kernel_rfl
theorem rs_sized {K : Type} {d : DataW K} (hw : (d.weights Tryz.prog 26).all (· ≤ reachBytes) = true) : (listOf toRec d).length * 64 ≤ 140737488351232 := by
  have := weights_slice toRec undRs hw
  rwa [bytesR] at this
def shCon : Sh := .st [.str, .int .u64]
def toC {K : Type} : DataW K → Con
  | .agg [a, b] => ⟨toS a, toI b⟩
  | _ => default
theorem off_of {K : Type} {d : DataW K} (h : (Sh.int .u64).wf d) : offOk (toI d) := by
  obtain ⟨k, n, rfl, w⟩ := h
  have := bounds_u64 w
  exact ⟨by show 0 ≤ n; omega, by show n < _; omega⟩
theorem toC_ok {K : Type} {d : DataW K} (h : shCon.wf d) : shCon.enc d = encC (toC d) ∧ offOk (toC d).off := by
  obtain ⟨ds, rfl, d1, r1, rfl, w1, d2, r2, rfl, w2, rfl⟩ := h
  refine ⟨?_, off_of w2⟩
  simp only [shCon, enc_st, enc_cons, enc_nil, encS_ok w1, encI_ok w2]
  rfl
theorem wf_cons {K : Type} {d : DataW K} (h : (Sh.sl shCon).wf d) : wfC (listOf toC d) := by
  rcases h with rfl | ⟨xs, r, rfl, hx⟩
  · intro y hy; cases hy
  · intro y hy
    obtain ⟨x, hx', rfl⟩ := List.mem_map.1 hy
    exact (toC_ok (hx x hx')).2
theorem relCs {K : Type} {d : DataW K} (hd : (Sh.sl shCon).wf d) {H : HH} {E : Env} {v : Value} (h : Rel (slAV shCon d) H E v) : Rel (encCs true (listOf toC d)) H E v := conv_sl (fun x hx => (toC_ok hx).1) hd h
theorem undCs : Tryz.prog.underlying 28 = some (.slice 83) := by kernel_rfl
theorem bytesC : Tryz.prog.bytesOf 83 = 24 := by kernel_rfl
def shPro : Sh := .st [.int .u64, .int .u64, .bool, .int .u64]
def toPro {K : Type} : DataW K → P.Producer
  | .agg [a, b, c, e] => ⟨toI a, toI b, toB c, toI e⟩
  | _ => default
theorem toPro_ok {K : Type} {d : DataW K} (h : shPro.wf d) : shPro.enc d = P.encP (toPro d) ∧ offOk (toPro d).offset := by
  obtain ⟨ds, rfl, d1, r1, rfl, w1, d2, r2, rfl, w2, d3, r3, rfl, w3, d4, r4, rfl, w4, rfl⟩ := h
  refine ⟨?_, off_of w4⟩
  simp only [shPro, enc_st, enc_cons, enc_nil, encI_ok w1, encI_ok w2, encO_ok w3, encI_ok w4]
  rfl
theorem wf_prods {K : Type} {d : DataW K} (h : (Sh.sl shPro).wf d) : ∀ x ∈ listOf toPro d, 0 ≤ x.offset ∧ x.offset < 18446744073709551616 := by
  rcases h with rfl | ⟨xs, r, rfl, hx⟩
  · intro y hy; cases hy
  · intro y hy
    obtain ⟨x, hx', rfl⟩ := List.mem_map.1 hy
    exact (toPro_ok (hx x hx')).2
theorem relPs {K : Type} {d : DataW K} (hd : (Sh.sl shPro).wf d) {H : HH} {E : Env} {v : Value} (h : Rel (slAV shPro d) H E v) : Rel (P.encPs true (listOf toPro d)) H E v := conv_sl (fun x hx => (toPro_ok hx).1) hd h
theorem undPs : Tryz.prog.underlying 27 = some (.slice 80) := by kernel_rfl
theorem bytesP : Tryz.prog.bytesOf 80 = 32 := by kernel_rfl
def shRng : Sh := .st [.str, .str]
def toRng {K : Type} : DataW K → Rng
  | .agg [a, b] => ⟨toS a, toS b⟩
  | _ => default
theorem toRng_ok {K : Type} {d : DataW K} (h : shRng.wf d) : shRng.enc d = encG (toRng d) := by
  obtain ⟨ds, rfl, d1, r1, rfl, w1, d2, r2, rfl, w2, rfl⟩ := h
  simp only [shRng, enc_st, enc_cons, enc_nil, encS_ok w1, encS_ok w2]
  rfl
def shPart : Sh := .st [shRng, .int .u64, .int .u64, .sl shRec, .sl shPro, .sl shCon]
def toPart {K : Type} : DataW K → Part
  | .agg [a, b, c, e, f, g] => ⟨toRng a, toI b, toI c, listOf toRec e, listOf toPro f, listOf toC g⟩
  | _ => default
theorem relPart {K : Type} {d : DataW K} (hd : shPart.wf d) {H : HH} {E : Env} {vs : List Value} (h : RelL (shPart.enc d) H E vs) : RelL (encPt true (toPart d)) H E vs := by
  obtain ⟨ds, rfl, d1, r1, rfl, w1, d2, r2, rfl, w2, d3, r3, rfl, w3, d4, r4, rfl, w4, d5, r5, rfl, w5, d6, r6, rfl, w6, rfl⟩ := hd
  have e : shPart.enc (DataW.agg [d1, d2, d3, d4, d5, d6]) = [.y (.string (toRng d1).lo), .y (.string (toRng d1).hi), .y (.int .u64 (toI d2)), .y (.int .u64 (toI d3)), slAV shRec d4, slAV shPro d5, slAV shCon d6] := by
    simp only [shPart, enc_st, enc_cons, enc_nil, slAV_eq, toRng_ok w1, encI_ok w2, encI_ok w3]
    rfl
  rw [e] at h
  obtain ⟨v1, x1, rfl, h1, v2, x2, rfl, h2, v3, x3, rfl, h3, v4, x4, rfl, h4, v5, x5, rfl, h5, v6, x6, rfl, h6, v7, x7, rfl, h7, rfl⟩ := h
  exact ⟨_, _, rfl, h1, _, _, rfl, h2, _, _, rfl, h3, _, _, rfl, h4, _, _, rfl, relRs w4 h5, _, _, rfl, relPs w5 h6, _, _, rfl, relCs w6 h7, rfl⟩
theorem undPart : ∃ fs, Tryz.prog.underlying 30 = some (.struct fs) ∧ fs.toList.map (·.type) = [24, 25, 25, 26, 27, 28] := structTypes_ok (by kernel_rfl)
structure PartSz (p : Part) : Prop where
  rl : p.recs.length * 64 ≤ 140737488351232
  pl : p.prods.length * 32 ≤ 140737488351232
  cl : p.cons.length * 24 ≤ 140737488351232
  po : ∀ x ∈ p.prods, 0 ≤ x.offset ∧ x.offset < 18446744073709551616
  co : wfC p.cons
theorem part_sz {K : Type} {d : DataW K} (hd : shPart.wf d) (hw : (d.weights Tryz.prog 30).all (· ≤ reachBytes) = true) : PartSz (toPart d) := by
  obtain ⟨ds, rfl, d1, r1, rfl, w1, d2, r2, rfl, w2, d3, r3, rfl, w3, d4, r4, rfl, w4, d5, r5, rfl, w5, d6, r6, rfl, w6, rfl⟩ := hd
  obtain ⟨fs, hf, ht⟩ := undPart
  have h := weights_struct hf hw
  rw [ht] at h
  obtain ⟨h1, h⟩ := weights_cons h
  obtain ⟨h2, h⟩ := weights_cons h
  obtain ⟨h3, h⟩ := weights_cons h
  obtain ⟨h4, h⟩ := weights_cons h
  obtain ⟨h5, h⟩ := weights_cons h
  obtain ⟨h6, h⟩ := weights_cons h
  have k5 := weights_slice toPro undPs h5
  have k6 := weights_slice toC undCs h6
  rw [bytesP] at k5
  rw [bytesC] at k6
  exact ⟨rs_sized h4, k5, k6, wf_prods w5, wf_cons w6⟩
end Go.Proofs.YtnbhdjadlbhknaaGreatDoor

/-! From the statements to the laws: commands; the handle. -/
namespace Go.Proofs.YtnbhdjadlbhknaaGreatDoor
open Go.Ax Go.Shelf Go.RowKit Go.ChangeShapes Go.WideShapes Go.ChangeAt
set_option maxRecDepth 1000000
def shCm : Sh := .st [.int .i64, .int .u64, .int .u64, .int .u64, .str, .sl (.int .u8), .int .u64, .int .i64, .str, .int .u64]
def toCm {K : Type} : DataW K → R.Cmd
  | .agg [a, b, c, d, e, f, g, h, i, j] => ⟨toI a, toI b, toI c, toI d, toS e, listOf toI f, toI g, toI h, toS i, toI j⟩
  | _ => default
theorem cm_enc {K : Type} {d : DataW K} (hd : shCm.wf d) : ∃ a1 a2 a3 a4 a5 a6 a7 a8 a9 a10, d = .agg [a1, a2, a3, a4, a5, a6, a7, a8, a9, a10] ∧ (Sh.sl (.int .u8)).wf a6 ∧ (Sh.int .u64).wf a7 ∧ shCm.enc d = [.y (.int .i64 (toI a1)), .y (.int .u64 (toI a2)), .y (.int .u64 (toI a3)), .y (.int .u64 (toI a4)), .y (.string (toS a5)), slAV (.int .u8) a6, .y (.int .u64 (toI a7)), .y (.int .i64 (toI a8)), .y (.string (toS a9)), .y (.int .u64 (toI a10))] := by
  obtain ⟨ds, rfl, d1, r1, rfl, w1, d2, r2, rfl, w2, d3, r3, rfl, w3, d4, r4, rfl, w4, d5, r5, rfl, w5, d6, r6, rfl, w6, d7, r7, rfl, w7, d8, r8, rfl, w8, d9, r9, rfl, w9, d10, r10, rfl, w10, rfl⟩ := hd
  refine ⟨d1, d2, d3, d4, d5, d6, d7, d8, d9, d10, rfl, w6, w7, ?_⟩
  simp only [shCm, enc_st, enc_cons, enc_nil, encI_ok w1, encI_ok w2, encI_ok w3, encI_ok w4, encS_ok w5, slAV_eq, encI_ok w7, encI_ok w8, encS_ok w9, encI_ok w10]
  rfl
theorem cm_conv {K : Type} {d : DataW K} (hd : shCm.wf d) (j : Nat) (hj : j < 10) (H : HH) (E : Env) (v : Value) (h : Rel (Ax.get (shCm.enc d) j) H E v) : Rel (Ax.get (R.encCm (toCm d)) j) H E v := by
  obtain ⟨a1, a2, a3, a4, a5, a6, a7, a8, a9, a10, rfl, wc, _, he⟩ := cm_enc hd
  rw [he] at h
  match j, hj with
  | 0, _ => exact h
  | 1, _ => exact h
  | 2, _ => exact h
  | 3, _ => exact h
  | 4, _ => exact h
  | 5, _ => exact relB wc h
  | 6, _ => exact h
  | 7, _ => exact h
  | 8, _ => exact h
  | 9, _ => exact h
theorem relCms {K : Type} {d : DataW K} (hd : (Sh.sl shCm).wf d) {H : HH} {E : Env} {v : Value} (h : Rel (slAV shCm d) H E v) : Rel (.ys true 10 (listOf toCm d).length (cellsOf' R.encCm (listOf toCm d))) H E v :=
  conv_slR (encA := R.encCm) (fun x hx j hj H E v => cm_conv hx j hj H E v) hd h
theorem undCms : Tryz.prog.underlying 39 = some (.slice 37) := by kernel_rfl
theorem bytesCm : Tryz.prog.bytesOf 37 = 112 := by kernel_rfl
theorem cms_sized {K : Type} {d : DataW K} (hw : (d.weights Tryz.prog 39).all (· ≤ reachBytes) = true) : (listOf toCm d).length * 112 ≤ 140737488351232 := by
  have := weights_slice toCm undCms hw
  rwa [bytesCm] at this
theorem cm_off {K : Type} {d : DataW K} (hd : shCm.wf d) : offOk (toCm d).off := by
  obtain ⟨a1, a2, a3, a4, a5, a6, a7, a8, a9, a10, rfl, _, w, _⟩ := cm_enc hd
  exact off_of w
theorem wf_cms {K : Type} {d : DataW K} (h : (Sh.sl shCm).wf d) : ∀ c ∈ listOf toCm d, 0 ≤ c.off ∧ c.off < 18446744073709551616 := by
  rcases h with rfl | ⟨xs, r, rfl, hx⟩
  · intro y hy; cases hy
  · intro y hy
    obtain ⟨x, hx', rfl⟩ := List.mem_map.1 hy
    exact cm_off (hx x hx')
/-! the handle -/
theorem hd_var : Tryz.prog.globalNamed "errors.errorType" = some 0 := by kernel_rfl
theorem hd_row : (Tryz.prog.cutTypes.find? (·.1 == "internal/reflectlite.rtype")).map (·.2) = some 191 := by kernel_rfl
theorem hd_one : ((List.range Tryz.prog.types.size).filter fun t => Tryz.prog.rowNamed t [101, 114, 114, 111, 114]) = [74] := by kernel_rfl
theorem gl_of {laid : List (String × DataW Unit)} {W : World} (hf : (laid.filter fun x => x.2.handleName?.isSome) = [("errors.errorType", Rows.laid_errors_errorType)]) (h : laidMetH Tryz.prog laid W) : GlOk W := by
  unfold laidMetH at h
  rw [hf] at h
  obtain ⟨name, u, ty, e1, e2, e3, e4, e5⟩ := h.2 _ (List.mem_singleton.2 rfl)
  have en : name = [101, 114, 114, 111, 114] := (Option.some.inj e1).symm
  subst en
  obtain rfl := Option.some.inj (hd_row.symm.trans e2)
  have hm : ty ∈ (List.range Tryz.prog.types.size).filter fun t => Tryz.prog.rowNamed t [101, 114, 114, 111, 114] := List.mem_filter.2 ⟨List.mem_range.2 e3, e4⟩
  rw [hd_one] at hm
  obtain rfl := List.mem_singleton.1 hm
  have hc := World.var?_cell hd_var e5 0
  intro p hp
  obtain rfl := List.mem_singleton.1 hp
  exact ⟨by kernel_rfl, hc⟩
/-- a world whose variable holds the handle -/
noncomputable def hdWorld (os : Os) : World :=
  { World.holding Tryz.prog os ⟨#[], #[], []⟩ with heap := (World.holding Tryz.prog os ⟨#[], #[], []⟩).heap.modify 0 fun
      | .cells _ t frozen => .cells #[.iface 191 (.agg #[typeHandle Tryz.prog 74])] t frozen
      | o => o }
theorem laidMet_lay {P : Program} {w0 : World} {laid : List (String × DataW Unit)} (args : Array Value) (hf : w0.layFits P laid [] = true) (hi : w0.layIfaces P laid (w0.layVars P laid) = true) :
    laidMet P laid ((w0.layVars P laid).forCall (fun _ _ => 0) ⟨#[], args, []⟩).memory := by
  have e1 : (laid.filter fun x => (laid.map (·.1)).contains x.1) = laid := List.filter_eq_self.2 fun x hx => List.contains_iff_mem.2 (List.mem_map.2 ⟨x, hx, rfl⟩)
  have e2 : (laid.filter fun x => !(laid.map (·.1)).contains x.1) = [] := List.filter_eq_nil_iff.2 fun x hx => by rw [List.contains_iff_mem.2 (List.mem_map.2 ⟨x, hx, rfl⟩)]; simp
  have h : laidMet P laid (w0.layVars P laid) := laidMet_layVars (w0 := w0) (laid.map (·.1)) [] (by rw [e1]) (by rw [e1]; exact hf) (by rw [e1]; exact hi) (by rw [e2]; exact LaidIn.none)
  exact h.of_heap (by simp [World.memory, World.forCall, Input.heap])
end Go.Proofs.YtnbhdjadlbhknaaGreatDoor

/-! Shards' states: from the statement to PartfsmOnce. -/
namespace Go.Proofs.YtnbhdjadlbhknaaGreatDoor.R
open Go.Ax Go.Shelf Go.RowKit Go.ChangeShapes Go.WideShapes Go.ChangeAt
set_option maxRecDepth 1000000
theorem ty_sz' {p : Part} (h : PartSz p) : D.PartTy p := by
  obtain ⟨h1, h2, h3, h4, h5⟩ := h
  exact ⟨by omega, by omega, by omega, h4, h5⟩
theorem cms_ok' {K : Type} {d : DataW K} (hd : (Sh.sl shCm).wf d) (hw : (d.weights Tryz.prog 39).all (· ≤ reachBytes) = true) : CmsOk (listOf toCm d) := by
  have := cms_sized hw
  exact ⟨by omega, wf_cms hd⟩
def partfsmOnce_laidL : List (String × DataW Unit) := Rows.partfsmOnceRow.laid
noncomputable def partfsmOnce_layW (os : Os) : World := World.layVars Tryz.prog (hdWorld os) (partfsmOnce_laidL.filter fun x => x.2.handleName?.isNone)
theorem partfsmOnce_lay_met (os : Os) (args : Array Value) : laidMetH Tryz.prog partfsmOnce_laidL ((partfsmOnce_layW os).forCall (fun _ _ => 0) ⟨#[], args, []⟩).memory :=
  laidMetH_of_parts (laidMet_lay args (by kernel_rfl) (by kernel_rfl)) (by kernel_rfl)
theorem partfsmOnce_lifted (os : Os) (started : os.Started) (K : Type) (enc : TypeId × Value → K) :
    ReturnsInHanded {} Tryz.checked os 6 .any (fun w args => (Rows.partfsmOnceSpec.pre enc Tryz.prog Tryz.f6 [] false w args ∧ laidMetH Tryz.prog partfsmOnce_laidL w) ∧ sizedMet enc Tryz.prog Tryz.f6 (OpenSpec.ofChange Rows.partfsmOnceSpec) false w args)
      (Rows.partfsmOnceSpec.post enc Tryz.prog Tryz.f6 false true false false) := by
  refine returnsInHanded_of_change_and (C := Tryz.checked) (X := fun w _ => laidMetH Tryz.prog partfsmOnce_laidL w) (fun _ _ _ hh h => h.of_heap hh) Tryz.own started (by kernel_rfl) Tryz.func6
    (ChangeSpec.witness_at (enc := enc) (C := Tryz.checked) (os := os) (X := fun w _ => laidMetH Tryz.prog partfsmOnce_laidL w) false (partfsmOnce_layW os) #[.agg #[.string ⟨#[]⟩, .string ⟨#[]⟩, .int .u64 0, .int .u64 0, .slice Option.none 0 0, .slice Option.none 0 0, .slice Option.none 0 0], .slice Option.none 0 0] 8 rfl (by kernel_rfl) (by kernel_rfl) (by kernel_rfl) (by kernel_rfl) (by kernel_rfl) (partfsmOnce_lay_met os _)) ?_
  intro W base args ds gs before hval0 hW hcnd hsz hL _
  have hps : Tryz.f6.params.toList = [30, 39] := by kernel_rfl
  obtain ⟨p, q, hA, hV, hbef, hfz, hnd⟩ := id hW
  rw [hps] at hA hsz
  have ⟨hr, hwf⟩ := lift_all [shPart, .sl shCm] (by kernel_rfl) hA
  obtain ⟨v1, v2, d1, d2, _, _, e1, rfl, _, _, _⟩ := trodAll_two hA
  obtain ⟨_, _, g1, w1, _, _, g2, w2, _⟩ := hwf
  obtain ⟨rfl, q1⟩ := List.cons.inj g1
  subst q1
  obtain ⟨rfl, _⟩ := List.cons.inj g2
  subst e1
  obtain ⟨h1, hs1⟩ := weights_cons (P := Tryz.prog) (t := 30) (d := d1) hsz
  obtain ⟨h2, hs2⟩ := weights_cons (P := Tryz.prog) (t := 39) (d := d2) hs1
  have r1 := hr.1
  obtain ⟨fs1, hf1, _⟩ := undPart
  have r1 := relA hf1 (hval0 0 _ _ (by kernel_rfl) rfl) (relPart w1 r1)
  have r2 := hr.2.1
  rw [slAV_eq] at r2
  obtain ⟨s2, n2, c2, rfl⟩ := okWide_slice undCms (hval0 1 _ _ (by kernel_rfl) rfl)
  obtain ⟨_, _, er, r2, _⟩ := r2
  cases er
  have r2 := relCms w2 r2
  refine open_calls (call_of (once_c _ _ (ty_sz' (part_sz w1 h1)) (cms_ok' w2 h2))) (t := 4) (ds := [d1, d2]) ⟨_, _, rfl, r1, _, _, rfl, r2, rfl⟩ (by kernel_rfl) underBool rfl rfl Tryz.laidOut Tryz.mapsRowed Tryz.slicesOk (by rw [hps]; intro t ht; simp only [List.mem_cons, List.not_mem_nil, or_false] at ht; rcases ht with rfl | rfl <;> exact of_decide_eq_true (by kernel_rfl)) hW (gl_of (by kernel_rfl) hL)
theorem partfsmOnce_holds : Rows.PartfsmOnceSaid :=
  OpenClaim.holds_of_wide 6 Tryz.f6 rfl rfl rfl rfl rfl rfl rfl ⟨rfl, rfl, rfl, rfl, rfl⟩ rfl rfl rfl rfl rfl (by kernel_rfl) Tryz.func6 (by kernel_rfl)
    (of_decide_eq_true (by kernel_rfl)) (by unfold Func.isWrapper; first | (rw [if_pos (by decide +kernel)]; kernel_rfl) | (rw [if_neg (by decide +kernel)]; exact ⟨rfl, rfl⟩))
    (fun os started H enc _ => partfsmOnce_lifted os started H enc)
theorem partfsmOnce_said : Rows.PartfsmOnceCardSaid :=
  Claim7.holds_tied_plain_at .later [] [.data, .handle, .pinned] true (true, "4008c0ec14d4e8318941b98147842fa4797ed9bf7edcfa700debfb0742dcc49e") true
    partfsmOnce_holds (fun _ h => by cases h) (by kernel_rfl) (fun _ h => by cases h) partfsmOnce_row_tie rfl ⟨rfl, rfl⟩ (by kernel_rfl) rfl
    (fun f fn hf hfn => by
      obtain rfl : f = 6 := Option.some.inj ((show Tryz.prog.funcNamed "gazette/gazettelaw16.PartfsmOnce" = some 6 by kernel_rfl).symm.trans hf) |>.symm
      obtain rfl : fn = Tryz.f6 := (Option.some.inj (Tryz.func6.symm.trans hfn)).symm
      exact ⟨by kernel_rfl, fun j t ht => by
        rw [show Tryz.f6.params = #[30, 39] by kernel_rfl] at ht
        have h3 : t = 30 ∨ t = 39 := by
          rcases j with _ | _ | j
          · exact Or.inl (by simpa using ht.symm)
          · exact Or.inr ((by simpa using ht.symm))
          · simp at ht
        rcases h3 with rfl | rfl
        · exact (show Tryz.prog.wantsStandIn 30 = false by kernel_rfl)
        · exact (show Tryz.prog.wantsStandIn 39 = false by kernel_rfl)⟩)
    (by kernel_rfl)
end Go.Proofs.YtnbhdjadlbhknaaGreatDoor.R
namespace Go.Proofs.YtnbhdjadlbhknaaGreatDoor
theorem once_said : Rows.PartfsmOnceCardSaid := R.partfsmOnce_said
end Go.Proofs.YtnbhdjadlbhknaaGreatDoor
