/- PROVED: a command that is written does what it does, and its answer is read as it is answered; what is no command changes nothing, where what is read is of bulk at most 1048576 (PartfsmApplies, second form). -/
import Derived.Test.YtnbhdjadlbhknaaGreatDoorRows
import Derived.Test.YtnbhdjadlbhknaaGreatDoorTie
import Derived.Test.YtnbhdjadlbhknaaGreatDoorCards
import Derived.OpenShut
import Derived.Lay
import Derived.Handed
import Derived.SevenTiedAt
import Derived.LaidHandle
import Derived.Deep.DeepHandedRow
import Derived.Test.YtnbhdjadlbhknaaGreatDoorE11
import Derived.Test.YtnbhdjadlbhknaaGreatDoorW3
import Derived.Test.YtnbhdjadlbhknaaGreatDoorW4
import Derived.Test.YtnbhdjadlbhknaaGreatDoorW8
set_option linter.unusedVariables false
set_option linter.unusedSimpArgs false
set_option linter.unusedSectionVars false
namespace Go.Proofs.YtnbhdjadlbhknaaGreatDoor.J
open Go.Ax
set_option maxRecDepth 1000000
structure RndOk (c : R.Cmd) (p p1 : Part) (x : R.Res) (w : List Int) (q : Part) (y z : R.Res) (ez : Int) (d : R.Cmd) (e : Int) : Prop where
  a0 : R.DoR p c p1 x
  u : CmdU c
  w0 : w = cmdB c
  wr : RlOk w
  ap : ApR p w q y
  rl : RlOk (resB y)
  rx : (z, ez) = rxS (resB y)
  ez0 : ez = 0
  rc : (d, e) = rcS w
  i : PartIn p
  i1 : PartIn p1
  len : x.recs.length ≤ 9223372036854775806
  s0 : R.samePt p1 q = true
  t : (e = 0 ∧ sameX x z = true) ∨ (e = 161 ∧ x.err = 161 ∧ z.err = 161)
structure RunOk (l : List R.Cmd) (r : Run) : Prop where
  n : l.length ≤ 9223372036854775806
  e : ∀ i, l.length ≤ i → r.f i = r.f l.length
  o : ∀ i, i < l.length → RndOk (l.getD i default) (r.f i) (r.f (i + 1)) (r.x i) (r.w i) (r.q i) (r.y i) (r.z i) (r.ez i) (r.d i) (r.e i)
theorem al_loop (l : List R.Cmd) (b : List Int) (r : Run) (h : RunOk l r) (i : Nat) : LoopOk Tryz.prog 7 5 (loopAt Tryz.prog 7 5) ⟨alT l b i, alM r i, []⟩ (T.map (lout alX (alS l b r)) (.ret ())) := by
  refine loop_vcH (o := fun _ => .ret ()) (ht := alH l r) (stT := alT l b) (stM := alM r) Tryz.mixed (fun _ => rfl) (fun i => (vcAlL_eq l b r i).mpr ?_) i
  unfold vcAlL
  have hn := h.n
  by_cases hi : i < l.length
  · have hz : decide ((i : Int) < l.length) = true := by simp; omega
    have hw : IntKind.i64.wrap ((i : Int) + 1) = ((i + 1 : Nat) : Int) := by rw [wrap_i64 (by omega) (by omega)]; omega
    obtain ⟨h1, h2, h3, h4, h5, h6, h7, h8, h9, h10, h11, h12, h13, h14⟩ := h.o i hi
    rw [Int.toNat_natCast]
    simp only [hz, hw]
    generalize l.getD i default = c at *
    generalize r.f i = p at *
    generalize hq : r.f (i + 1) = p1 at *
    generalize r.x i = x at *
    generalize r.w i = w at *
    generalize r.q i = q at *
    generalize r.y i = y at *
    generalize r.z i = z at *
    generalize r.ez i = ez at *
    generalize r.d i = d at *
    generalize r.e i = e at *
    subst h3 h8
    rcases h14 with ⟨rfl, k⟩ | ⟨rfl, k1, k2⟩
    · simp [h1, h2, h4, h5, h6, h7, h9, h10, h11, h12, h13, k]
      exact ⟨i + 1, by omega, by omega, by simp [hq]⟩
    · simp [h1, h2, h4, h5, h6, h7, h9, h10, h11, h12, h13, k1, k2]
      exact ⟨i + 1, by omega, by omega, by simp [hq]⟩
  · have hz : decide ((i : Int) < l.length) = false := by simp; omega
    have he := h.e i (by omega)
    rw [he]
    simp only [hz]
    simp
def runOf (p : Part) (l : List R.Cmd) : Run where
  f := R.runP p l
  x := fun i => R.dX (R.runP p l i) (l.getD i default)
  w := fun i => cmdB (l.getD i default)
  q := fun i => R.dQ (R.runP p l i) (cmdOf (cmdB (l.getD i default)))
  y := fun i => R.dX (R.runP p l i) (cmdOf (cmdB (l.getD i default)))
  z := fun i => R.dX (R.runP p l i) (cmdOf (cmdB (l.getD i default)))
  ez := fun _ => 0
  d := fun i => (rcS (cmdB (l.getD i default))).1
  e := fun i => (rcS (cmdB (l.getD i default))).2
structure AlIn (p : Part) (l : List R.Cmd) (b : List Int) : Prop where
  t : PtT p
  y : D.PartTy p
  n : l.length ≤ 9223372036854775806
  c : ∀ c ∈ l, CmT c
  b : RlOk b
theorem run_g {p : Part} {l : List R.Cmd} (h : PtG p) (hc : ∀ c ∈ l, CmT c) : ∀ i, PtG (R.runP p l i)
  | 0 => by simpa [R.runP] using h
  | i + 1 => by
    have ih := run_g h hc i
    by_cases hi : i < l.length
    · rw [R.runP_succ p l hi]
      exact ih.next (hc _ (mem_getD hi))
    · have e : R.runP p l (i + 1) = R.runP p l i := by
        unfold R.runP
        rw [List.take_of_length_le (by omega), List.take_of_length_le (by omega)]
      rw [e]
      exact ih
theorem run_ok {p : Part} {l : List R.Cmd} (h : PtG p) (hc : ∀ c ∈ l, CmT c) (hn : l.length ≤ 9223372036854775806) : RunOk l (runOf p l) := by
  refine ⟨hn, fun i hi => by show R.runP p l i = R.runP p l l.length; unfold R.runP; rw [List.take_of_length_le hi, List.take_of_length_le (Nat.le_refl _)], fun i hi => ?_⟩
  have g := run_g h hc i
  have g1 := run_g h hc (i + 1)
  have c := hc _ (mem_getD hi)
  have es := R.runP_succ p l hi
  have ar := ap_r g (cmd_rl c)
  have xy := dX_ok g.st (cmdOf_t (cmd_rl c))
  have xx := dX_ok g.st c
  refine ⟨⟨es, rfl, g.y.isIn, c.u.off.lo, c.u.off.hi⟩, c.u, rfl, cmd_rl c, ar, res_rl xy, (res_fwd xy).symm, rfl, rfl, g.y.isIn, g1.y.isIn, by have := xx.recs.n; show (R.dX (R.runP p l i) (l.getD i default)).recs.length ≤ _; omega, ?_, ?_⟩
  · show R.samePt (R.runP p l (i + 1)) (R.dQ (R.runP p l i) (cmdOf (cmdB (l.getD i default)))) = true
    rw [es]
    cases hw : R.wellB (l.getD i default)
    · obtain ⟨_, k1, k2, _⟩ := ap_not g.ok c hw
      rw [k1, k2]
      exact R.same_refl _
    · rw [(ap_well c hw).2.1]
      exact R.same_refl _
  · show ((rcS (cmdB (l.getD i default))).2 = 0 ∧ sameX (R.dX (R.runP p l i) (l.getD i default)) (R.dX (R.runP p l i) (cmdOf (cmdB (l.getD i default)))) = true) ∨ ((rcS (cmdB (l.getD i default))).2 = 161 ∧ (R.dX (R.runP p l i) (l.getD i default)).err = 161 ∧ (R.dX (R.runP p l i) (cmdOf (cmdB (l.getD i default)))).err = 161)
    cases hw : R.wellB (l.getD i default)
    · obtain ⟨k0, _, _, k3, k4⟩ := ap_not g.ok c hw
      exact .inr ⟨k0, k4, k3⟩
    · obtain ⟨k0, _, k2⟩ := ap_well (p := R.runP p l i) c hw
      rw [k2]
      exact .inl ⟨k0, sameX_refl _⟩
theorem al_c (p : Part) (l : List R.Cmd) (b : List Int) (hin : AlIn p l b) : (boolR true).Sat (ACall' Tryz.prog 7 [.agg (encPt true p), R.encCms true l, encBs true b] []) := by
  obtain ⟨ht, hy, hn, hc, hb⟩ := hin
  obtain ⟨d, e, hd⟩ : ∃ d e, (d, e) = rcS b := ⟨_, _, rfl⟩
  obtain ⟨q, hq⟩ : ∃ q, q = R.dQ ((runOf p l).f l.length) (cmdOf b) := ⟨_, rfl⟩
  obtain ⟨y, hyy⟩ : ∃ y, y = R.dX ((runOf p l).f l.length) (cmdOf b) := ⟨_, rfl⟩
  refine ctr_vc (ht := alHd p l b (runOf p l) d e q y) Tryz.mixed rfl ?_
  rw [vcAl_eq p l b (runOf p l) d e q y]
  unfold vcAl
  have hi := hy.isIn
  cases ho : partOk p
  · simp [hi]
  · have g : PtG p := ⟨ht, ho, hy⟩
    have gn := run_g g hc l.length
    have gn : PtG ((runOf p l).f l.length) := gn
    have lp := al_loop l b (runOf p l) (run_ok g hc hn) 0
    have ar : ApR ((runOf p l).f l.length) b q y := by rw [hq, hyy]; exact ap_r gn hb
    have e0 : (runOf p l).f 0 = p := by show R.runP p l 0 = p; simp [R.runP]
    have iq : PartIn q := by rw [hq]; exact (gn.next (cmdOf_t hb)).y.isIn
    have hs : e = 0 ∨ R.samePt q ((runOf p l).f l.length) = true := by
      have he : e = (rcS b).2 := congrArg Prod.snd hd
      by_cases h0 : e = 0
      · exact .inl h0
      · right
        have h2 : cmdOf b = default := by unfold cmdOf; rw [if_neg (by rw [← he]; exact h0)]
        rw [hq, h2, (do_not gn.ok well_def).1]
        exact R.same_refl _
    have gi := gn.y.isIn
    rcases hs with rfl | hs
    · simp [hi, e0, lp, hb, hd, ar, iq, gi]
      done
    · simp [hi, e0, lp, hb, hd, ar, iq, gi, hs]
      done
end Go.Proofs.YtnbhdjadlbhknaaGreatDoor.J

namespace Go.Proofs.YtnbhdjadlbhknaaGreatDoor
open Go.Ax Go.Shelf Go.RowKit Go.ChangeShapes Go.WideShapes Go.ChangeAt
set_option maxRecDepth 1000000
def toI {K : Type} : DataW K → Int
  | .lit (.int _ a) => a
  | _ => 0
def toS {K : Type} : DataW K → ByteArray
  | .lit (.string l) => ⟨l.toArray⟩
  | _ => ByteArray.empty
def toB {K : Type} : DataW K → Bool
  | .lit (.bool b) => b
  | _ => false
theorem encI_ok {K : Type} {k : IntKind} {d : DataW K} (h : (Sh.int k).wf d) : (Sh.int k).enc d = [.y (.int k (toI d))] := by
  obtain ⟨k', n, rfl, _⟩ := h
  rfl
theorem encS_ok {K : Type} {d : DataW K} (h : Sh.str.wf d) : Sh.str.enc d = [.y (.string (toS d))] := by
  obtain ⟨l, rfl, _⟩ := h
  rfl
theorem encO_ok {K : Type} {d : DataW K} (h : Sh.bool.wf d) : Sh.bool.enc d = [.y (.bool (toB d))] := by
  obtain ⟨l, rfl⟩ := h
  rfl
theorem enc_st {K : Type} (fs : List Sh) (ds : List (DataW K)) : (Sh.st fs).enc (.agg ds) = Sh.encL fs ds := by simp only [Sh.enc]
theorem enc_cons {K : Type} (s : Sh) (r : List Sh) (d : DataW K) (ds : List (DataW K)) : Sh.encL (s :: r) (d :: ds) = s.enc d ++ Sh.encL r ds := by simp only [Sh.encL]
theorem enc_nil {K : Type} (l : List (DataW K)) : Sh.encL [] l = [] := by simp only [Sh.encL]
theorem relA {P : Program} {W : World} {r : Reach} {base : Nat} {t : TypeId} {v : Value} {fs : Array Field} {l : List AV} {H : HH} {E : Env} (hu : P.underlying t = some (.struct fs)) (hv : Value.okWide P W r base t v) (h : RelL l H E v.cells.toList) : Rel (.agg l) H E v := by
  obtain ⟨cs, rfl, _⟩ := okWide_struct hu hv
  exact ⟨cs, rfl, h⟩
theorem Tryz.own : ownKnob Tryz.prog.godebug = Option.none := by kernel_rfl
theorem Tryz.laidOut : laidOutB Tryz.prog = true := by kernel_rfl
theorem Tryz.mapsRowed : mapsRowed Tryz.prog = true := by kernel_rfl
theorem Tryz.slicesOk : slicesOk Tryz.prog = true := by kernel_rfl
theorem underBool : Tryz.prog.underlying 4 = some .bool := by kernel_rfl
def structTypes (P : Program) (t : TypeId) : Option (List TypeId) := match P.underlying t with | some (.struct fs) => some (fs.toList.map (·.type)) | _ => Option.none
theorem structTypes_ok {P : Program} {t : TypeId} {l : List TypeId} (h : structTypes P t = some l) : ∃ fs, P.underlying t = some (.struct fs) ∧ fs.toList.map (·.type) = l := by
  unfold structTypes at h
  split at h
  · rename_i fs hu
    exact ⟨fs, hu, Option.some.inj h⟩
  · cases h
end Go.Proofs.YtnbhdjadlbhknaaGreatDoor

namespace Go.Proofs.YtnbhdjadlbhknaaGreatDoor
open Go.Ax Go.Shelf Go.RowKit Go.ChangeShapes Go.WideShapes Go.ChangeAt
set_option maxRecDepth 1000000
def shRec : Sh := .st [.int .u64, .str, .sl (.int .u8), .int .u64, .int .u64]
def toRec {K : Type} : DataW K → Rec
  | .agg [a, b, c, d, e] => ⟨toI a, toS b, listOf toI c, toI d, toI e⟩
  | _ => default
theorem relB {K : Type} {d : DataW K} (hd : (Sh.sl (.int .u8)).wf d) {H : HH} {E : Env} {v : Value} (h : Rel (slAV (.int .u8) d) H E v) : Rel (encBs true (listOf toI d)) H E v := conv_sl (encA := encB) (fun x hx => encI_ok hx) hd h
theorem rec_enc {K : Type} {d : DataW K} (hd : shRec.wf d) : ∃ a b c e f, d = .agg [a, b, c, e, f] ∧ (Sh.sl (.int .u8)).wf c ∧ shRec.enc d = [.y (.int .u64 (toI a)), .y (.string (toS b)), slAV (.int .u8) c, .y (.int .u64 (toI e)), .y (.int .u64 (toI f))] := by
  obtain ⟨ds, rfl, d1, r1, rfl, w1, d2, r2, rfl, w2, d3, r3, rfl, w3, d4, r4, rfl, w4, d5, r5, rfl, w5, rfl⟩ := hd
  refine ⟨d1, d2, d3, d4, d5, rfl, w3, ?_⟩
  simp only [shRec, enc_st, enc_cons, enc_nil, encI_ok w1, encS_ok w2, slAV_eq, encI_ok w4, encI_ok w5]
  rfl
theorem rec_conv {K : Type} {d : DataW K} (hd : shRec.wf d) (j : Nat) (hj : j < 5) (H : HH) (E : Env) (v : Value) (h : Rel (Ax.get (shRec.enc d) j) H E v) : Rel (Ax.get (encR (toRec d)) j) H E v := by
  obtain ⟨a, b, c, e, f, rfl, wc, he⟩ := rec_enc hd
  rw [he] at h
  match j, hj with
  | 0, _ => exact h
  | 1, _ => exact h
  | 2, _ => exact relB wc h
  | 3, _ => exact h
  | 4, _ => exact h
theorem relRs {K : Type} {d : DataW K} (hd : (Sh.sl shRec).wf d) {H : HH} {E : Env} {v : Value} (h : Rel (slAV shRec d) H E v) : Rel (encRs true (listOf toRec d)) H E v :=
  conv_slR (encA := encR) (fun x hx j hj H E v => rec_conv hx j hj H E v) hd h
theorem undRs : Tryz.prog.underlying 26 = some (.slice 54) := by kernel_rfl
theorem bytesR : Tryz.prog.bytesOf 54 = 64 := by kernel_rfl
theorem rs_sized {K : Type} {d : DataW K} (hw : (d.weights Tryz.prog 26).all (· ≤ reachBytes) = true) : (listOf toRec d).length * 64 ≤ 140737488351232 := by
  have := weights_slice toRec undRs hw
  rwa [bytesR] at this
def shCon : Sh := .st [.str, .int .u64]
def toC {K : Type} : DataW K → Con
  | .agg [a, b] => ⟨toS a, toI b⟩
  | _ => default
theorem off_of {K : Type} {d : DataW K} (h : (Sh.int .u64).wf d) : offOk (toI d) := by
  obtain ⟨k, n, rfl, w⟩ := h
  have := bounds_u64 w
  exact ⟨by show 0 ≤ n; omega, by show n < _; omega⟩
theorem toC_ok {K : Type} {d : DataW K} (h : shCon.wf d) : shCon.enc d = encC (toC d) ∧ offOk (toC d).off := by
  obtain ⟨ds, rfl, d1, r1, rfl, w1, d2, r2, rfl, w2, rfl⟩ := h
  refine ⟨?_, off_of w2⟩
  simp only [shCon, enc_st, enc_cons, enc_nil, encS_ok w1, encI_ok w2]
  rfl
theorem wf_cons {K : Type} {d : DataW K} (h : (Sh.sl shCon).wf d) : wfC (listOf toC d) := by
  rcases h with rfl | ⟨xs, r, rfl, hx⟩
  · intro y hy; cases hy
  · intro y hy
    obtain ⟨x, hx', rfl⟩ := List.mem_map.1 hy
    exact (toC_ok (hx x hx')).2
theorem relCs {K : Type} {d : DataW K} (hd : (Sh.sl shCon).wf d) {H : HH} {E : Env} {v : Value} (h : Rel (slAV shCon d) H E v) : Rel (encCs true (listOf toC d)) H E v := conv_sl (fun x hx => (toC_ok hx).1) hd h
theorem undCs : Tryz.prog.underlying 28 = some (.slice 83) := by kernel_rfl
theorem bytesC : Tryz.prog.bytesOf 83 = 24 := by kernel_rfl
def shPro : Sh := .st [.int .u64, .int .u64, .bool, .int .u64]
def toPro {K : Type} : DataW K → P.Producer
  | .agg [a, b, c, e] => ⟨toI a, toI b, toB c, toI e⟩
  | _ => default
theorem toPro_ok {K : Type} {d : DataW K} (h : shPro.wf d) : shPro.enc d = P.encP (toPro d) ∧ offOk (toPro d).offset := by
  obtain ⟨ds, rfl, d1, r1, rfl, w1, d2, r2, rfl, w2, d3, r3, rfl, w3, d4, r4, rfl, w4, rfl⟩ := h
  refine ⟨?_, off_of w4⟩
  simp only [shPro, enc_st, enc_cons, enc_nil, encI_ok w1, encI_ok w2, encO_ok w3, encI_ok w4]
  rfl
theorem wf_prods {K : Type} {d : DataW K} (h : (Sh.sl shPro).wf d) : ∀ x ∈ listOf toPro d, 0 ≤ x.offset ∧ x.offset < 18446744073709551616 := by
  rcases h with rfl | ⟨xs, r, rfl, hx⟩
  · intro y hy; cases hy
  · intro y hy
    obtain ⟨x, hx', rfl⟩ := List.mem_map.1 hy
    exact (toPro_ok (hx x hx')).2
theorem relPs {K : Type} {d : DataW K} (hd : (Sh.sl shPro).wf d) {H : HH} {E : Env} {v : Value} (h : Rel (slAV shPro d) H E v) : Rel (P.encPs true (listOf toPro d)) H E v := conv_sl (fun x hx => (toPro_ok hx).1) hd h
theorem undPs : Tryz.prog.underlying 27 = some (.slice 80) := by kernel_rfl
theorem bytesP : Tryz.prog.bytesOf 80 = 32 := by kernel_rfl
def shRng : Sh := .st [.str, .str]
def toRng {K : Type} : DataW K → Rng
  | .agg [a, b] => ⟨toS a, toS b⟩
  | _ => default
theorem toRng_ok {K : Type} {d : DataW K} (h : shRng.wf d) : shRng.enc d = encG (toRng d) := by
  obtain ⟨ds, rfl, d1, r1, rfl, w1, d2, r2, rfl, w2, rfl⟩ := h
  simp only [shRng, enc_st, enc_cons, enc_nil, encS_ok w1, encS_ok w2]
  rfl
def shPart : Sh := .st [shRng, .int .u64, .int .u64, .sl shRec, .sl shPro, .sl shCon]
def toPart {K : Type} : DataW K → Part
  | .agg [a, b, c, e, f, g] => ⟨toRng a, toI b, toI c, listOf toRec e, listOf toPro f, listOf toC g⟩
  | _ => default
theorem relPart {K : Type} {d : DataW K} (hd : shPart.wf d) {H : HH} {E : Env} {vs : List Value} (h : RelL (shPart.enc d) H E vs) : RelL (encPt true (toPart d)) H E vs := by
  obtain ⟨ds, rfl, d1, r1, rfl, w1, d2, r2, rfl, w2, d3, r3, rfl, w3, d4, r4, rfl, w4, d5, r5, rfl, w5, d6, r6, rfl, w6, rfl⟩ := hd
  have e : shPart.enc (DataW.agg [d1, d2, d3, d4, d5, d6]) = [.y (.string (toRng d1).lo), .y (.string (toRng d1).hi), .y (.int .u64 (toI d2)), .y (.int .u64 (toI d3)), slAV shRec d4, slAV shPro d5, slAV shCon d6] := by
    simp only [shPart, enc_st, enc_cons, enc_nil, slAV_eq, toRng_ok w1, encI_ok w2, encI_ok w3]
    rfl
  rw [e] at h
  obtain ⟨v1, x1, rfl, h1, v2, x2, rfl, h2, v3, x3, rfl, h3, v4, x4, rfl, h4, v5, x5, rfl, h5, v6, x6, rfl, h6, v7, x7, rfl, h7, rfl⟩ := h
  exact ⟨_, _, rfl, h1, _, _, rfl, h2, _, _, rfl, h3, _, _, rfl, h4, _, _, rfl, relRs w4 h5, _, _, rfl, relPs w5 h6, _, _, rfl, relCs w6 h7, rfl⟩
theorem undPart : ∃ fs, Tryz.prog.underlying 30 = some (.struct fs) ∧ fs.toList.map (·.type) = [24, 25, 25, 26, 27, 28] := structTypes_ok (by kernel_rfl)
structure PartSz (p : Part) : Prop where
  rl : p.recs.length * 64 ≤ 140737488351232
  pl : p.prods.length * 32 ≤ 140737488351232
  cl : p.cons.length * 24 ≤ 140737488351232
  po : ∀ x ∈ p.prods, 0 ≤ x.offset ∧ x.offset < 18446744073709551616
  co : wfC p.cons
theorem part_sz {K : Type} {d : DataW K} (hd : shPart.wf d) (hw : (d.weights Tryz.prog 30).all (· ≤ reachBytes) = true) : PartSz (toPart d) := by
  obtain ⟨ds, rfl, d1, r1, rfl, w1, d2, r2, rfl, w2, d3, r3, rfl, w3, d4, r4, rfl, w4, d5, r5, rfl, w5, d6, r6, rfl, w6, rfl⟩ := hd
  obtain ⟨fs, hf, ht⟩ := undPart
  have h := weights_struct hf hw
  rw [ht] at h
  obtain ⟨h1, h⟩ := weights_cons h
  obtain ⟨h2, h⟩ := weights_cons h
  obtain ⟨h3, h⟩ := weights_cons h
  obtain ⟨h4, h⟩ := weights_cons h
  obtain ⟨h5, h⟩ := weights_cons h
  obtain ⟨h6, h⟩ := weights_cons h
  have k5 := weights_slice toPro undPs h5
  have k6 := weights_slice toC undCs h6
  rw [bytesP] at k5
  rw [bytesC] at k6
  exact ⟨rs_sized h4, k5, k6, wf_prods w5, wf_cons w6⟩
end Go.Proofs.YtnbhdjadlbhknaaGreatDoor

namespace Go.Proofs.YtnbhdjadlbhknaaGreatDoor
open Go.Ax Go.Shelf Go.RowKit Go.ChangeShapes Go.WideShapes Go.ChangeAt
set_option maxRecDepth 1000000
def shCm : Sh := .st [.int .i64, .int .u64, .int .u64, .int .u64, .str, .sl (.int .u8), .int .u64, .int .i64, .str, .int .u64]
def toCm {K : Type} : DataW K → R.Cmd
  | .agg [a, b, c, d, e, f, g, h, i, j] => ⟨toI a, toI b, toI c, toI d, toS e, listOf toI f, toI g, toI h, toS i, toI j⟩
  | _ => default
theorem cm_enc {K : Type} {d : DataW K} (hd : shCm.wf d) : ∃ a1 a2 a3 a4 a5 a6 a7 a8 a9 a10, d = .agg [a1, a2, a3, a4, a5, a6, a7, a8, a9, a10] ∧ (Sh.sl (.int .u8)).wf a6 ∧ (Sh.int .u64).wf a7 ∧ shCm.enc d = [.y (.int .i64 (toI a1)), .y (.int .u64 (toI a2)), .y (.int .u64 (toI a3)), .y (.int .u64 (toI a4)), .y (.string (toS a5)), slAV (.int .u8) a6, .y (.int .u64 (toI a7)), .y (.int .i64 (toI a8)), .y (.string (toS a9)), .y (.int .u64 (toI a10))] := by
  obtain ⟨ds, rfl, d1, r1, rfl, w1, d2, r2, rfl, w2, d3, r3, rfl, w3, d4, r4, rfl, w4, d5, r5, rfl, w5, d6, r6, rfl, w6, d7, r7, rfl, w7, d8, r8, rfl, w8, d9, r9, rfl, w9, d10, r10, rfl, w10, rfl⟩ := hd
  refine ⟨d1, d2, d3, d4, d5, d6, d7, d8, d9, d10, rfl, w6, w7, ?_⟩
  simp only [shCm, enc_st, enc_cons, enc_nil, encI_ok w1, encI_ok w2, encI_ok w3, encI_ok w4, encS_ok w5, slAV_eq, encI_ok w7, encI_ok w8, encS_ok w9, encI_ok w10]
  rfl
theorem cm_conv {K : Type} {d : DataW K} (hd : shCm.wf d) (j : Nat) (hj : j < 10) (H : HH) (E : Env) (v : Value) (h : Rel (Ax.get (shCm.enc d) j) H E v) : Rel (Ax.get (R.encCm (toCm d)) j) H E v := by
  obtain ⟨a1, a2, a3, a4, a5, a6, a7, a8, a9, a10, rfl, wc, _, he⟩ := cm_enc hd
  rw [he] at h
  match j, hj with
  | 0, _ => exact h
  | 1, _ => exact h
  | 2, _ => exact h
  | 3, _ => exact h
  | 4, _ => exact h
  | 5, _ => exact relB wc h
  | 6, _ => exact h
  | 7, _ => exact h
  | 8, _ => exact h
  | 9, _ => exact h
theorem relCms {K : Type} {d : DataW K} (hd : (Sh.sl shCm).wf d) {H : HH} {E : Env} {v : Value} (h : Rel (slAV shCm d) H E v) : Rel (.ys true 10 (listOf toCm d).length (cellsOf' R.encCm (listOf toCm d))) H E v :=
  conv_slR (encA := R.encCm) (fun x hx j hj H E v => cm_conv hx j hj H E v) hd h
theorem undCms : Tryz.prog.underlying 39 = some (.slice 37) := by kernel_rfl
theorem bytesCm : Tryz.prog.bytesOf 37 = 112 := by kernel_rfl
theorem cms_sized {K : Type} {d : DataW K} (hw : (d.weights Tryz.prog 39).all (· ≤ reachBytes) = true) : (listOf toCm d).length * 112 ≤ 140737488351232 := by
  have := weights_slice toCm undCms hw
  rwa [bytesCm] at this
theorem hd_var : Tryz.prog.globalNamed "errors.errorType" = some 0 := by kernel_rfl
theorem hd_row : (Tryz.prog.cutTypes.find? (·.1 == "internal/reflectlite.rtype")).map (·.2) = some 191 := by kernel_rfl
theorem hd_one : ((List.range Tryz.prog.types.size).filter fun t => Tryz.prog.rowNamed t [101, 114, 114, 111, 114]) = [74] := by kernel_rfl
theorem gl_of {laid : List (String × DataW Unit)} {W : World} (hf : (laid.filter fun x => x.2.handleName?.isSome) = [("errors.errorType", Rows.laid_errors_errorType)]) (h : laidMetH Tryz.prog laid W) : GlOk W := by
  unfold laidMetH at h
  rw [hf] at h
  obtain ⟨name, u, ty, e1, e2, e3, e4, e5⟩ := h.2 _ (List.mem_singleton.2 rfl)
  have en : name = [101, 114, 114, 111, 114] := (Option.some.inj e1).symm
  subst en
  obtain rfl := Option.some.inj (hd_row.symm.trans e2)
  have hm : ty ∈ (List.range Tryz.prog.types.size).filter fun t => Tryz.prog.rowNamed t [101, 114, 114, 111, 114] := List.mem_filter.2 ⟨List.mem_range.2 e3, e4⟩
  rw [hd_one] at hm
  obtain rfl := List.mem_singleton.1 hm
  have hc := World.var?_cell hd_var e5 0
  intro p hp
  obtain rfl := List.mem_singleton.1 hp
  exact ⟨by kernel_rfl, hc⟩
noncomputable def hdWorld (os : Os) : World :=
  { World.holding Tryz.prog os ⟨#[], #[], []⟩ with heap := (World.holding Tryz.prog os ⟨#[], #[], []⟩).heap.modify 0 fun
      | .cells _ t frozen => .cells #[.iface 191 (.agg #[typeHandle Tryz.prog 74])] t frozen
      | o => o }
theorem laidMet_lay {P : Program} {w0 : World} {laid : List (String × DataW Unit)} (args : Array Value) (hf : w0.layFits P laid [] = true) (hi : w0.layIfaces P laid (w0.layVars P laid) = true) :
    laidMet P laid ((w0.layVars P laid).forCall (fun _ _ => 0) ⟨#[], args, []⟩).memory := by
  have e1 : (laid.filter fun x => (laid.map (·.1)).contains x.1) = laid := List.filter_eq_self.2 fun x hx => List.contains_iff_mem.2 (List.mem_map.2 ⟨x, hx, rfl⟩)
  have e2 : (laid.filter fun x => !(laid.map (·.1)).contains x.1) = [] := List.filter_eq_nil_iff.2 fun x hx => by rw [List.contains_iff_mem.2 (List.mem_map.2 ⟨x, hx, rfl⟩)]; simp
  have h : laidMet P laid (w0.layVars P laid) := laidMet_layVars (w0 := w0) (laid.map (·.1)) [] (by rw [e1]) (by rw [e1]; exact hf) (by rw [e1]; exact hi) (by rw [e2]; exact LaidIn.none)
  exact h.of_heap (by simp [World.memory, World.forCall, Input.heap])
end Go.Proofs.YtnbhdjadlbhknaaGreatDoor

namespace Go.Proofs.YtnbhdjadlbhknaaGreatDoor.J
open Go.Ax Go.Shelf Go.RowKit Go.ChangeShapes Go.WideShapes Go.ChangeAt
set_option maxRecDepth 1000000
theorem u64_of {K : Type} {d : DataW K} (h : (Sh.int .u64).wf d) : U64 (toI d) := by
  obtain ⟨h0, h1⟩ := off_of h
  exact ⟨h0, h1⟩
theorem i64_of {K : Type} {d : DataW K} (h : (Sh.int .i64).wf d) : I64 (toI d) := by
  obtain ⟨k, n, rfl, w⟩ := h
  have := bounds_i64 w
  exact ⟨by show _ ≤ n; omega, by show n < _; omega⟩
theorem u8_of {K : Type} {d : DataW K} (h : (Sh.int .u8).wf d) : 0 ≤ toI d ∧ toI d < 256 := by
  obtain ⟨k, n, rfl, w⟩ := h
  have := bounds_u8 w
  exact ⟨by show 0 ≤ n; omega, by show n < _; omega⟩
theorem by_of {K : Type} {d : DataW K} (h : (Sh.sl (.int .u8)).wf d) : Bytes (listOf toI d) := by
  rcases h with rfl | ⟨xs, r, rfl, hx⟩
  · exact Bytes.nil
  · exact ⟨fun y hy => by
      obtain ⟨x, hx', rfl⟩ := List.mem_map.1 hy
      exact u8_of (hx x hx')⟩
theorem mem_of {K α : Type} {e : Sh} {to : DataW K → α} {Q : α → Prop} (h : ∀ d, e.wf d → Q (to d)) {d : DataW K} (hd : (Sh.sl e).wf d) : ∀ x ∈ listOf to d, Q x := by
  rcases hd with rfl | ⟨xs, r, rfl, hx⟩
  · intro y hy; cases hy
  · intro y hy
    obtain ⟨x, hx', rfl⟩ := List.mem_map.1 hy
    exact h x (hx x hx')
theorem rec_of {K : Type} {d : DataW K} (h : shRec.wf d) : RecU (toRec d) ∧ Bytes (toRec d).val := by
  obtain ⟨ds, rfl, d1, r1, rfl, w1, d2, r2, rfl, w2, d3, r3, rfl, w3, d4, r4, rfl, w4, d5, r5, rfl, w5, rfl⟩ := h
  exact ⟨⟨u64_of w1, u64_of w4, u64_of w5⟩, by_of w3⟩
theorem pro_of {K : Type} {d : DataW K} (h : shPro.wf d) : ProdU (toPro d) := by
  obtain ⟨ds, rfl, d1, r1, rfl, w1, d2, r2, rfl, w2, d3, r3, rfl, w3, d4, r4, rfl, w4, rfl⟩ := h
  exact ⟨u64_of w1, u64_of w2, u64_of w4⟩
theorem con_of {K : Type} {d : DataW K} (h : shCon.wf d) : U64 (toC d).off := by
  obtain ⟨ds, rfl, d1, r1, rfl, w1, d2, r2, rfl, w2, rfl⟩ := h
  exact u64_of w2
theorem pt_of {K : Type} {d : DataW K} (h : shPart.wf d) : PtT (toPart d) := by
  obtain ⟨ds, rfl, d1, r1, rfl, w1, d2, r2, rfl, w2, d3, r3, rfl, w3, d4, r4, rfl, w4, d5, r5, rfl, w5, d6, r6, rfl, w6, rfl⟩ := h
  exact ⟨u64_of w2, u64_of w3, mem_of (to := toRec) (Q := fun x => RecU x ∧ Bytes x.val) (fun d => rec_of) w4, mem_of (fun d => pro_of) w5, mem_of (to := toC) (Q := fun x => U64 x.off) (fun d => con_of) w6⟩
theorem bulk_one {H : Type} (d : DataW H) : 1 ≤ Rows.uptoBulk d := by
  cases d with
  | lit l => cases l <;> simp [Rows.uptoBulk]
  | nil => simp [Rows.uptoBulk]
  | ptr d => simp [Rows.uptoBulk]
  | slice elems spare => simp [Rows.uptoBulk]
  | agg parts => simp [Rows.uptoBulk]
  | iface t d => simp [Rows.uptoBulk]
  | map entries => simp [Rows.uptoBulk]
  | held h => simp [Rows.uptoBulk]
theorem bulk_part {H : Type} {d : DataW H} {l : List (DataW H)} (h : d ∈ l) : Rows.uptoBulk d ≤ Rows.uptoBulkAll l := by
  induction l with
  | nil => cases h
  | cons x r ih =>
    simp only [Rows.uptoBulkAll]
    cases List.mem_cons.1 h with
    | inl e => subst e; omega
    | inr e => have := ih e; omega
theorem bulk_len {H : Type} (l : List (DataW H)) : l.length ≤ Rows.uptoBulkAll l := by
  induction l with
  | nil => simp [Rows.uptoBulkAll]
  | cons x r ih => have := bulk_one x; simp only [Rows.uptoBulkAll, List.length_cons]; omega
theorem bulk_list {K α : Type} (to : DataW K → α) (d : DataW K) : (listOf to d).length ≤ Rows.uptoBulk d := by
  cases d with
  | slice elems spare =>
    have := bulk_len elems
    simp only [Rows.uptoBulk, listOf, List.length_map]
    omega
  | _ => simp [listOf]
theorem bulk_agg {H : Type} {d : DataW H} {l : List (DataW H)} (h : d ∈ l) : Rows.uptoBulk d ≤ Rows.uptoBulk (DataW.agg l) := by
  have := bulk_part h
  simp only [Rows.uptoBulk]
  omega
theorem bulk_str {K : Type} {d : DataW K} (h : Sh.str.wf d) : (toS d).size ≤ Rows.uptoBulk d := by
  obtain ⟨l, rfl, _⟩ := h
  show (toS (DataW.lit (.string l))).size ≤ _
  simp only [toS, Rows.uptoBulk]
  first | omega | (simp [ByteArray.size]) | skip
theorem small_bound {H : Type} {l : List (DataW H)} (hk : Rows.uptoSmall H l = true) : ∀ d ∈ l, Rows.uptoBulk d ≤ 1048576 := by
  have : Rows.uptoBulkAll l ≤ 1048576 := of_decide_eq_true hk
  intro d hd
  exact Nat.le_trans (bulk_part hd) this
theorem cm_of {K : Type} {d : DataW K} (h : shCm.wf d) (hb : Rows.uptoBulk d ≤ 1048576) : CmT (toCm d) := by
  obtain ⟨ds, rfl, d1, r1, rfl, w1, d2, r2, rfl, w2, d3, r3, rfl, w3, d4, r4, rfl, w4, d5, r5, rfl, w5, d6, r6, rfl, w6, d7, r7, rfl, w7, d8, r8, rfl, w8, d9, r9, rfl, w9, d10, r10, rfl, w10, rfl⟩ := h
  have b5 := Nat.le_trans (Nat.le_trans (bulk_str w5) (bulk_agg (l := [d1, d2, d3, d4, d5, d6, d7, d8, d9, d10]) (by simp))) hb
  have b6 := Nat.le_trans (Nat.le_trans (bulk_list toI d6) (bulk_agg (l := [d1, d2, d3, d4, d5, d6, d7, d8, d9, d10]) (by simp))) hb
  have b9 := Nat.le_trans (Nat.le_trans (bulk_str w9) (bulk_agg (l := [d1, d2, d3, d4, d5, d6, d7, d8, d9, d10]) (by simp))) hb
  exact ⟨⟨i64_of w1, u64_of w2, u64_of w3, u64_of w4, u64_of w7, i64_of w8, u64_of w10, by show (toS d5).size + (listOf toI d6).length + (toS d9).size + 1000 ≤ _; omega⟩, by_of w6⟩
theorem undBs : Tryz.prog.underlying 35 = some (.slice 5) := by kernel_rfl
end Go.Proofs.YtnbhdjadlbhknaaGreatDoor.J

namespace Go.Proofs.YtnbhdjadlbhknaaGreatDoor.J
open Go.Ax Go.Shelf Go.RowKit Go.ChangeShapes Go.WideShapes Go.ChangeAt
set_option maxRecDepth 1000000
theorem bs_ok2 {K : Type} {d : DataW K} (hd : (Sh.sl (.int .u8)).wf d) (hb : Rows.uptoBulk d ≤ 1048576) : RlOk (listOf toI d) := ⟨⟨by have := bulk_list toI d; omega⟩, by_of hd⟩
theorem cms_t {K : Type} {d : DataW K} (hd : (Sh.sl shCm).wf d) (hb : Rows.uptoBulk d ≤ 1048576) : ∀ c ∈ listOf toCm d, CmT c := by
  rcases hd with rfl | ⟨xs, r, rfl, hx⟩
  · intro y hy; cases hy
  · intro y hy
    obtain ⟨x, hx', rfl⟩ := List.mem_map.1 hy
    refine cm_of (hx x hx') (Nat.le_trans ?_ hb)
    have := bulk_part hx'
    simp only [Rows.uptoBulk]
    omega
theorem ty_sz2 {p : Part} (h : PartSz p) : D.PartTy p := by
  obtain ⟨h1, h2, h3, h4, h5⟩ := h
  exact ⟨by omega, by omega, by omega, h4, h5⟩
def partfsmApplies_laidL : List (String × DataW Unit) := Rows.partfsmAppliesUptoRow.laid
noncomputable def partfsmApplies_layW (os : Os) : World := World.layVars Tryz.prog (hdWorld os) (partfsmApplies_laidL.filter fun x => x.2.handleName?.isNone)
theorem partfsmApplies_lay_met (os : Os) (args : Array Value) : laidMetH Tryz.prog partfsmApplies_laidL ((partfsmApplies_layW os).forCall (fun _ _ => 0) ⟨#[], args, []⟩).memory :=
  laidMetH_of_parts (laidMet_lay args (by kernel_rfl) (by kernel_rfl)) (by kernel_rfl)
theorem partfsmApplies_reads (os : Os) {H : Type} (enc : TypeId × Value → H) : ∃ places, DataW.whole enc Tryz.prog ((partfsmApplies_layW os).forCall (fun _ _ => 0) ⟨#[], #[.agg #[.string ⟨#[]⟩, .string ⟨#[]⟩, .int .u64 0, .int .u64 0, .slice Option.none 0 0, .slice Option.none 0 0, .slice Option.none 0 0], .slice Option.none 0 0, .slice Option.none 0 0], []⟩).memory Tryz.f7.params.toList Rows.partfsmAppliesSpec.vars false (#[.agg #[.string ⟨#[]⟩, .string ⟨#[]⟩, .int .u64 0, .int .u64 0, .slice Option.none 0 0, .slice Option.none 0 0, .slice Option.none 0 0], .slice Option.none 0 0, .slice Option.none 0 0] : Array Value).toList 8 = some ([.agg [.agg [.lit (.string []), .lit (.string [])], .lit (.int .u64 0), .lit (.int .u64 0), .nil, .nil, .nil], .nil, .nil], [], places) :=
  ⟨[], by kernel_rfl⟩
theorem partfsmApplies_lifted (os : Os) (started : os.Started) (K : Type) (enc : TypeId × Value → K) (F : Stop.Interp) :
    ReturnsInHanded {} Tryz.checked os 7 .any ((Rows.OpenSpec.upto Rows.partfsmAppliesSpec).preRow enc Tryz.prog Tryz.f7 Rows.partfsmAppliesUptoRow.domain false Rows.partfsmAppliesUptoRow.laid) (((Rows.OpenSpec.upto Rows.partfsmAppliesSpec).at F).post enc Tryz.prog Tryz.f7 false true false false) := by
  obtain ⟨places, hx⟩ := partfsmApplies_reads os enc
  refine returnsInHanded_of_row (C := Tryz.checked) (s := Rows.OpenSpec.upto Rows.partfsmAppliesSpec) Tryz.own started (by kernel_rfl) Tryz.func7
    (witness_row_at (enc := enc) (C := Tryz.checked) false (partfsmApplies_layW os) #[.agg #[.string ⟨#[]⟩, .string ⟨#[]⟩, .int .u64 0, .int .u64 0, .slice Option.none 0 0, .slice Option.none 0 0, .slice Option.none 0 0], .slice Option.none 0 0, .slice Option.none 0 0] rfl (by kernel_rfl) (by kernel_rfl) (by kernel_rfl)
      (OpenSpec.preRow_of_cond 8 hx (by kernel_rfl) (fun k hk => by cases hk; kernel_rfl) (by kernel_rfl) (partfsmApplies_lay_met os _))) ?_
  intro W base args ds gs before hval0 hW _ hcond hsz hL _ _
  have hps : Tryz.f7.params.toList = [30, 39, 35] := by kernel_rfl
  obtain ⟨p, q, hA, hV, hbef, hfz, hnd⟩ := id hW
  have hA : DataW.TrodAll enc Tryz.prog W 0 (fun _ => true) true Tryz.f7.params.toList args.toList ds p := hA
  have hk := small_bound (hcond _ rfl)
  rw [hps] at hA hsz
  have ⟨hr, hwf⟩ := lift_all [shPart, .sl shCm, .sl (.int .u8)] (by kernel_rfl) hA
  obtain ⟨v1, v2, v3, d1, d2, d3, _, _, _, e1, rfl, _, _, _, _⟩ := trodAll_three hA
  obtain ⟨_, _, g1, w1, _, _, g2, w2, _, _, g3, w3, _⟩ := hwf
  obtain ⟨rfl, q1⟩ := List.cons.inj g1
  subst q1
  obtain ⟨rfl, q2⟩ := List.cons.inj g2
  subst q2
  obtain ⟨rfl, _⟩ := List.cons.inj g3
  subst e1
  obtain ⟨h1, hs1⟩ := weights_cons (P := Tryz.prog) (t := 30) (d := d1) hsz
  obtain ⟨h2, hs2⟩ := weights_cons (P := Tryz.prog) (t := 39) (d := d2) hs1
  obtain ⟨h3, hs3⟩ := weights_cons (P := Tryz.prog) (t := 35) (d := d3) hs2
  have r1 := hr.1
  obtain ⟨fs1, hf1, _⟩ := undPart
  have r1 := relA hf1 (hval0 0 _ _ (by kernel_rfl) rfl) (relPart w1 r1)
  have r2 := hr.2.1
  rw [slAV_eq] at r2
  obtain ⟨s2, n2, c2, rfl⟩ := okWide_slice undCms (hval0 1 _ _ (by kernel_rfl) rfl)
  obtain ⟨_, _, er, r2, _⟩ := r2
  cases er
  have r2 := relCms w2 r2
  have r3 := hr.2.2.1
  rw [slAV_eq] at r3
  obtain ⟨s3, n3, c3, rfl⟩ := okWide_slice undBs (hval0 2 _ _ (by kernel_rfl) rfl)
  obtain ⟨_, _, er, r3, _⟩ := r3
  cases er
  have r3 := relB w3 r3
  have b1 := hk d1 (by simp)
  have b2 := hk d2 (by simp)
  have b3 := hk d3 (by simp)
  exact open_calls (s := Rows.partfsmAppliesSpec) (call_of (al_c _ _ _ ⟨pt_of w1, ty_sz2 (part_sz w1 h1), by have := cms_sized h2; omega, cms_t w2 b2, bs_ok2 w3 b3⟩)) (t := 4) (ds := [d1, d2, d3]) ⟨_, _, rfl, r1, _, _, rfl, r2, _, _, rfl, r3, rfl⟩ (by kernel_rfl) underBool rfl rfl Tryz.laidOut Tryz.mapsRowed Tryz.slicesOk (by rw [hps]; intro t ht; simp only [List.mem_cons, List.not_mem_nil, or_false] at ht; rcases ht with rfl | rfl | rfl <;> exact of_decide_eq_true (by kernel_rfl)) hW (gl_of (by kernel_rfl) hL)
theorem partfsmApplies_holds : Rows.PartfsmAppliesUptoSaid :=
  OpenClaim.holds_of_cond 7 Tryz.f7 rfl rfl rfl rfl rfl rfl rfl ⟨rfl, rfl, rfl, rfl, rfl⟩ rfl rfl rfl rfl rfl (by kernel_rfl) Tryz.func7 (by kernel_rfl)
    (of_decide_eq_true (by kernel_rfl)) (by unfold Func.isWrapper; first | (rw [if_pos (by decide +kernel)]; kernel_rfl) | (rw [if_neg (by decide +kernel)]; exact ⟨rfl, rfl⟩))
    (fun os started H enc _ F => by rw [OpenClaim.pre_eq_preRow]; exact partfsmApplies_lifted os started H enc F)
theorem partfsmApplies_said : Rows.PartfsmAppliesUptoCardSaid :=
  Claim7.holds_tied_plain_at .later [] [.data, .handle, .pinned] true (true, "4008c0ec14d4e8318941b98147842fa4797ed9bf7edcfa700debfb0742dcc49e") true
    partfsmApplies_holds (fun _ h => by cases h) (by kernel_rfl) (fun _ h => by cases h) partfsmAppliesUpto_row_tie rfl ⟨rfl, rfl⟩ (by kernel_rfl) rfl
    (fun f fn hf hfn => by
      obtain rfl : f = 7 := Option.some.inj ((show Tryz.prog.funcNamed "gazette/gazettelaw16.PartfsmApplies" = some 7 by kernel_rfl).symm.trans hf) |>.symm
      obtain rfl : fn = Tryz.f7 := (Option.some.inj (Tryz.func7.symm.trans hfn)).symm
      exact ⟨by kernel_rfl, fun j t ht => by
        rw [show Tryz.f7.params = #[30, 39, 35] by kernel_rfl] at ht
        have h3 : t = 30 ∨ t = 39 ∨ t = 35 := by
          rcases j with _ | _ | _ | j
          · exact Or.inl (by simpa using ht.symm)
          · exact Or.inr (Or.inl (by simpa using ht.symm))
          · exact Or.inr (Or.inr ((by simpa using ht.symm)))
          · simp at ht
        rcases h3 with rfl | rfl | rfl
        · exact (show Tryz.prog.wantsStandIn 30 = false by kernel_rfl)
        · exact (show Tryz.prog.wantsStandIn 39 = false by kernel_rfl)
        · exact (show Tryz.prog.wantsStandIn 35 = false by kernel_rfl)⟩)
    (by kernel_rfl)
end Go.Proofs.YtnbhdjadlbhknaaGreatDoor.J
namespace Go.Proofs.YtnbhdjadlbhknaaGreatDoor
theorem applies_said : Rows.PartfsmAppliesUptoCardSaid := J.partfsmApplies_said
end Go.Proofs.YtnbhdjadlbhknaaGreatDoor
