/- PROVED: whatever the items, the law WalindexOrder answers true, for every input that the given statement covers. -/
import Derived.Test.YtccfojpdkbaekaaRows
import Derived.OpenShut
import Derived.Test.YtccfojpdkbaekaaE12
import Derived.Test.YtccfojpdkbaekaaW4
set_option linter.unusedVariables false
set_option linter.unusedSimpArgs false
set_option linter.unusedSectionVars false
namespace Go.Proofs.Ytccfojpdkbaekaa.W
open Go.Ax Go.Shelf Go.RowKit Go.ChangeShapes Go.WideShapes Go.ChangeAt
set_option maxRecDepth 1000000
def toI {K : Type} : DataW K → Int
  | .lit (.int _ a) => a
  | _ => 0
theorem encI_ok {K : Type} {k : IntKind} {d : DataW K} (h : (Sh.int k).wf d) : (Sh.int k).enc d = [.y (.int k (toI d))] := by
  obtain ⟨k, n, rfl, _⟩ := h
  rfl
theorem enc_st {K : Type} (fs : List Sh) (ds : List (DataW K)) : (Sh.st fs).enc (.agg ds) = Sh.encL fs ds := by simp only [Sh.enc]
theorem enc_cons {K : Type} (s : Sh) (r : List Sh) (d : DataW K) (ds : List (DataW K)) : Sh.encL (s :: r) (d :: ds) = s.enc d ++ Sh.encL r ds := by simp only [Sh.encL]
theorem enc_nil {K : Type} (l : List (DataW K)) : Sh.encL [] l = [] := by simp only [Sh.encL]
theorem relB {K : Type} {d : DataW K} (hd : (Sh.sl (.int .u8)).wf d) {H : HH} {E : Env} {v : Value} (h : Rel (slAV (.int .u8) d) H E v) : Rel (encBs true (listOf toI d)) H E v := conv_sl (encA := encB) (fun x hx => encI_ok hx) hd h
theorem relIs {K : Type} {d : DataW K} (hd : (Sh.sl (.int .i64)).wf d) {H : HH} {E : Env} {v : Value} (h : Rel (slAV (.int .i64) d) H E v) : Rel (encIs true (listOf toI d)) H E v := conv_sl (encA := encI) (fun x hx => encI_ok hx) hd h
def shCnf : Sh := .st [.sl (.int .i64), .sl (.int .i64)]
def shEnt : Sh := .st [.int .u64, .int .u64, .int .i64, .sl (.int .u8), shCnf]
def shSnp : Sh := .st [.int .u64, .int .u64, shCnf, .sl (.int .u8)]
def shHrd : Sh := .st [.int .u64, .int .i64, .int .u64]
def shItm : Sh := .st [.int .i64, .int .u64, shEnt, shHrd, .int .u64, shSnp]
def toEnt {K : Type} : DataW K → Ent
  | .agg [a, b, c, d, .agg [e, f]] => ⟨toI a, toI b, toI c, listOf toI d, listOf toI e, listOf toI f⟩
  | _ => default
def toSnp {K : Type} : DataW K → Snp
  | .agg [a, b, .agg [e, f], d] => ⟨toI a, toI b, listOf toI e, listOf toI f, listOf toI d⟩
  | _ => default
def toItm {K : Type} : DataW K → Itm
  | .agg [a, b, c, .agg [d, e, f], g, h] => ⟨toI a, toI b, toEnt c, toI d, toI e, toI f, toI g, toSnp h⟩
  | _ => default
theorem ent_enc {K : Type} {d : DataW K} (hd : shEnt.wf d) : ∃ a b c d4 e f, d = .agg [a, b, c, d4, .agg [e, f]] ∧ (Sh.int .u64).wf a ∧ (Sh.sl (.int .u8)).wf d4 ∧ (Sh.sl (.int .i64)).wf e ∧ (Sh.sl (.int .i64)).wf f ∧ shEnt.enc d = [.y (.int .u64 (toI a)), .y (.int .u64 (toI b)), .y (.int .i64 (toI c)), slAV (.int .u8) d4, slAV (.int .i64) e, slAV (.int .i64) f] := by
  obtain ⟨ds, rfl, d1, r1, rfl, w1, d2, r2, rfl, w2, d3, r3, rfl, w3, d4, r4, rfl, w4, d5, r5, rfl, ⟨es, rfl, e1, s1, rfl, x1, e2, s2, rfl, x2, rfl⟩, rfl⟩ := hd
  refine ⟨d1, d2, d3, d4, e1, e2, rfl, w1, w4, x1, x2, ?_⟩
  simp only [shEnt, shCnf, enc_st, enc_cons, enc_nil, encI_ok w1, encI_ok w2, encI_ok w3, slAV_eq]
  rfl
theorem snp_enc {K : Type} {d : DataW K} (hd : shSnp.wf d) : ∃ a b e f d4, d = .agg [a, b, .agg [e, f], d4] ∧ (Sh.int .u64).wf a ∧ (Sh.sl (.int .u8)).wf d4 ∧ (Sh.sl (.int .i64)).wf e ∧ (Sh.sl (.int .i64)).wf f ∧ shSnp.enc d = [.y (.int .u64 (toI a)), .y (.int .u64 (toI b)), slAV (.int .i64) e, slAV (.int .i64) f, slAV (.int .u8) d4] := by
  obtain ⟨ds, rfl, d1, r1, rfl, w1, d2, r2, rfl, w2, d3, r3, rfl, ⟨es, rfl, e1, s1, rfl, x1, e2, s2, rfl, x2, rfl⟩, d4, r4, rfl, w4, rfl⟩ := hd
  refine ⟨d1, d2, e1, e2, d4, rfl, w1, w4, x1, x2, ?_⟩
  simp only [shSnp, shCnf, enc_st, enc_cons, enc_nil, encI_ok w1, encI_ok w2, slAV_eq]
  rfl
theorem itm_enc {K : Type} {d : DataW K} (hd : shItm.wf d) : ∃ a b c h1 h2 h3 g s, d = .agg [a, b, c, .agg [h1, h2, h3], g, s] ∧ shEnt.wf c ∧ (Sh.int .u64).wf g ∧ shSnp.wf s ∧ shItm.enc d = [.y (.int .i64 (toI a)), .y (.int .u64 (toI b))] ++ shEnt.enc c ++ [.y (.int .u64 (toI h1)), .y (.int .i64 (toI h2)), .y (.int .u64 (toI h3)), .y (.int .u64 (toI g))] ++ shSnp.enc s := by
  obtain ⟨ds, rfl, d1, r1, rfl, w1, d2, r2, rfl, w2, d3, r3, rfl, w3, d4, r4, rfl, ⟨es, rfl, e1, s1, rfl, x1, e2, s2, rfl, x2, e3, s3, rfl, x3, rfl⟩, d5, r5, rfl, w5, d6, r6, rfl, w6, rfl⟩ := hd
  refine ⟨d1, d2, d3, e1, e2, e3, d5, d6, rfl, w3, w5, w6, ?_⟩
  simp only [shItm, shHrd, enc_st, enc_cons, enc_nil, encI_ok w1, encI_ok w2, encI_ok w5, encI_ok x1, encI_ok x2, encI_ok x3, List.append_nil, List.append_assoc, List.cons_append, List.nil_append]
theorem itm_conv {K : Type} {d : DataW K} (hd : shItm.wf d) (j : Nat) (hj : j < 17) (H : HH) (E : Env) (v : Value) (h : Rel (Ax.get (shItm.enc d) j) H E v) : Rel (Ax.get (encIt (toItm d)) j) H E v := by
  obtain ⟨a, b, c, h1, h2, h3, g, s, rfl, wc, _, ws, he⟩ := itm_enc hd
  obtain ⟨c1, c2, c3, c4, c5, c6, rfl, _, wc4, wc5, wc6, hc⟩ := ent_enc wc
  obtain ⟨s1, s2, s3, s4, s5, rfl, _, ws5, ws3, ws4, hs⟩ := snp_enc ws
  rw [he, hc, hs] at h
  have hjj : j = 0 ∨ j = 1 ∨ j = 2 ∨ j = 3 ∨ j = 4 ∨ j = 5 ∨ j = 6 ∨ j = 7 ∨ j = 8 ∨ j = 9 ∨ j = 10 ∨ j = 11 ∨ j = 12 ∨ j = 13 ∨ j = 14 ∨ j = 15 ∨ j = 16 := by omega
  rcases hjj with rfl | rfl | rfl | rfl | rfl | rfl | rfl | rfl | rfl | rfl | rfl | rfl | rfl | rfl | rfl | rfl | rfl
  · exact h
  · exact h
  · exact h
  · exact h
  · exact h
  · exact relB wc4 h
  · exact relIs wc5 h
  · exact relIs wc6 h
  · exact h
  · exact h
  · exact h
  · exact h
  · exact h
  · exact h
  · exact relIs ws3 h
  · exact relIs ws4 h
  · exact relB ws5 h
theorem relIts {K : Type} {d : DataW K} (hd : (Sh.sl shItm).wf d) {H : HH} {E : Env} {v : Value} (h : Rel (slAV shItm d) H E v) : Rel (encIts true (listOf toItm d)) H E v :=
  conv_slR (encA := encIt) (fun x hx j hj H E v => itm_conv hx j hj H E v) hd h
def structTypes (P : Program) (t : TypeId) : Option (List TypeId) := match P.underlying t with | some (.struct fs) => some (fs.toList.map (·.type)) | _ => Option.none
theorem structTypes_ok {P : Program} {t : TypeId} {l : List TypeId} (h : structTypes P t = some l) : ∃ fs, P.underlying t = some (.struct fs) ∧ fs.toList.map (·.type) = l := by
  unfold structTypes at h
  split at h
  · rename_i fs hu
    exact ⟨fs, hu, Option.some.inj h⟩
  · cases h
theorem weights_elem {K : Type} {P : Program} {e : TypeId} : ∀ {xs : List (DataW K)}, (DataW.weightsAll P e xs).all (· ≤ reachBytes) = true → ∀ x ∈ xs, (x.weights P e).all (· ≤ reachBytes) = true
  | [], _, _, h => by cases h
  | y :: r, h, x, hx => by
    rw [DataW.weightsAll, List.all_append, Bool.and_eq_true] at h
    rcases List.mem_cons.1 hx with rfl | hx
    · exact h.1
    · exact weights_elem h.2 x hx
theorem weights_elems {K : Type} {P : Program} {t u : TypeId} {xs r : List (DataW K)} (hu : P.underlying t = some (.slice u)) (h : ((DataW.slice xs r).weights P t).all (· ≤ reachBytes) = true) : ∀ x ∈ xs, (x.weights P u).all (· ≤ reachBytes) = true := by
  rw [DataW.weights, hu] at h
  simp only [List.all_cons, List.all_append, Bool.and_eq_true] at h
  exact weights_elem h.2.1
theorem undIs : Try.prog.underlying 29 = some (.slice 3) := by kernel_rfl
theorem bytesI : Try.prog.bytesOf 3 = 8 := by kernel_rfl
theorem is_sized {K : Type} {d : DataW K} (hw : (d.weights Try.prog 29).all (· ≤ reachBytes) = true) : (listOf toI d).length * 8 ≤ 140737488351232 := by
  have := weights_slice toI undIs hw
  rwa [bytesI] at this
theorem undBs : Try.prog.underlying 32 = some (.slice 5) := by kernel_rfl
theorem bytesB : Try.prog.bytesOf 5 = 1 := by kernel_rfl
theorem bs_sized {K : Type} {d : DataW K} (hw : (d.weights Try.prog 32).all (· ≤ reachBytes) = true) : (listOf toI d).length ≤ 140737488351232 := by
  have := weights_slice toI undBs hw
  rwa [bytesB, Nat.mul_one] at this
theorem undEnt : ∃ fs, Try.prog.underlying 45 = some (.struct fs) ∧ fs.toList.map (·.type) = [26, 26, 43, 32, 31] := structTypes_ok (by kernel_rfl)
theorem undSnp : ∃ fs, Try.prog.underlying 34 = some (.struct fs) ∧ fs.toList.map (·.type) = [26, 26, 31, 32] := structTypes_ok (by kernel_rfl)
theorem undCnf : ∃ fs, Try.prog.underlying 31 = some (.struct fs) ∧ fs.toList.map (·.type) = [29, 29] := structTypes_ok (by kernel_rfl)
theorem undItm : ∃ fs, Try.prog.underlying 47 = some (.struct fs) ∧ fs.toList.map (·.type) = [42, 26, 45, 28, 26, 34] := structTypes_ok (by kernel_rfl)
theorem cnf_sized {K : Type} {e f : DataW K} (hw : ((DataW.agg [e, f]).weights Try.prog 31).all (· ≤ reachBytes) = true) : CnfOk (listOf toI e) (listOf toI f) := by
  obtain ⟨fs, hf, ht⟩ := undCnf
  have h := weights_struct hf hw
  rw [ht] at h
  obtain ⟨h1, h⟩ := weights_cons h
  obtain ⟨h2, _⟩ := weights_cons h
  have k1 := is_sized h1
  have k2 := is_sized h2
  exact ⟨by omega, by omega⟩
theorem rng_ok {K : Type} {d : DataW K} (h : (Sh.int .u64).wf d) : 0 ≤ toI d ∧ toI d ≤ 18446744073709551615 := by
  obtain ⟨k, n, rfl, w⟩ := h
  have := bounds_u64 w
  show 0 ≤ n ∧ n ≤ _
  omega
theorem ent_sized {K : Type} {d : DataW K} (hd : shEnt.wf d) (hw : (d.weights Try.prog 45).all (· ≤ reachBytes) = true) : EntOk (toEnt d) ∧ 0 ≤ (toEnt d).idx ∧ (toEnt d).idx ≤ 18446744073709551615 := by
  obtain ⟨a, b, c, d4, e, f, rfl, wa, w4, we, wf, _⟩ := ent_enc hd
  obtain ⟨fs, hf, ht⟩ := undEnt
  have h := weights_struct hf hw
  rw [ht] at h
  obtain ⟨_, h⟩ := weights_cons h
  obtain ⟨_, h⟩ := weights_cons h
  obtain ⟨_, h⟩ := weights_cons h
  obtain ⟨h4, h⟩ := weights_cons h
  obtain ⟨h5, _⟩ := weights_cons h
  have k4 := bs_sized h4
  exact ⟨⟨cnf_sized h5, by show (listOf toI d4).length ≤ _; omega⟩, rng_ok wa⟩
theorem snp_sized {K : Type} {d : DataW K} (hd : shSnp.wf d) (hw : (d.weights Try.prog 34).all (· ≤ reachBytes) = true) : SnpOk (toSnp d) ∧ 0 ≤ (toSnp d).idx ∧ (toSnp d).idx ≤ 18446744073709551615 := by
  obtain ⟨a, b, e, f, d4, rfl, wa, w4, we, wf, _⟩ := snp_enc hd
  obtain ⟨fs, hf, ht⟩ := undSnp
  have h := weights_struct hf hw
  rw [ht] at h
  obtain ⟨_, h⟩ := weights_cons h
  obtain ⟨_, h⟩ := weights_cons h
  obtain ⟨h3, h⟩ := weights_cons h
  obtain ⟨h4, _⟩ := weights_cons h
  have k4 := bs_sized h4
  exact ⟨⟨cnf_sized h3, by show (listOf toI d4).length ≤ _; omega⟩, rng_ok wa⟩
theorem itm_sized {K : Type} {d : DataW K} (hd : shItm.wf d) (hw : (d.weights Try.prog 47).all (· ≤ reachBytes) = true) : ItmOk (toItm d) ∧ ItmIn (toItm d) := by
  obtain ⟨a, b, c, h1, h2, h3, g, s, rfl, wc, wg, ws, _⟩ := itm_enc hd
  obtain ⟨fs, hf, ht⟩ := undItm
  have h := weights_struct hf hw
  rw [ht] at h
  obtain ⟨_, h⟩ := weights_cons h
  obtain ⟨_, h⟩ := weights_cons h
  obtain ⟨k3, h⟩ := weights_cons h
  obtain ⟨_, h⟩ := weights_cons h
  obtain ⟨_, h⟩ := weights_cons h
  obtain ⟨k6, _⟩ := weights_cons h
  have e1 := ent_sized wc k3
  have e2 := snp_sized ws k6
  exact ⟨⟨e1.1, e2.1⟩, ⟨e1.2, e2.2, rng_ok wg⟩⟩
theorem undIts : Try.prog.underlying 22 = some (.slice 47) := by kernel_rfl
theorem bytesIt : Try.prog.bytesOf 47 = 232 := by kernel_rfl
theorem its_sized {K : Type} {d : DataW K} (hd : (Sh.sl shItm).wf d) (hw : (d.weights Try.prog 22).all (· ≤ reachBytes) = true) : ItsOk (listOf toItm d) := by
  have hl := weights_slice toItm undIts hw
  rw [bytesIt] at hl
  have hall : ∀ x ∈ listOf toItm d, ItmOk x ∧ ItmIn x := by
    rcases hd with rfl | ⟨xs, r, rfl, hx⟩
    · intro y hy; cases hy
    · intro y hy
      obtain ⟨x, hx', rfl⟩ := List.mem_map.1 hy
      exact itm_sized (hx x hx') (weights_elems undIts hw x hx')
  exact ⟨fun i hi => (hall i hi).1, fun i hi => (hall i hi).2, by omega⟩
theorem sl_cells {K : Type} {P : Program} {w W : World} {r : Reach} {base : Nat} {t u : TypeId} {v : Value} {e : Sh} {d : DataW K} {H : HH} {E : Env} (hu : P.underlying t = some (.slice u)) (hv : Value.okWide P W r base t v) (h : RelL ((Sh.sl e).enc d) H E v.cells.toList) : Rel (slAV e d) H E v := by
  obtain ⟨a, len, cap, rfl⟩ := okWide_slice hu hv
  rw [slAV_eq] at h
  obtain ⟨x, r, h1, h2, _⟩ := h
  cases h1
  exact h2
theorem Try.own : ownKnob Try.prog.godebug = Option.none := by kernel_rfl
theorem Try.laidOut : laidOutB Try.prog = true := by kernel_rfl
theorem Try.mapsRowed : mapsRowed Try.prog = true := by kernel_rfl
theorem Try.slicesOk : slicesOk Try.prog = true := by kernel_rfl
theorem underBool : Try.prog.underlying 4 = some .bool := by kernel_rfl
theorem order_lifted (os : Os) (started : os.Started) (K : Type) (enc : TypeId × Value → K) :
    ReturnsInHanded {} Try.checked os 3 .any (Rows.walindexOrderSpec.pre6 enc Try.prog Try.f3 Rows.walindexOrderRow.domain false) (Rows.walindexOrderSpec.post enc Try.prog Try.f3 false true false false) := by
  refine returnsInHanded_of_change_sized (C := Try.checked) Try.own started (by kernel_rfl) Try.func3
    (ChangeSpec.witness6 (enc := enc) (C := Try.checked) false ⟨#[], #[.slice Option.none 0 0], []⟩ 8 (by kernel_rfl) (by kernel_rfl) (by kernel_rfl) (by kernel_rfl)) ?_
  intro W base args ds gs before hval0 hW hcnd hsz _
  have hps : Try.f3.params.toList = [22] := by kernel_rfl
  obtain ⟨p, q, hA, hV, hbef, hfz, hnd⟩ := id hW
  rw [hps] at hA hsz
  have ⟨hr, hwf⟩ := lift_all [.sl shItm] (by kernel_rfl) hA
  obtain ⟨v, d, e1, rfl, hd⟩ := trodAll_one hA
  obtain ⟨_, _, e2, hw1, _⟩ := hwf
  obtain ⟨rfl, _⟩ := List.cons.inj e2
  subst e1
  have hw2 := (weights_cons (P := Try.prog) (t := 22) (d := d) (ds := gs) hsz).1
  have hp := relIts hw1 (sl_cells (w := W) undIts (hval0 0 _ _ (by kernel_rfl) rfl) hr.1)
  refine open_calls (call_of (or_c true (listOf toItm d) (its_sized hw1 hw2))) (t := 4) (ds := [d]) ⟨_, _, rfl, hp, rfl⟩ (by kernel_rfl) underBool rfl rfl Try.laidOut Try.mapsRowed Try.slicesOk (by rw [hps]; intro t ht; simp at ht; subst ht; exact of_decide_eq_true (by kernel_rfl)) hW
theorem order_said' : Rows.WalindexOrderSaid :=
  OpenClaim.holds_of_wide 3 Try.f3 rfl rfl rfl rfl rfl rfl rfl ⟨rfl, rfl, rfl, rfl, rfl⟩ rfl rfl rfl rfl rfl (by kernel_rfl) Try.func3 (by kernel_rfl)
    (of_decide_eq_true (by kernel_rfl)) (by unfold Func.isWrapper; first | (rw [if_pos (by decide +kernel)]; kernel_rfl) | (rw [if_neg (by decide +kernel)]; exact ⟨rfl, rfl⟩))
    (fun os started H enc _ => order_lifted os started H enc)
end Go.Proofs.Ytccfojpdkbaekaa.W
namespace Go.Proofs.Ytccfojpdkbaekaa
theorem order_said : Rows.WalindexOrderSaid := W.order_said'
end Go.Proofs.Ytccfojpdkbaekaa
