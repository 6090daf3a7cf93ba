/- PROVED: gazettelaw17.LineageSplits, its second form -/
import Derived.Deep.DeepHandedRow
import Derived.Test.YtckklclehofddaaDoorW7
set_option linter.unusedVariables false
set_option linter.unusedSimpArgs false
set_option linter.unusedSectionVars false
namespace Go.Proofs.YtckklclehofddaaDoor.Q
open Go.Ax Go.Shelf Go.RowKit Go.ChangeShapes Go.WideShapes Go.ChangeAt Go.Proofs.YtckklclehofddaaDoor Go.Proofs.YtckklclehofddaaDoor.D Go.Proofs.YtckklclehofddaaDoor.J
set_option maxRecDepth 1000000
structure Sml (p : Part) : Prop where
  lo : p.rng.lo.size ≤ 1048576
  hi : p.rng.hi.size ≤ 1048576
  ep : UwOk p.epoch
  fr : UwOk p.frozen
  rn : p.recs.length ≤ 1048576
  pn : p.prods.length ≤ 1048576
  cn : p.cons.length ≤ 1048576
  rv : ∀ x ∈ p.recs, (UwOk x.off ∧ UwOk x.prod ∧ UwOk x.seq) ∧ x.key.size ≤ 1048576 ∧ x.val.length ≤ 1048576
  pv : ∀ x ∈ p.prods, UwOk x.id ∧ UwOk x.seq ∧ UwOk x.offset
  cv : ∀ x ∈ p.cons, x.name.size ≤ 1048576 ∧ UwOk x.off
theorem fm_bound {α : Type} (f : α → List Int) (c : Nat) : ∀ l : List α, (∀ x ∈ l, (f x).length ≤ c) → (l.flatMap f).length ≤ l.length * c := by
  intro l
  induction l with
  | nil => intro _; simp
  | cons x l ih =>
    intro h
    have h1 := h x (by simp)
    have h2 := ih fun y hy => h y (by simp [hy])
    rw [List.flatMap_cons, List.length_append, List.length_cons, Nat.succ_mul]
    omega
theorem mem_at {α : Type} [Inhabited α] {l : List α} {k : Nat} (h : k < l.length) : l.getD k default ∈ l := by
  simp [h]
theorem recB_le {x : Rec} (h1 : x.key.size ≤ 1048576) (h2 : x.val.length ≤ 1048576) : (recB x).length ≤ 2097300 := by
  have a1 := textB_len (strB x.key)
  have a2 := textB_len x.val
  have a3 := uintB_len x.off
  have a4 := uintB_len x.prod
  have a5 := uintB_len x.seq
  have b1 := strB_len x.key
  simp only [recB, List.length_append]
  omega
theorem recsB_le {l : List Rec} (hn : l.length ≤ 1048576) (h : ∀ x ∈ l, x.key.size ≤ 1048576 ∧ x.val.length ≤ 1048576) : (recsB l).length ≤ 2199200000000 := by
  have h1 := fm_bound recB 2097300 l fun x hx => recB_le (h x hx).1 (h x hx).2
  have h2 := Nat.mul_le_mul_right 2097300 hn
  have h3 := uintB_len (l.length : Int)
  simp only [recsB, List.length_append]
  omega
theorem part_le {p : Part} (h : Sml p) : (partB p).length ≤ 70368744177664 := by
  have h1 := recsB_le h.rn fun x hx => (h.rv x hx).2
  have h2 := fm_bound prodB 40 p.prods fun x _ => by
    have a1 := uintB_len x.id
    have a2 := uintB_len x.seq
    have a3 := uintB_len x.offset
    have a4 : (boolB x.here).length = 1 := rfl
    simp only [prodB, List.length_append]
    omega
  have h3 := fm_bound conB 1048700 p.cons fun x hx => by
    have a1 := uintB_len x.off
    have a2 := textB_len (strB x.name)
    have a3 := strB_len x.name
    have a4 := (h.cv x hx).1
    simp only [conB, List.length_append]
    omega
  have h4 := Nat.mul_le_mul_right 40 h.pn
  have h5 := Nat.mul_le_mul_right 1048700 h.cn
  have a1 := textB_len (strB p.rng.lo)
  have a2 := textB_len (strB p.rng.hi)
  have b1 := strB_len p.rng.lo
  have b2 := strB_len p.rng.hi
  have c1 := h.lo
  have c2 := h.hi
  have a3 := uintB_len p.epoch
  have a4 := uintB_len p.frozen
  have a5 := uintB_len (p.prods.length : Int)
  have a6 := uintB_len (p.cons.length : Int)
  simp only [partB, coB, prB, hdB, rngB, List.length_append, List.take_length]
  omega
theorem by_ok {p : Part} (h : Sml p) : ByOk p where
  rg := ⟨by have := h.lo; omega, by have := h.hi; omega⟩
  ep := h.ep
  fr := h.fr
  ls := ⟨by have := h.rn; omega, by have := recsB_le h.rn fun x hx => (h.rv x hx).2; omega, fun k hk => by
    obtain ⟨⟨h1, h2, h3⟩, h4, h5⟩ := h.rv _ (mem_at hk)
    exact ⟨h1, h2, h3, by omega, by omega⟩⟩
  pn := by have := h.pn; omega
  cn := by have := h.cn; omega
  n := part_le h
  pr := fun k hk => h.pv _ (mem_at hk)
  co := fun k hk => by
    obtain ⟨h1, h2⟩ := h.cv _ (mem_at hk)
    exact ⟨by omega, h2⟩
theorem fold_val (r : Rng) (M : Nat) : ∀ (l : List Rec) (s : Ke), (∀ x ∈ s.out, x.val.length ≤ M) → (∀ x ∈ l, x.val.length ≤ M) → ∀ x ∈ (l.foldl (Ke.step r) s).out, x.val.length ≤ M := by
  intro l
  induction l with
  | nil => intro s hs _; simpa using hs
  | cons y l ih =>
    intro s hs hl
    rw [List.foldl_cons]
    refine ih _ (fun x hx => ?_) fun x hx => hl x (by simp [hx])
    unfold Ke.step at hx
    simp only at hx
    split at hx
    · rcases List.mem_append.1 hx with h | h
      · exact hs x h
      · obtain rfl := List.mem_singleton.1 h
        exact hl y (by simp)
    · exact hs x hx
theorem out_val {r : Rng} {l : List Rec} {M : Nat} (h : ∀ x ∈ l, x.val.length ≤ M) : ∀ x ∈ outOf r l, x.val.length ≤ M := fold_val r M l ⟨[], []⟩ (fun _ hx => by cases hx) h
theorem len_of {p : Part} (h : PartTy p) (r : Rng) : LenOk (partOf p r) := by
  obtain ⟨q4, q5⟩ := ke_len' r p.recs
  have h1 := h.rl
  have h2 := h.pl
  have h3 := h.cl
  have e1 : (outOf r p.recs).length ≤ p.recs.length := q5
  have e2 : (P.moveL p.prods (toOf r p.recs)).length = p.prods.length := by simp [P.moveL]
  have e3 := mapU_len p.cons (toOf r p.recs) p.cons.length
  exact ⟨by show (outOf r p.recs).length ≤ _; omega, by show (P.moveL p.prods (toOf r p.recs)).length ≤ _; omega, by show (mapU p.cons (toOf r p.recs) p.cons.length).length ≤ _; omega⟩
theorem splits_c (p : Part) (k : ByteArray) (hs : Sml p) (ht : PartTy p) (hk : k.size ≤ 9223372036854775807) : (boolR true).Sat (ACall' Tryd.prog 3 [.agg (encPt true p), .y (.string k)] []) := by
  have hb := by_ok hs
  have hc : CkOk p := ⟨ht, by have := hs.pn; omega, fun y hy => (hs.rv y hy).1.2.2.v0⟩
  by_cases he : splitE p k = 0
  · exact law_c p k _ _ hb ⟨hc, hk, he, rfl, rfl⟩ (len_of ht _) (len_of ht _) fun q hq => by
      have h1 := out_val (r := rLow p.rng k) (M := 1048576) (fun x hx => (hs.rv x hx).2.2) _ (mem_at hq)
      exact Nat.le_trans h1 (by omega)
  · exact lae_c p k _ hb ⟨hc, hk, rfl, he⟩
theorem u64_ok {K : Type} {d : DataW K} (h : (Sh.int .u64).wf d) : UwOk (toI d) := by
  obtain ⟨h0, h1⟩ := off_of h
  exact ⟨h0, h1⟩
theorem bulk_one {H : Type} (d : DataW H) : 1 ≤ Rows.uptoBulk d := by
  cases d with
  | lit l => cases l <;> simp [Rows.uptoBulk]
  | nil => simp [Rows.uptoBulk]
  | ptr d => simp [Rows.uptoBulk]
  | slice elems spare => simp [Rows.uptoBulk]
  | agg parts => simp [Rows.uptoBulk]
  | iface t d => simp [Rows.uptoBulk]
  | map entries => simp [Rows.uptoBulk]
  | held h => simp [Rows.uptoBulk]
theorem bulk_part {H : Type} {d : DataW H} {l : List (DataW H)} (h : d ∈ l) : Rows.uptoBulk d ≤ Rows.uptoBulkAll l := by
  induction l with
  | nil => cases h
  | cons x r ih =>
    simp only [Rows.uptoBulkAll]
    cases List.mem_cons.1 h with
    | inl e => subst e; omega
    | inr e => have := ih e; omega
theorem bulk_len {H : Type} (l : List (DataW H)) : l.length ≤ Rows.uptoBulkAll l := by
  induction l with
  | nil => simp [Rows.uptoBulkAll]
  | cons x r ih => have := bulk_one x; simp only [Rows.uptoBulkAll, List.length_cons]; omega
theorem bulk_list {K α : Type} (to : DataW K → α) (d : DataW K) : (listOf to d).length ≤ Rows.uptoBulk d := by
  cases d with
  | slice elems spare =>
    have := bulk_len elems
    simp only [Rows.uptoBulk, listOf, List.length_map]
    omega
  | _ => simp [listOf]
theorem bulk_agg {H : Type} {d : DataW H} {l : List (DataW H)} (h : d ∈ l) : Rows.uptoBulk d ≤ Rows.uptoBulk (DataW.agg l) := by
  have := bulk_part h
  simp only [Rows.uptoBulk]
  omega
theorem bulk_str {K : Type} {d : DataW K} (h : Sh.str.wf d) : (toS d).size ≤ Rows.uptoBulk d := by
  obtain ⟨l, rfl, _⟩ := h
  show (toS (DataW.lit (.string l))).size ≤ _
  simp only [toS, Rows.uptoBulk]
  first | omega | (simp [ByteArray.size]) | skip
theorem small_bound {H : Type} {l : List (DataW H)} (hk : Rows.uptoSmall H l = true) : ∀ d ∈ l, Rows.uptoBulk d ≤ 1048576 := by
  have : Rows.uptoBulkAll l ≤ 1048576 := of_decide_eq_true hk
  intro d hd
  exact Nat.le_trans (bulk_part hd) this
theorem mem_of {K α : Type} {e : Sh} {to : DataW K → α} {Q : α → Prop} {M : Nat} (h : ∀ d, e.wf d → Rows.uptoBulk d ≤ M → Q (to d)) {d : DataW K} (hd : (Sh.sl e).wf d) (hb : Rows.uptoBulk d ≤ M) : ∀ x ∈ listOf to d, Q x := by
  rcases hd with rfl | ⟨xs, r, rfl, hx⟩
  · intro y hy; cases hy
  · intro y hy
    obtain ⟨x, hx', rfl⟩ := List.mem_map.1 hy
    refine h x (hx x hx') (Nat.le_trans ?_ hb)
    have := bulk_part hx'
    simp only [Rows.uptoBulk]
    omega
theorem rec_ok {K : Type} (d : DataW K) (h : shRec.wf d) (hb : Rows.uptoBulk d ≤ 1048576) : (UwOk (toRec d).off ∧ UwOk (toRec d).prod ∧ UwOk (toRec d).seq) ∧ (toRec d).key.size ≤ 1048576 ∧ (toRec d).val.length ≤ 1048576 := by
  obtain ⟨ds, rfl, d1, r1, rfl, w1, d2, r2, rfl, w2, d3, r3, rfl, w3, d4, r4, rfl, w4, d5, r5, rfl, w5, rfl⟩ := h
  exact ⟨⟨u64_ok w1, u64_ok w4, u64_ok w5⟩, Nat.le_trans (bulk_str w2) (Nat.le_trans (bulk_agg (by simp)) hb), Nat.le_trans (bulk_list toI d3) (Nat.le_trans (bulk_agg (by simp)) hb)⟩
theorem pro_ok {K : Type} (d : DataW K) (h : shPro.wf d) (_ : Rows.uptoBulk d ≤ 1048576) : UwOk (toPro d).id ∧ UwOk (toPro d).seq ∧ UwOk (toPro d).offset := by
  obtain ⟨ds, rfl, d1, r1, rfl, w1, d2, r2, rfl, w2, d3, r3, rfl, w3, d4, r4, rfl, w4, rfl⟩ := h
  exact ⟨u64_ok w1, u64_ok w2, u64_ok w4⟩
theorem con_ok {K : Type} (d : DataW K) (h : shCon.wf d) (hb : Rows.uptoBulk d ≤ 1048576) : (toC d).name.size ≤ 1048576 ∧ UwOk (toC d).off := by
  obtain ⟨ds, rfl, d1, r1, rfl, w1, d2, r2, rfl, w2, rfl⟩ := h
  exact ⟨Nat.le_trans (bulk_str w1) (Nat.le_trans (bulk_agg (by simp)) hb), u64_ok w2⟩
theorem sml_of {K : Type} {d : DataW K} (h : shPart.wf d) (hb : Rows.uptoBulk d ≤ 1048576) : Sml (toPart d) := by
  obtain ⟨ds, rfl, d1, r1, rfl, w1, d2, r2, rfl, w2, d3, r3, rfl, w3, d4, r4, rfl, w4, d5, r5, rfl, w5, d6, r6, rfl, w6, rfl⟩ := h
  have b1 := Nat.le_trans (bulk_agg (d := d1) (l := [d1, d2, d3, d4, d5, d6]) (by simp)) hb
  have b4 := Nat.le_trans (bulk_agg (d := d4) (l := [d1, d2, d3, d4, d5, d6]) (by simp)) hb
  have b5 := Nat.le_trans (bulk_agg (d := d5) (l := [d1, d2, d3, d4, d5, d6]) (by simp)) hb
  have b6 := Nat.le_trans (bulk_agg (d := d6) (l := [d1, d2, d3, d4, d5, d6]) (by simp)) hb
  obtain ⟨es, rfl, e1, t1, rfl, v1, e2, t2, rfl, v2, rfl⟩ := w1
  exact ⟨Nat.le_trans (bulk_str v1) (Nat.le_trans (bulk_agg (l := [e1, e2]) (by simp)) b1), Nat.le_trans (bulk_str v2) (Nat.le_trans (bulk_agg (l := [e1, e2]) (by simp)) b1), u64_ok w2, u64_ok w3,
    Nat.le_trans (bulk_list toRec d4) b4, Nat.le_trans (bulk_list toPro d5) b5, Nat.le_trans (bulk_list toC d6) b6,
    mem_of (to := toRec) (Q := fun x => (UwOk x.off ∧ UwOk x.prod ∧ UwOk x.seq) ∧ x.key.size ≤ 1048576 ∧ x.val.length ≤ 1048576) rec_ok w4 b4,
    mem_of (to := toPro) (Q := fun x => UwOk x.id ∧ UwOk x.seq ∧ UwOk x.offset) pro_ok w5 b5,
    mem_of (to := toC) (Q := fun x => x.name.size ≤ 1048576 ∧ UwOk x.off) con_ok w6 b6⟩
theorem ty_sz {p : Part} (h : PartSz p) : PartTy p := by
  obtain ⟨h1, h2, h3, h4, h5⟩ := h
  exact ⟨by omega, by omega, by omega, h4, h5⟩
end Go.Proofs.YtckklclehofddaaDoor.Q

namespace Go.Proofs.YtckklclehofddaaDoor.Q
open Go.Ax Go.Shelf Go.RowKit Go.ChangeShapes Go.WideShapes Go.ChangeAt Go.Proofs.YtckklclehofddaaDoor
set_option maxRecDepth 1000000
def lineageSplits_laidL : List (String × DataW Unit) := Rows.lineageSplitsUptoRow.laid
noncomputable def lineageSplits_layW (os : Os) : World := World.laidAll Tryd.prog os lineageSplits_laidL
theorem lineageSplits_lay_met (os : Os) (args : Array Value) : laidMetH Tryd.prog lineageSplits_laidL ((lineageSplits_layW os).forCall (fun _ _ => 0) ⟨#[], args, []⟩).memory := by
  have e : ∀ w, laidMetH Tryd.prog lineageSplits_laidL w = laidMet Tryd.prog lineageSplits_laidL w := fun w => by kernel_rfl
  rw [e]
  exact laidMet_laidAll args (by kernel_rfl) (by kernel_rfl)
theorem lineageSplits_reads (os : Os) {H : Type} (enc : TypeId × Value → H) : ∃ places, DataW.whole enc Tryd.prog ((lineageSplits_layW os).forCall (fun _ _ => 0) ⟨#[], #[.agg #[.string ⟨#[]⟩, .string ⟨#[]⟩, .int .u64 0, .int .u64 0, .slice Option.none 0 0, .slice Option.none 0 0, .slice Option.none 0 0], .string ⟨#[]⟩], []⟩).memory Tryd.f3.params.toList Rows.lineageSplitsSpec.vars false (#[.agg #[.string ⟨#[]⟩, .string ⟨#[]⟩, .int .u64 0, .int .u64 0, .slice Option.none 0 0, .slice Option.none 0 0, .slice Option.none 0 0], .string ⟨#[]⟩] : Array Value).toList 8 = some ([.agg [.agg [.lit (.string []), .lit (.string [])], .lit (.int .u64 0), .lit (.int .u64 0), .nil, .nil, .nil], .lit (.string [])], [], places) :=
  ⟨[], by kernel_rfl⟩
theorem lineageSplits_lifted (os : Os) (started : os.Started) (K : Type) (enc : TypeId × Value → K) (F : Stop.Interp) :
    ReturnsInHanded {} Tryd.checked os 3 .any ((Rows.OpenSpec.upto Rows.lineageSplitsSpec).preRow enc Tryd.prog Tryd.f3 Rows.lineageSplitsUptoRow.domain false Rows.lineageSplitsUptoRow.laid) (((Rows.OpenSpec.upto Rows.lineageSplitsSpec).at F).post enc Tryd.prog Tryd.f3 false true false false) := by
  obtain ⟨places, hx⟩ := lineageSplits_reads os enc
  refine returnsInHanded_of_row (C := Tryd.checked) (s := Rows.OpenSpec.upto Rows.lineageSplitsSpec) Tryd.own started (by kernel_rfl) Tryd.func3
    (witness_row_at (enc := enc) (C := Tryd.checked) false (lineageSplits_layW os) #[.agg #[.string ⟨#[]⟩, .string ⟨#[]⟩, .int .u64 0, .int .u64 0, .slice Option.none 0 0, .slice Option.none 0 0, .slice Option.none 0 0], .string ⟨#[]⟩] rfl (by kernel_rfl) (by kernel_rfl) (by kernel_rfl)
      (OpenSpec.preRow_of_cond 8 hx (by kernel_rfl) (fun k hk => by cases hk; kernel_rfl) (by kernel_rfl) (lineageSplits_lay_met os _))) ?_
  intro W base args ds gs before hval0 hW _ hcond hsz hL _ _
  have hps : Tryd.f3.params.toList = [29, 9] := by kernel_rfl
  obtain ⟨p, q, hA, hV, hbef, hfz, hnd⟩ := id hW
  have hA : DataW.TrodAll enc Tryd.prog W 0 (fun _ => true) true Tryd.f3.params.toList args.toList ds p := hA
  have hk := small_bound (hcond _ rfl)
  rw [hps] at hA hsz
  have ⟨hr, hwf⟩ := lift_all [shPart, .str] (by kernel_rfl) hA
  obtain ⟨v1, v2, d1, d2, _, _, e1, rfl, _, _, _⟩ := trodAll_two hA
  obtain ⟨_, _, g1, w1, _, _, g2, w2, _⟩ := hwf
  obtain ⟨rfl, q1⟩ := List.cons.inj g1
  subst q1
  obtain ⟨rfl, _⟩ := List.cons.inj g2
  subst e1
  obtain ⟨h1, hs1⟩ := weights_cons (P := Tryd.prog) (t := 29) (d := d1) hsz
  obtain ⟨h2, hs2⟩ := weights_cons (P := Tryd.prog) (t := 9) (d := d2) hs1
  have r1 := hr.1
  obtain ⟨fs1, hf1, _⟩ := undPart
  have r1 := relA hf1 (hval0 0 _ _ (by kernel_rfl) rfl) (relPart w1 r1)
  have r2 := hr.2.1
  rw [encS_ok w2] at r2
  obtain ⟨n2, rfl⟩ := okWide_string (show Tryd.prog.underlying 9 = some .string by kernel_rfl) (hval0 1 _ _ (by kernel_rfl) rfl)
  obtain ⟨_, _, er, r2, _⟩ := r2
  cases er
  have b1 := hk d1 (by simp)
  have b2 := hk d2 (by simp)
  exact open_calls (s := Rows.lineageSplitsSpec) (call_of (splits_c _ _ (sml_of w1 b1) (ty_sz (part_sz w1 h1)) (str_size w2))) (t := 4) (ds := [d1, d2]) ⟨_, _, rfl, r1, _, _, rfl, r2, rfl⟩ (by kernel_rfl) underBool rfl rfl Tryd.laidOut Tryd.mapsRowed Tryd.slicesOk (by rw [hps]; intro t ht; simp only [List.mem_cons, List.not_mem_nil, or_false] at ht; rcases ht with rfl | rfl <;> exact of_decide_eq_true (by kernel_rfl)) hW
theorem lineageSplits_holds : Rows.LineageSplitsUptoSaid :=
  OpenClaim.holds_of_cond 3 Tryd.f3 rfl rfl rfl rfl rfl rfl rfl ⟨rfl, rfl, rfl, rfl, rfl⟩ rfl rfl rfl rfl rfl (by kernel_rfl) Tryd.func3 (by kernel_rfl)
    (of_decide_eq_true (by kernel_rfl)) (by unfold Func.isWrapper; first | (rw [if_pos (by decide +kernel)]; kernel_rfl) | (rw [if_neg (by decide +kernel)]; exact ⟨rfl, rfl⟩))
    (fun os started H enc _ F => by rw [OpenClaim.pre_eq_preRow]; exact lineageSplits_lifted os started H enc F)
theorem lineageSplits_said : Rows.LineageSplitsUptoCardSaid :=
  Claim7.holds_tied_plain_at .later [] [.data, .pinned] true (true, "84302003515846d72bd40edd2ce5986e4f668e76e046885384b15b5ec307b7b6") true
    lineageSplits_holds (fun _ h => by cases h) (by kernel_rfl) (fun _ h => by cases h) lineageSplitsUpto_row_tie rfl ⟨rfl, rfl⟩ (by kernel_rfl) rfl
    (fun f fn hf hfn => by
      obtain rfl : f = 3 := Option.some.inj ((show Tryd.prog.funcNamed "gazette/gazettelaw17.LineageSplits" = some 3 by kernel_rfl).symm.trans hf) |>.symm
      obtain rfl : fn = Tryd.f3 := (Option.some.inj (Tryd.func3.symm.trans hfn)).symm
      exact ⟨by kernel_rfl, fun j t ht => by
        rw [show Tryd.f3.params = #[29, 9] by kernel_rfl] at ht
        have h3 : t = 29 ∨ t = 9 := by
          rcases j with _ | _ | j
          · exact Or.inl (by simpa using ht.symm)
          · exact Or.inr ((by simpa using ht.symm))
          · simp at ht
        rcases h3 with rfl | rfl
        · exact (show Tryd.prog.wantsStandIn 29 = false by kernel_rfl)
        · exact (show Tryd.prog.wantsStandIn 9 = false by kernel_rfl)⟩)
    (by kernel_rfl)
end Go.Proofs.YtckklclehofddaaDoor.Q
namespace Go.Proofs.YtckklclehofddaaDoor
theorem splits_said : Rows.LineageSplitsUptoCardSaid := Q.lineageSplits_said
end Go.Proofs.YtckklclehofddaaDoor
