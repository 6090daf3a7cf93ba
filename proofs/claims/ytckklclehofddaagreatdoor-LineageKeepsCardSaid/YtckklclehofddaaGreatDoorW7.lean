/- PROVED: for every two states and every key the law LineageKeeps answers true: states that are made may be, no record is lost, each log keeps its order. Its conditions are those of the given statement. -/
import Derived.Test.YtckklclehofddaaGreatDoorRows
import Derived.Test.YtckklclehofddaaGreatDoorTie
import Derived.Test.YtckklclehofddaaGreatDoorCards
import Derived.OpenShut
import Derived.Lay
import Derived.Handed
import Derived.SevenTiedAt
import Derived.Test.YtckklclehofddaaGreatDoorE10
import Derived.Test.YtckklclehofddaaGreatDoorW5
import Derived.Test.YtckklclehofddaaGreatDoorW6
set_option linter.unusedVariables false
set_option linter.unusedSimpArgs false
set_option linter.unusedSectionVars false
/-! Records: the law RecordsOrder: the plain laws. -/
namespace Go.Proofs.YtckklclehofddaaGreatDoor
open Go.Ax
set_option maxRecDepth 1000000
theorem snocR (t : List Rec) (n : Rec) (i : Nat) : (t ++ [n]).getD i default = if i < t.length then t.getD i default else if i = t.length then n else default := by
  split
  · rename_i h1
    rw [List.getD_eq_getElem?_getD, List.getElem?_append_left h1, List.getD_eq_getElem?_getD]
  · rename_i h1
    rw [List.getD_eq_getElem?_getD, List.getElem?_append_right (by omega)]
    split
    · rename_i h2
      rw [h2, Nat.sub_self]; rfl
    · rename_i h2
      rw [List.getElem?_eq_none (by simp; omega)]; rfl
/-! what is kept -/
/-! two logs as one -/
structure Sd (x0 x : List Rec) (t : List Int) (out : List Rec) : Prop where
  dr : x = x0.drop t.length
  le : t.length ≤ x0.length
  up : ∀ k, k + 1 < t.length → t.getD k 0 < t.getD (k + 1) 0
  lo : ∀ k, k < t.length → 0 ≤ t.getD k 0 ∧ t.getD k 0 < out.length
  eq : ∀ k, k < t.length → out.getD (t.getD k 0).toNat default = (x0.getD k default).to (t.getD k 0)
theorem Sd.other {x0 x : List Rec} {t : List Int} {out : List Rec} (h : Sd x0 x t out) (z : Rec) : Sd x0 x t (out ++ [z]) where
  dr := h.dr
  le := h.le
  up := h.up
  lo := fun k hk => by
    have := h.lo k hk
    have hn : (out ++ [z]).length = out.length + 1 := by simp
    rw [hn]; omega
  eq := fun k hk => by
    have := h.lo k hk
    rw [snocR, if_pos (by omega)]
    exact h.eq k hk
theorem Sd.push {x0 x : List Rec} {t : List Int} {out : List Rec} (h : Sd x0 x t out) (hp : 0 < x.length) : Sd x0 x.tail (t ++ [(out.length : Int)]) (out ++ [(hd x).to (out.length : Int)]) where
  dr := by rw [h.dr]; simp
  le := by
    have := h.dr; rw [this] at hp; simp at hp ⊢; omega
  up := fun k hk => by
    simp at hk
    rw [snoc_at t _ k (by simp; omega), snoc_at t _ (k + 1) (by simp; omega), if_pos (by omega)]
    split
    · rename_i h1; exact h.up k h1
    · exact (h.lo k (by omega)).2
  lo := fun k hk => by
    simp at hk
    rw [snoc_at t _ k (by simp; omega)]
    split
    · rename_i h1
      have := h.lo k h1
      have hn : (out ++ [(hd x).to (out.length : Int)]).length = out.length + 1 := by simp
      rw [hn]; omega
    · have hn : (out ++ [(hd x).to (out.length : Int)]).length = out.length + 1 := by simp
      rw [hn]; omega
  eq := fun k hk => by
    simp at hk
    rw [snoc_at t _ k (by simp; omega)]
    split
    · rename_i h1
      have := h.lo k h1
      rw [snocR, if_pos (by omega)]
      exact h.eq k h1
    · obtain rfl : k = t.length := by omega
      rw [Int.toNat_natCast, snocR, if_neg (by omega), if_pos rfl]
      congr 1
      unfold hd
      rw [h.dr]
      simp
theorem Sd.fin {x0 : List Rec} {t : List Int} {out : List Rec} (h : Sd x0 [] t out) (hl : out.length ≤ 4096) : Stn out x0 (t ++ [(out.length : Int)]) := by
  have hn : t.length = x0.length := by
    have h1 := congrArg List.length h.dr
    have h2 := h.le
    simp at h1; omega
  refine ⟨by simp [hn], fun k hk => ?_, fun k hk => ?_, fun k hk => ?_, fun k hk => ?_, hl⟩
  · rw [snoc_at t _ k (by simp; omega), snoc_at t _ (k + 1) (by simp; omega), if_pos (by omega)]
    split
    · rename_i h1; exact h.up k h1
    · exact (h.lo k (by omega)).2
  · rw [snoc_at t _ k (by simp; omega), if_pos (by omega)]
    exact (h.lo k (by omega)).1
  · rw [snoc_at t _ k (by simp; omega), if_pos (by omega)]
    exact (h.lo k (by omega)).2
  · rw [snoc_at t _ k (by simp; omega), if_pos (by omega)]
    exact h.eq k (by omega)
def rP (x y : Rec) : Prop := x.prod = y.prod → x.seq ≤ y.seq
structure JR2 (a0 b0 : List Rec) (s : Jo) : Prop where
  sa : Sd a0 s.a s.ta s.out
  sb : Sd b0 s.b s.tb s.out
  lg : ∀ k, k < s.out.length → okR (s.out.getD k default) k = true
  ra : a0.Pairwise rP → b0.Pairwise rP → (s.out ++ s.a).Pairwise rP ∧ (s.out ++ s.b).Pairwise rP
theorem log_okj {l : List Rec} (h : isLog l = true) {k : Nat} (hk : k < l.length) : okR (l.getD k default) k = true := by
  unfold isLog at h
  have h1 := ((Bool.and_eq_true _ _).mp h).1
  unfold logFrom at h1
  rw [List.all_eq_true] at h1
  exact h1 k (by simp; omega)
theorem log_of {l : List Rec} (h : ∀ k, k < l.length → okR (l.getD k default) k = true) (hl : l.length ≤ 4096) : isLog l = true := by
  unfold isLog logFrom
  rw [decide_eq_true hl, Bool.and_true, List.all_eq_true]
  intro k hk
  simp at hk
  exact h k hk
theorem okR_to {x : Rec} {k n : Nat} (h : okR x k = true) (hn : n ≤ 4096) : okR (x.to (n : Int)) n = true := by
  unfold okR at h ⊢
  have h2 := ((Bool.and_eq_true _ _).mp h).2
  have e : IntKind.u64.wrap (n : Int) = n := wrap_u64 (by omega) (by omega)
  have e3 : (decide (x.key.size ≤ 32) && decide (x.val.length ≤ 256)) = true := h2
  show (!((n : Int) != IntKind.u64.wrap (n : Int)) && (decide (x.key.size ≤ 32) && decide (x.val.length ≤ 256))) = true
  rw [e, e3]
  simp
theorem low_of {x : Rec} {l : List Rec} (h : lowR l x = false) : ∀ y ∈ l, rP x y := by
  intro y hy hp
  unfold lowR at h
  rw [List.any_eq_false] at h
  have := h y hy
  unfold below at this
  rw [Bool.not_eq_true, Bool.and_eq_false_iff] at this
  rcases this with h1 | h1
  · simp at h1; exact absurd hp.symm h1
  · simp at h1; exact h1
theorem pw_push {out x y : List Rec} {o : Int} (hx : 0 < x.length) (h1 : (out ++ x).Pairwise rP) (h2 : (out ++ y).Pairwise rP) (h3 : ∀ z ∈ y, rP (hd x) z) :
    (out ++ [(hd x).to o] ++ x.tail).Pairwise rP ∧ (out ++ [(hd x).to o] ++ y).Pairwise rP := by
  obtain ⟨u, v, rfl⟩ : ∃ u v, x = u :: v := by
    cases x
    · simp at hx
    · exact ⟨_, _, rfl⟩
  have hu : hd (u :: v) = u := rfl
  rw [hu] at h3 ⊢
  rw [List.pairwise_append, List.pairwise_cons] at h1
  rw [List.pairwise_append] at h2
  obtain ⟨a1, ⟨a2, a3⟩, a4⟩ := h1
  obtain ⟨b1, b2, b3⟩ := h2
  have c : (out ++ [u.to o]).Pairwise rP := by
    rw [List.pairwise_append]
    refine ⟨a1, List.pairwise_singleton _ _, fun p hp q hq => ?_⟩
    obtain rfl := List.mem_singleton.1 hq
    exact a4 p hp u List.mem_cons_self
  refine ⟨?_, ?_⟩
  · rw [List.pairwise_append]
    refine ⟨c, a3, fun p hp q hq => ?_⟩
    rcases List.mem_append.1 hp with hp | hp
    · exact a4 p hp q (List.mem_cons_of_mem _ hq)
    · obtain rfl := List.mem_singleton.1 hp
      exact a2 q hq
  · rw [List.pairwise_append]
    refine ⟨c, b2, fun p hp q hq => ?_⟩
    rcases List.mem_append.1 hp with hp | hp
    · exact b3 p hp q hq
    · obtain rfl := List.mem_singleton.1 hp
      exact h3 q hq
theorem okx {a0 x : List Rec} {t : List Int} {out : List Rec} (h : Sd a0 x t out) (hl : isLog a0 = true) (hx : 0 < x.length) (hn : out.length ≤ 4096) : okR ((hd x).to (out.length : Int)) out.length = true := by
  have hd' : hd x = a0.getD t.length default := by
    unfold hd; rw [h.dr]; simp
  have hlt : t.length < a0.length := by
    have := h.dr; rw [this] at hx; simp at hx; omega
  rw [hd']
  exact okR_to (log_okj hl hlt) hn
theorem lg_push {out : List Rec} {z : Rec} (h : ∀ k, k < out.length → okR (out.getD k default) k = true) (hz : okR z out.length = true) : ∀ k, k < (out ++ [z]).length → okR ((out ++ [z]).getD k default) k = true := by
  intro k hk
  rw [snocR]
  split
  · rename_i h1; exact h k h1
  · obtain rfl : k = out.length := by simp at hk; omega
    rw [if_pos rfl]; exact hz
theorem joinN_jr {a0 b0 : List Rec} (la : isLog a0 = true) (lb : isLog b0 = true) : ∀ (n : Nat) (s s' : Jo), n = s.a.length + s.b.length → n + s.out.length ≤ 4096 → JR2 a0 b0 s → joinN n s = some s' → JR2 a0 b0 s' ∧ s'.a = [] ∧ s'.b = [] ∧ s'.out.length = n + s.out.length
  | 0, s, s', e, _, h, hj => by
    rw [joinN] at hj
    cases hj
    exact ⟨h, List.eq_nil_of_length_eq_zero (by omega), List.eq_nil_of_length_eq_zero (by omega), by omega⟩
  | n + 1, s, s', e, hl, h, hj => by
    have hat : s.at = (s.out.length : Int) := by unfold Jo.at; rw [wrap_u64 (by omega) (by omega)]
    rw [joinN] at hj
    by_cases hA : s.tA = true
    · rw [if_pos hA] at hj
      unfold Jo.tA at hA
      obtain ⟨hA1, hA2⟩ := (Bool.and_eq_true _ _).mp hA
      have hp : 0 < s.a.length := pos_of_ne hA1
      have hlow : lowR s.b (hd s.a) = false := by simpa using hA2
      have g : JR2 a0 b0 s.goA := by
        unfold Jo.goA
        rw [hat]
        refine ⟨h.sa.push hp, h.sb.other _, lg_push h.lg (okx h.sa la hp (by omega)), fun r1 r2 => ?_⟩
        obtain ⟨c1, c2⟩ := h.ra r1 r2
        exact pw_push hp c1 c2 (low_of hlow)
      obtain ⟨d1, d2, d3, d4⟩ := joinN_jr la lb n s.goA s' (by unfold Jo.goA; dsimp only; rw [List.length_tail]; omega) (by unfold Jo.goA; dsimp only; simp; omega) g hj
      refine ⟨d1, d2, d3, ?_⟩
      rw [d4]; unfold Jo.goA; simp; omega
    · rw [if_neg hA] at hj
      by_cases hB : s.tB = true
      · rw [if_pos hB] at hj
        unfold Jo.tB at hB
        obtain ⟨hB1, hB2⟩ := (Bool.and_eq_true _ _).mp hB
        have hp : 0 < s.b.length := pos_of_ne hB1
        have hlow : lowR s.a (hd s.b) = false := by simpa using hB2
        have g : JR2 a0 b0 s.goB := by
          unfold Jo.goB
          rw [hat]
          refine ⟨h.sa.other _, h.sb.push hp, lg_push h.lg (okx h.sb lb hp (by omega)), fun r1 r2 => ?_⟩
          obtain ⟨c1, c2⟩ := h.ra r1 r2
          exact (pw_push hp c2 c1 (low_of hlow)).symm
        obtain ⟨d1, d2, d3, d4⟩ := joinN_jr la lb n s.goB s' (by unfold Jo.goB; dsimp only; rw [List.length_tail]; omega) (by unfold Jo.goB; dsimp only; simp; omega) g hj
        refine ⟨d1, d2, d3, ?_⟩
        rw [d4]; unfold Jo.goB; simp; omega
      · rw [if_neg hB] at hj
        cases hj
structure JF (a b : List Rec) (J : Jo) : Prop where
  sa : Stn J.out a J.ta
  sb : Stn J.out b J.tb
  n : J.out.length = a.length + b.length
  lg : isLog J.out = true
  ra : a.Pairwise rP → b.Pairwise rP → J.out.Pairwise rP
theorem jf_of {a b : List Rec} (h : joOk a b = true) : JF a b ((jo0 a b).run.getD (jo0 a b)).end := by
  unfold joOk at h
  obtain ⟨h1, h2⟩ := (Bool.and_eq_true _ _).mp h
  obtain ⟨la, lb⟩ := (Bool.and_eq_true _ _).mp h1
  obtain ⟨h2, h3⟩ := (Bool.and_eq_true _ _).mp h2
  have hn := of_decide_eq_true h2
  obtain ⟨s, hs⟩ := Option.isSome_iff_exists.1 h3
  rw [hs, Option.getD_some]
  have h0 : JR2 a b (jo0 a b) := by
    refine ⟨⟨by simp [jo0], by simp [jo0], fun k hk => by simp [jo0] at hk, fun k hk => by simp [jo0] at hk, fun k hk => by simp [jo0] at hk⟩, ⟨by simp [jo0], by simp [jo0], fun k hk => by simp [jo0] at hk, fun k hk => by simp [jo0] at hk, fun k hk => by simp [jo0] at hk⟩, fun k hk => by simp [jo0] at hk, fun r1 r2 => ⟨by simpa [jo0] using r1, by simpa [jo0] using r2⟩⟩
  obtain ⟨g, ea, eb, en⟩ := joinN_jr la lb _ (jo0 a b) s rfl (by simp [jo0]; omega) h0 hs
  have en' : s.out.length = a.length + b.length := by rw [en]; simp [jo0]
  have hat : s.at = (s.out.length : Int) := by unfold Jo.at; rw [wrap_u64 (by omega) (by omega)]
  have ga := g.sa
  have gb := g.sb
  rw [ea] at ga
  rw [eb] at gb
  unfold Jo.end
  rw [hat]
  refine ⟨ga.fin (by omega), gb.fin (by omega), en', log_of g.lg (show s.out.length ≤ 4096 by omega), fun r1 r2 => ?_⟩
  have := (g.ra r1 r2).1
  rw [ea, List.append_nil] at this
  exact this
end Go.Proofs.YtckklclehofddaaGreatDoor

/-! Lineage: two states joined: there is what comes of it, or an error. -/
namespace Go.Proofs.YtckklclehofddaaGreatDoor.D
open Go.Ax
set_option maxRecDepth 1000000
theorem not_bad {p : Part} (h : bad p = false) : partOk p = true ∧ IntKind.u64.wrap (p.epoch + 1) ≠ 0 := by
  unfold bad at h
  simp at h
  exact h
theorem mem_both {s m : List P.Producer} {z : P.Producer} : ∀ k, k ≤ m.length → z ∈ P.both s m k → z ∈ s ∨ z ∈ m := by
  intro k
  induction k with
  | zero => intro _ h; exact .inl h
  | succ k ih =>
    intro hk h
    rw [P.both_step (by omega)] at h
    unfold P.bst at h
    split at h
    · rcases P.mem_putL h with rfl | h
      · exact .inr (by simp [List.getElem?_eq_getElem (show k < m.length by omega)])
      · exact ih (by omega) h
    · exact ih (by omega) h
theorem mv_off {to : List Int} {n : Int} (hb : bd to n) (h0 : 0 ≤ n) (x : P.Producer) (hx : 0 ≤ x.offset) : 0 ≤ (P.mvP to x).offset ∧ (P.mvP to x).offset ≤ n := by
  unfold P.mvP
  split
  · rename_i h
    simp only [P.mvOk, Bool.and_eq_true, decide_eq_true_eq] at h
    obtain ⟨_, h1, h2, _⟩ := h
    have := hb x.offset.toNat (by omega)
    show 0 ≤ to.getD x.offset.toNat default ∧ _
    exact this
  · exact ⟨Int.le_refl _, h0⟩
theorem both_off {a b : List P.Producer} {ta tb : List Int} {n : Int} (h1 : bd ta n) (h2 : bd tb n) (h0 : 0 ≤ n) (oa : ∀ x ∈ a, 0 ≤ x.offset) (ob : ∀ x ∈ b, 0 ≤ x.offset) : ∀ x ∈ P.bothL a b ta tb, 0 ≤ x.offset ∧ x.offset ≤ n := by
  intro x hx
  rcases mem_both _ (Nat.le_refl _) hx with h | h
  · obtain ⟨y, hy, rfl⟩ := List.mem_map.1 h
    exact mv_off h1 h0 y (oa y hy)
  · obtain ⟨y, hy, rfl⟩ := List.mem_map.1 h
    exact mv_off h2 h0 y (ob y hy)
structure JoAll (a b out : List Rec) (ta tb : List Int) : Prop where
  jf : JF a b ⟨[], [], out, ta, tb⟩
  ba : bd ta out.length
  bb : bd tb out.length
  na : ta.length = a.length + 1
  nb : tb.length = b.length + 1
  n : out.length = a.length + b.length
theorem jo_all {a b out : List Rec} {ta tb : List Int} (h : JoinOk a b out ta tb) : JoAll a b out ta tb := by
  obtain ⟨la, lb, hn, s, hs, rfl, rfl, rfl⟩ := h
  have hj : joOk a b = true := by simp [joOk, la, lb, hn, hs]
  have h1 := jf_of hj
  have h2 := run_je hj
  rw [hs, Option.getD_some] at h1 h2
  refine ⟨⟨h1.sa, h1.sb, h1.n, h1.lg, h1.ra⟩, ?_, ?_, h1.sa.n, h1.sb.n, h1.n⟩
  · exact h2.ba
  · exact h2.bb
theorem km_ok {a b : Part} (ha : partOk a = true) (hb : partOk b = true) : kmE a.rng b.rng = 0 ∨ kmE a.rng b.rng = 133 := by
  have h1 := (ok_parts ha).1
  have h2 := (ok_parts hb).1
  unfold kmE
  rw [if_neg (by simp [h1]), if_neg (by simp [h2])]
  split
  · exact .inr rfl
  · exact .inl rfl
theorem tab_len {l : List P.Producer} (h : P.isTable l = true) : l.length ≤ 256 := by simp [P.isTable] at h; exact h.2
theorem con_len {l : List Con} (h : isCons l = true) : l.length ≤ 64 := by simp [isCons] at h; exact h.2
theorem merge_or (a b : Part) (ha : PartTy a) (hb : PartTy b) : (∃ x : Mrg, x.a = a ∧ x.b = b ∧ MrgOk x) ∨ ∃ e : Int, e ≠ 0 ∧ (mrE e).Sat (ACall' Tryz.prog 12 [.agg (encPt true a), .agg (encPt true b)] []) := by
  by_cases c1 : (bad a || bad b) = true
  · exact .inr ⟨172, by decide, m1_c ⟨a, b, [], [], [], [], []⟩ ha hb c1⟩
  have c1 : (bad a || bad b) = false := by simpa using c1
  obtain ⟨b1, b2⟩ := Bool.or_eq_false_iff.1 c1
  by_cases c2 : live2 a b = true
  · exact .inr ⟨171, by decide, m2_c ⟨a, b, [], [], [], [], []⟩ ha hb b1 b2 c2⟩
  have c2 : live2 a b = false := by simpa using c2
  obtain ⟨oa, ea⟩ := not_bad b1
  obtain ⟨ob, eb⟩ := not_bad b2
  obtain ⟨_, _, la, pa, ca, _⟩ := ok_parts oa
  obtain ⟨_, _, lb, pb, cb, _⟩ := ok_parts ob
  have i0 : ∀ out ta tb ps cs, MrgIn ⟨a, b, out, ta, tb, ps, cs⟩ := fun _ _ _ _ _ => ⟨ha, hb, b1, b2, c2⟩
  rcases km_ok oa ob with c3 | c3
  rotate_left
  · exact .inr ⟨133, by decide, m3_c ⟨a, b, [], [], [], [], []⟩ (i0 _ _ _ _ _) c3⟩
  by_cases c4 : 4096 < a.recs.length + b.recs.length
  · exact .inr ⟨143, by decide, m4_c ⟨a, b, [], [], [], [], []⟩ (i0 _ _ _ _ _) c3 la lb c4⟩
  cases c5 : (jo0 a.recs b.recs).run with
  | none => exact .inr ⟨145, by decide, m5_c ⟨a, b, [], [], [], [], []⟩ (i0 _ _ _ _ _) c3 la lb (by show a.recs.length + b.recs.length ≤ 4096; omega) c5⟩
  | some s =>
    have jo : JoinOk a.recs b.recs s.end.out s.end.ta s.end.tb := ⟨la, lb, by omega, s, c5, rfl, rfl, rfl⟩
    obtain ⟨jf, ja, jb, na, nb, nn⟩ := jo_all jo
    generalize s.end.out = out at *
    generalize s.end.ta = ta at *
    generalize s.end.tb = tb at *
    have l1 := tab_len pa
    have l2 := tab_len pb
    have l3 := con_len ca
    have l4 := con_len cb
    have pi : PbIn a.prods b.prods ta tb := ⟨by omega, by omega, by omega, by omega, ha.po, hb.po⟩
    have ci : CbIn a.cons b.cons ta tb := ⟨by omega, by omega, ha.co, hb.co, by omega, by omega⟩
    by_cases c6 : P.bothE a.prods b.prods ta tb = 0
    rotate_left
    · have c6 : P.bothE a.prods b.prods ta tb = 153 := by
        unfold P.bothE at c6 ⊢
        rw [pa, pb] at c6 ⊢
        simp only [Bool.and_self, Bool.not_true, Bool.false_eq_true, if_false] at c6 ⊢
        split at c6
        · rw [if_pos (by assumption)]
        · exact absurd rfl c6
      exact .inr ⟨153, by decide, m6_c ⟨a, b, out, ta, tb, [], []⟩ (i0 _ _ _ _ _) c3 jo pi c6⟩
    by_cases c7 : bothE a.cons b.cons ta tb = 0
    rotate_left
    · have c7 : bothE a.cons b.cons ta tb = 143 := by
        have q1 : ¬ ta.length = 0 := by omega
        have q2 : ¬ tb.length = 0 := by omega
        unfold bothE at c7 ⊢
        rw [ca, cb] at c7 ⊢
        simp only [q1, q2, decide_false, Bool.or_false, Bool.not_true, Bool.false_eq_true, if_false] at c7 ⊢
        split at c7
        · rw [if_pos (by assumption)]
        · exact absurd rfl c7
      exact .inr ⟨143, by decide, m7_c ⟨a, b, out, ta, tb, P.bothL a.prods b.prods ta tb, []⟩ (i0 _ _ _ _ _) c3 jo pi c6 rfl ci c7⟩
    have lp : (P.bothL a.prods b.prods ta tb).length ≤ 256 := by
      unfold P.bothE at c6
      rw [pa, pb] at c6
      simp only [Bool.and_self, Bool.not_true, Bool.false_eq_true, if_false] at c6
      split at c6
      · cases c6
      · rename_i h; simp at h; omega
    have lc : (conB a.cons b.cons ta tb).length ≤ 64 := by
      have q1 : ¬ ta.length = 0 := by omega
      have q2 : ¬ tb.length = 0 := by omega
      unfold bothE at c7
      rw [ca, cb] at c7
      simp only [q1, q2, decide_false, Bool.or_false, Bool.not_true, Bool.false_eq_true, if_false] at c7
      split at c7
      · cases c7
      · rename_i h
        simp only [decide_eq_true_eq] at h
        show (boU a.cons b.cons ta tb (a.cons ++ b.cons).length).length ≤ 64
        omega
    have po := both_off (n := (out.length : Nat)) ja jb (by omega) (fun x hx => (ha.po x hx).1) (fun x hx => (hb.po x hx).1)
    let x : Mrg := ⟨a, b, out, ta, tb, P.bothL a.prods b.prods ta tb, conB a.cons b.cons ta tb⟩
    have oi : PartIn x.m := ⟨by show out.length ≤ _; omega, by show (P.bothL a.prods b.prods ta tb).length ≤ _; omega, by show (conB a.cons b.cons ta tb).length ≤ _; omega, fun k hk => (po _ (by have hk : k < (P.bothL a.prods b.prods ta tb).length := hk; show (P.bothL a.prods b.prods ta tb).getD k default ∈ _; simp [hk])).1⟩
    by_cases c8 : partOk x.m = true
    · exact .inl ⟨x, rfl, rfl, ⟨i0 _ _ _ _ _, c3, jo, pi, c6, rfl, ci, c7, rfl, oi, c8⟩⟩
    · exact .inr ⟨172, by decide, m8_c x (i0 _ _ _ _ _) c3 jo pi c6 rfl ci c7 rfl oi (by simpa using c8)⟩
end Go.Proofs.YtckklclehofddaaGreatDoor.D

/-! Lineage: the law Keeps: the conditions. -/
namespace Go.Proofs.YtckklclehofddaaGreatDoor.D
open Go.Ax
set_option maxRecDepth 1000000
noncomputable def moC (x : Mrg) (a b : Part) : Ctr Tryz.prog := ⟨12, [.agg (encPt true a), .agg (encPt true b)], [], .need (x.a = a ∧ x.b = b ∧ MrgOk x) (mrO x), T.Sat.need fun h => by obtain ⟨rfl, rfl, h⟩ := h; exact m9_c x h⟩
structure MrgEr (a b : Part) (e : Int) : Prop where
  n : e ≠ 0
  c : (mrE e).Sat (ACall' Tryz.prog 12 [.agg (encPt true a), .agg (encPt true b)] [])
noncomputable def meC (e : Int) (a b : Part) : Ctr Tryz.prog := ⟨12, [.agg (encPt true a), .agg (encPt true b)], [], .need (MrgEr a b e) (.ret (.tup [.agg (encPt true default), .y (.int .i64 e)], [], [])), T.Sat.need fun h => ret_as (r := .tup [.agg (encPt true default), .s (.int .i64 e)]) (fun _ _ _ h => h) h.c⟩
structure Kps where
  p : Part
  k : ByteArray
  q : Part
  A : Part
  B : Part
  x : Mrg
  e : Int
  f : Int
noncomputable def kpsK (us um : Ctr Tryz.prog) (x : Kps) : HintsT Tryz.prog := hh _ noLp (cs1 5 1 0 livC (cs1 5 2 2 us (cs1 5 4 1 (pkC 0 true x.A) (cs1 5 4 5 (pkC 0 true x.B)
  (cs1 5 6 4 (wiC true true x.A.recs x.p.recs) (cs1 5 7 4 (wiC true true x.B.recs x.p.recs) (cs1 5 10 2 um
  (cs1 5 12 4 (wiC true true x.p.recs x.x.out) (cs1 5 13 4 (wiC true true x.q.recs x.x.out) (cs1 5 14 1 (pkC 0 true x.x.m) noCs)))))))))) noOp
def vcK11 (x : Kps) : Prop :=
  True ∧ True ∧ ((x.p.rng.lo = x.p.rng.lo ∧ x.p.rng.hi = x.p.rng.hi ∧ x.p.epoch = x.p.epoch ∧ x.p.frozen = x.p.frozen ∧ (true = true ∧ List.length x.p.recs = List.length x.p.recs ∧ contLe (List.length x.p.recs) (5 : Nat) (cellsOf' encR x.p.recs) (cellsOf' encR x.p.recs)) ∧ (true = true ∧ List.length x.p.prods = List.length x.p.prods ∧ contLe (List.length x.p.prods) (4 : Nat) (cellsOf' P.encP x.p.prods) (cellsOf' P.encP x.p.prods)) ∧ (true = true ∧ List.length x.p.cons = List.length x.p.cons ∧ contLe (List.length x.p.cons) (2 : Nat) (cellsOf' encC x.p.cons) (cellsOf' encC x.p.cons)) ∧ True) ∧ x.k = x.k ∧ True) ∧ True ∧ SplOk x.p x.k x.A x.B ∧ ((x.A.rng.lo = x.A.rng.lo ∧ x.A.rng.hi = x.A.rng.hi ∧ x.A.epoch = x.A.epoch ∧ x.A.frozen = x.A.frozen ∧ (true = true ∧ List.length x.A.recs = List.length x.A.recs ∧ contLe (List.length x.A.recs) (5 : Nat) (cellsOf' encR x.A.recs) (cellsOf' encR x.A.recs)) ∧ (true = true ∧ List.length x.A.prods = List.length x.A.prods ∧ contLe (List.length x.A.prods) (4 : Nat) (cellsOf' P.encP x.A.prods) (cellsOf' P.encP x.A.prods)) ∧ (true = true ∧ List.length x.A.cons = List.length x.A.cons ∧ contLe (List.length x.A.cons) (2 : Nat) (cellsOf' encC x.A.cons) (cellsOf' encC x.A.cons)) ∧ True) ∧ True) ∧ True ∧ (PartIn x.A ∧ (partOk x.A = true ∧ (0 : Int) = (0 : Int) ∨ partOk x.A = false ∧ (0 : Int) = (165 : Int))) ∧ ((x.B.rng.lo = x.B.rng.lo ∧ x.B.rng.hi = x.B.rng.hi ∧ x.B.epoch = x.B.epoch ∧ x.B.frozen = x.B.frozen ∧ (true = true ∧ List.length x.B.recs = List.length x.B.recs ∧ contLe (List.length x.B.recs) (5 : Nat) (cellsOf' encR x.B.recs) (cellsOf' encR x.B.recs)) ∧ (true = true ∧ List.length x.B.prods = List.length x.B.prods ∧ contLe (List.length x.B.prods) (4 : Nat) (cellsOf' P.encP x.B.prods) (cellsOf' P.encP x.B.prods)) ∧ (true = true ∧ List.length x.B.cons = List.length x.B.cons ∧ contLe (List.length x.B.cons) (2 : Nat) (cellsOf' encC x.B.cons) (cellsOf' encC x.B.cons)) ∧ True) ∧ True) ∧ True ∧ (PartIn x.B ∧ (partOk x.B = true ∧ (0 : Int) = (0 : Int) ∨ partOk x.B = false ∧ (0 : Int) = (165 : Int))) ∧ ((IntKind.wrap IntKind.i64 ((↑(List.length x.A.recs) : Int) + (↑(List.length x.B.recs) : Int)) != (↑(List.length x.p.recs) : Int)) = true → false = true ∧ True) ∧ ((IntKind.wrap IntKind.i64 ((↑(List.length x.A.recs) : Int) + (↑(List.length x.B.recs) : Int)) != (↑(List.length x.p.recs) : Int)) = false → ((true = true ∧ List.length x.A.recs = List.length x.A.recs ∧ contLe (List.length x.A.recs) (5 : Nat) (cellsOf' encR x.A.recs) (cellsOf' encR x.A.recs)) ∧ (true = true ∧ List.length x.p.recs = List.length x.p.recs ∧ contLe (List.length x.p.recs) (5 : Nat) (cellsOf' encR x.p.recs) (cellsOf' encR x.p.recs)) ∧ True) ∧ True ∧ (List.length x.p.recs ≤ (9223372036854775806 : Nat) ∧ List.length x.A.recs ≤ (9223372036854775806 : Nat) ∧ List.Sublist (List.map strip x.A.recs) (List.map strip x.p.recs)) ∧ ((true = true ∧ List.length x.B.recs = List.length x.B.recs ∧ contLe (List.length x.B.recs) (5 : Nat) (cellsOf' encR x.B.recs) (cellsOf' encR x.B.recs)) ∧ (true = true ∧ List.length x.p.recs = List.length x.p.recs ∧ contLe (List.length x.p.recs) (5 : Nat) (cellsOf' encR x.p.recs) (cellsOf' encR x.p.recs)) ∧ True) ∧ True ∧ (List.length x.p.recs ≤ (9223372036854775806 : Nat) ∧ List.length x.B.recs ≤ (9223372036854775806 : Nat) ∧ List.Sublist (List.map strip x.B.recs) (List.map strip x.p.recs)) ∧ (false = true → false = true ∧ True) ∧ (false = false → (false = true → false = true ∧ True) ∧ (false = false → ((x.A.frozen != (0 : Int)) = true → false = true ∧ True) ∧ ((x.A.frozen != (0 : Int)) = false → ((x.B.frozen != (0 : Int)) = true → false = true ∧ True) ∧ ((x.B.frozen != (0 : Int)) = false → (decide (x.A.epoch ≤ x.p.epoch) = true → false = true ∧ True) ∧ (decide (x.A.epoch ≤ x.p.epoch) = false → (decide (x.B.epoch ≤ x.p.epoch) = true → false = true ∧ True) ∧ (decide (x.B.epoch ≤ x.p.epoch) = false → ((x.p.rng.lo = x.p.rng.lo ∧ x.p.rng.hi = x.p.rng.hi ∧ x.p.epoch = x.p.epoch ∧ x.p.frozen = x.p.frozen ∧ (true = true ∧ List.length x.p.recs = List.length x.p.recs ∧ contLe (List.length x.p.recs) (5 : Nat) (cellsOf' encR x.p.recs) (cellsOf' encR x.p.recs)) ∧ (true = true ∧ List.length x.p.prods = List.length x.p.prods ∧ contLe (List.length x.p.prods) (4 : Nat) (cellsOf' P.encP x.p.prods) (cellsOf' P.encP x.p.prods)) ∧ (true = true ∧ List.length x.p.cons = List.length x.p.cons ∧ contLe (List.length x.p.cons) (2 : Nat) (cellsOf' encC x.p.cons) (cellsOf' encC x.p.cons)) ∧ True) ∧ (x.q.rng.lo = x.q.rng.lo ∧ x.q.rng.hi = x.q.rng.hi ∧ x.q.epoch = x.q.epoch ∧ x.q.frozen = x.q.frozen ∧ (true = true ∧ List.length x.q.recs = List.length x.q.recs ∧ contLe (List.length x.q.recs) (5 : Nat) (cellsOf' encR x.q.recs) (cellsOf' encR x.q.recs)) ∧ (true = true ∧ List.length x.q.prods = List.length x.q.prods ∧ contLe (List.length x.q.prods) (4 : Nat) (cellsOf' P.encP x.q.prods) (cellsOf' P.encP x.q.prods)) ∧ (true = true ∧ List.length x.q.cons = List.length x.q.cons ∧ contLe (List.length x.q.cons) (2 : Nat) (cellsOf' encC x.q.cons) (cellsOf' encC x.q.cons)) ∧ True) ∧ True) ∧ True ∧ (x.x.a = x.p ∧ x.x.b = x.q ∧ MrgOk x.x) ∧ ((true = true ∧ List.length x.p.recs = List.length x.p.recs ∧ contLe (List.length x.p.recs) (5 : Nat) (cellsOf' encR x.p.recs) (cellsOf' encR x.p.recs)) ∧ (true = true ∧ List.length x.x.out = List.length x.x.out ∧ contLe (List.length x.x.out) (5 : Nat) (cellsOf' encR x.x.out) (cellsOf' encR x.x.out)) ∧ True) ∧ True ∧ (List.length x.x.out ≤ (9223372036854775806 : Nat) ∧ List.length x.p.recs ≤ (9223372036854775806 : Nat) ∧ List.Sublist (List.map strip x.p.recs) (List.map strip x.x.out)) ∧ ((true = true ∧ List.length x.q.recs = List.length x.q.recs ∧ contLe (List.length x.q.recs) (5 : Nat) (cellsOf' encR x.q.recs) (cellsOf' encR x.q.recs)) ∧ (true = true ∧ List.length x.x.out = List.length x.x.out ∧ contLe (List.length x.x.out) (5 : Nat) (cellsOf' encR x.x.out) (cellsOf' encR x.x.out)) ∧ True) ∧ True ∧ (List.length x.x.out ≤ (9223372036854775806 : Nat) ∧ List.length x.q.recs ≤ (9223372036854775806 : Nat) ∧ List.Sublist (List.map strip x.q.recs) (List.map strip x.x.out)) ∧ ((x.x.a.rng.lo = x.x.a.rng.lo ∧ x.x.b.rng.hi = x.x.b.rng.hi ∧ Mrg.ep x.x = Mrg.ep x.x ∧ (0 : Int) = (0 : Int) ∧ (true = true ∧ List.length x.x.out = List.length x.x.out ∧ contLe (List.length x.x.out) (5 : Nat) (cellsOf' encR x.x.out) (cellsOf' encR x.x.out)) ∧ (true = true ∧ List.length x.x.ps = List.length x.x.ps ∧ contLe (List.length x.x.ps) (4 : Nat) (cellsOf' P.encP x.x.ps) (cellsOf' P.encP x.x.ps)) ∧ (true = true ∧ List.length x.x.cs = List.length x.x.cs ∧ contLe (List.length x.x.cs) (2 : Nat) (cellsOf' encC x.x.cs) (cellsOf' encC x.x.cs)) ∧ True) ∧ True) ∧ True ∧ (PartIn (Mrg.m x.x) ∧ (partOk (Mrg.m x.x) = true ∧ (0 : Int) = (0 : Int) ∨ partOk (Mrg.m x.x) = false ∧ (0 : Int) = (165 : Int))) ∧ (((↑(List.length x.x.out) : Int) != IntKind.wrap IntKind.i64 ((↑(List.length x.p.recs) : Int) + (↑(List.length x.q.recs) : Int))) = true → false = true ∧ True) ∧ (((↑(List.length x.x.out) : Int) != IntKind.wrap IntKind.i64 ((↑(List.length x.p.recs) : Int) + (↑(List.length x.q.recs) : Int))) = false → (false = true → false = true ∧ True) ∧ (false = false → (false = true → false = true ∧ True) ∧ (false = false → (decide (Mrg.ep x.x ≤ x.p.epoch) = true → false = true ∧ True) ∧ (decide (Mrg.ep x.x ≤ x.p.epoch) = false → (decide (Mrg.ep x.x ≤ x.q.epoch) = true → false = true ∧ True) ∧ (decide (Mrg.ep x.x ≤ x.q.epoch) = false → true = true ∧ True))))))))))))
set_option maxRecDepth 1000000 in
theorem vcK11_eq (x : Kps) : (ctrVC Tryz.prog (kpsK (okC x.p x.k x.A x.B) (moC x.x x.p x.q) x) 5 [.agg (encPt true x.p), .y (.string x.k), .agg (encPt true x.q)] [] (boolR true)) = vcK11 x := by kernel_rfl
def vcK10 (x : Kps) : Prop :=
  True ∧ True ∧ ((x.p.rng.lo = x.p.rng.lo ∧ x.p.rng.hi = x.p.rng.hi ∧ x.p.epoch = x.p.epoch ∧ x.p.frozen = x.p.frozen ∧ (true = true ∧ List.length x.p.recs = List.length x.p.recs ∧ contLe (List.length x.p.recs) (5 : Nat) (cellsOf' encR x.p.recs) (cellsOf' encR x.p.recs)) ∧ (true = true ∧ List.length x.p.prods = List.length x.p.prods ∧ contLe (List.length x.p.prods) (4 : Nat) (cellsOf' P.encP x.p.prods) (cellsOf' P.encP x.p.prods)) ∧ (true = true ∧ List.length x.p.cons = List.length x.p.cons ∧ contLe (List.length x.p.cons) (2 : Nat) (cellsOf' encC x.p.cons) (cellsOf' encC x.p.cons)) ∧ True) ∧ x.k = x.k ∧ True) ∧ True ∧ SplOk x.p x.k x.A x.B ∧ ((x.A.rng.lo = x.A.rng.lo ∧ x.A.rng.hi = x.A.rng.hi ∧ x.A.epoch = x.A.epoch ∧ x.A.frozen = x.A.frozen ∧ (true = true ∧ List.length x.A.recs = List.length x.A.recs ∧ contLe (List.length x.A.recs) (5 : Nat) (cellsOf' encR x.A.recs) (cellsOf' encR x.A.recs)) ∧ (true = true ∧ List.length x.A.prods = List.length x.A.prods ∧ contLe (List.length x.A.prods) (4 : Nat) (cellsOf' P.encP x.A.prods) (cellsOf' P.encP x.A.prods)) ∧ (true = true ∧ List.length x.A.cons = List.length x.A.cons ∧ contLe (List.length x.A.cons) (2 : Nat) (cellsOf' encC x.A.cons) (cellsOf' encC x.A.cons)) ∧ True) ∧ True) ∧ True ∧ (PartIn x.A ∧ (partOk x.A = true ∧ (0 : Int) = (0 : Int) ∨ partOk x.A = false ∧ (0 : Int) = (165 : Int))) ∧ ((x.B.rng.lo = x.B.rng.lo ∧ x.B.rng.hi = x.B.rng.hi ∧ x.B.epoch = x.B.epoch ∧ x.B.frozen = x.B.frozen ∧ (true = true ∧ List.length x.B.recs = List.length x.B.recs ∧ contLe (List.length x.B.recs) (5 : Nat) (cellsOf' encR x.B.recs) (cellsOf' encR x.B.recs)) ∧ (true = true ∧ List.length x.B.prods = List.length x.B.prods ∧ contLe (List.length x.B.prods) (4 : Nat) (cellsOf' P.encP x.B.prods) (cellsOf' P.encP x.B.prods)) ∧ (true = true ∧ List.length x.B.cons = List.length x.B.cons ∧ contLe (List.length x.B.cons) (2 : Nat) (cellsOf' encC x.B.cons) (cellsOf' encC x.B.cons)) ∧ True) ∧ True) ∧ True ∧ (PartIn x.B ∧ (partOk x.B = true ∧ (0 : Int) = (0 : Int) ∨ partOk x.B = false ∧ (0 : Int) = (165 : Int))) ∧ ((IntKind.wrap IntKind.i64 ((↑(List.length x.A.recs) : Int) + (↑(List.length x.B.recs) : Int)) != (↑(List.length x.p.recs) : Int)) = true → false = true ∧ True) ∧ ((IntKind.wrap IntKind.i64 ((↑(List.length x.A.recs) : Int) + (↑(List.length x.B.recs) : Int)) != (↑(List.length x.p.recs) : Int)) = false → ((true = true ∧ List.length x.A.recs = List.length x.A.recs ∧ contLe (List.length x.A.recs) (5 : Nat) (cellsOf' encR x.A.recs) (cellsOf' encR x.A.recs)) ∧ (true = true ∧ List.length x.p.recs = List.length x.p.recs ∧ contLe (List.length x.p.recs) (5 : Nat) (cellsOf' encR x.p.recs) (cellsOf' encR x.p.recs)) ∧ True) ∧ True ∧ (List.length x.p.recs ≤ (9223372036854775806 : Nat) ∧ List.length x.A.recs ≤ (9223372036854775806 : Nat) ∧ List.Sublist (List.map strip x.A.recs) (List.map strip x.p.recs)) ∧ ((true = true ∧ List.length x.B.recs = List.length x.B.recs ∧ contLe (List.length x.B.recs) (5 : Nat) (cellsOf' encR x.B.recs) (cellsOf' encR x.B.recs)) ∧ (true = true ∧ List.length x.p.recs = List.length x.p.recs ∧ contLe (List.length x.p.recs) (5 : Nat) (cellsOf' encR x.p.recs) (cellsOf' encR x.p.recs)) ∧ True) ∧ True ∧ (List.length x.p.recs ≤ (9223372036854775806 : Nat) ∧ List.length x.B.recs ≤ (9223372036854775806 : Nat) ∧ List.Sublist (List.map strip x.B.recs) (List.map strip x.p.recs)) ∧ (false = true → false = true ∧ True) ∧ (false = false → (false = true → false = true ∧ True) ∧ (false = false → ((x.A.frozen != (0 : Int)) = true → false = true ∧ True) ∧ ((x.A.frozen != (0 : Int)) = false → ((x.B.frozen != (0 : Int)) = true → false = true ∧ True) ∧ ((x.B.frozen != (0 : Int)) = false → (decide (x.A.epoch ≤ x.p.epoch) = true → false = true ∧ True) ∧ (decide (x.A.epoch ≤ x.p.epoch) = false → (decide (x.B.epoch ≤ x.p.epoch) = true → false = true ∧ True) ∧ (decide (x.B.epoch ≤ x.p.epoch) = false → ((x.p.rng.lo = x.p.rng.lo ∧ x.p.rng.hi = x.p.rng.hi ∧ x.p.epoch = x.p.epoch ∧ x.p.frozen = x.p.frozen ∧ (true = true ∧ List.length x.p.recs = List.length x.p.recs ∧ contLe (List.length x.p.recs) (5 : Nat) (cellsOf' encR x.p.recs) (cellsOf' encR x.p.recs)) ∧ (true = true ∧ List.length x.p.prods = List.length x.p.prods ∧ contLe (List.length x.p.prods) (4 : Nat) (cellsOf' P.encP x.p.prods) (cellsOf' P.encP x.p.prods)) ∧ (true = true ∧ List.length x.p.cons = List.length x.p.cons ∧ contLe (List.length x.p.cons) (2 : Nat) (cellsOf' encC x.p.cons) (cellsOf' encC x.p.cons)) ∧ True) ∧ (x.q.rng.lo = x.q.rng.lo ∧ x.q.rng.hi = x.q.rng.hi ∧ x.q.epoch = x.q.epoch ∧ x.q.frozen = x.q.frozen ∧ (true = true ∧ List.length x.q.recs = List.length x.q.recs ∧ contLe (List.length x.q.recs) (5 : Nat) (cellsOf' encR x.q.recs) (cellsOf' encR x.q.recs)) ∧ (true = true ∧ List.length x.q.prods = List.length x.q.prods ∧ contLe (List.length x.q.prods) (4 : Nat) (cellsOf' P.encP x.q.prods) (cellsOf' P.encP x.q.prods)) ∧ (true = true ∧ List.length x.q.cons = List.length x.q.cons ∧ contLe (List.length x.q.cons) (2 : Nat) (cellsOf' encC x.q.cons) (cellsOf' encC x.q.cons)) ∧ True) ∧ True) ∧ True ∧ MrgEr x.p x.q x.f ∧ ((x.f == (0 : Int)) = true → ((true = true ∧ List.length x.p.recs = List.length x.p.recs ∧ contLe (List.length x.p.recs) (5 : Nat) (cellsOf' encR x.p.recs) (cellsOf' encR x.p.recs)) ∧ (true = true ∧ (0 : Nat) = List.length x.x.out ∧ contLe (0 : Nat) (5 : Nat) (cellsOf' encR []) (cellsOf' encR x.x.out)) ∧ True) ∧ True ∧ (List.length x.x.out ≤ (9223372036854775806 : Nat) ∧ List.length x.p.recs ≤ (9223372036854775806 : Nat) ∧ List.Sublist (List.map strip x.p.recs) (List.map strip x.x.out)) ∧ ((true = true ∧ List.length x.q.recs = List.length x.q.recs ∧ contLe (List.length x.q.recs) (5 : Nat) (cellsOf' encR x.q.recs) (cellsOf' encR x.q.recs)) ∧ (true = true ∧ (0 : Nat) = List.length x.x.out ∧ contLe (0 : Nat) (5 : Nat) (cellsOf' encR []) (cellsOf' encR x.x.out)) ∧ True) ∧ True ∧ (List.length x.x.out ≤ (9223372036854775806 : Nat) ∧ List.length x.q.recs ≤ (9223372036854775806 : Nat) ∧ List.Sublist (List.map strip x.q.recs) (List.map strip x.x.out)) ∧ ((ByteArray.empty = x.x.a.rng.lo ∧ ByteArray.empty = x.x.b.rng.hi ∧ (0 : Int) = Mrg.ep x.x ∧ (0 : Int) = (0 : Int) ∧ (true = true ∧ (0 : Nat) = List.length x.x.out ∧ contLe (0 : Nat) (5 : Nat) (cellsOf' encR []) (cellsOf' encR x.x.out)) ∧ (true = true ∧ (0 : Nat) = List.length x.x.ps ∧ contLe (0 : Nat) (4 : Nat) (cellsOf' P.encP []) (cellsOf' P.encP x.x.ps)) ∧ (true = true ∧ (0 : Nat) = List.length x.x.cs ∧ contLe (0 : Nat) (2 : Nat) (cellsOf' encC []) (cellsOf' encC x.x.cs)) ∧ True) ∧ True) ∧ True ∧ (PartIn (Mrg.m x.x) ∧ (partOk (Mrg.m x.x) = true ∧ (0 : Int) = (0 : Int) ∨ partOk (Mrg.m x.x) = false ∧ (0 : Int) = (165 : Int))) ∧ (((0 : Int) != IntKind.wrap IntKind.i64 ((↑(List.length x.p.recs) : Int) + (↑(List.length x.q.recs) : Int))) = true → false = true ∧ True) ∧ (((0 : Int) != IntKind.wrap IntKind.i64 ((↑(List.length x.p.recs) : Int) + (↑(List.length x.q.recs) : Int))) = false → (false = true → false = true ∧ True) ∧ (false = false → (false = true → false = true ∧ True) ∧ (false = false → (decide ((0 : Int) ≤ x.p.epoch) = true → false = true ∧ True) ∧ (decide ((0 : Int) ≤ x.p.epoch) = false → (decide ((0 : Int) ≤ x.q.epoch) = true → false = true ∧ True) ∧ (decide ((0 : Int) ≤ x.q.epoch) = false → true = true ∧ True)))))) ∧ ((x.f == (0 : Int)) = false → true = true ∧ True))))))))
set_option maxRecDepth 1000000 in
theorem vcK10_eq (x : Kps) : (ctrVC Tryz.prog (kpsK (okC x.p x.k x.A x.B) (meC x.f x.p x.q) x) 5 [.agg (encPt true x.p), .y (.string x.k), .agg (encPt true x.q)] [] (boolR true)) = vcK10 x := by kernel_rfl
def vcK01 (x : Kps) : Prop :=
  True ∧ True ∧ ((x.p.rng.lo = x.p.rng.lo ∧ x.p.rng.hi = x.p.rng.hi ∧ x.p.epoch = x.p.epoch ∧ x.p.frozen = x.p.frozen ∧ (true = true ∧ List.length x.p.recs = List.length x.p.recs ∧ contLe (List.length x.p.recs) (5 : Nat) (cellsOf' encR x.p.recs) (cellsOf' encR x.p.recs)) ∧ (true = true ∧ List.length x.p.prods = List.length x.p.prods ∧ contLe (List.length x.p.prods) (4 : Nat) (cellsOf' P.encP x.p.prods) (cellsOf' P.encP x.p.prods)) ∧ (true = true ∧ List.length x.p.cons = List.length x.p.cons ∧ contLe (List.length x.p.cons) (2 : Nat) (cellsOf' encC x.p.cons) (cellsOf' encC x.p.cons)) ∧ True) ∧ x.k = x.k ∧ True) ∧ True ∧ SplEr x.p x.k x.e ∧ ((x.e == (0 : Int)) = true → ((ByteArray.empty = x.A.rng.lo ∧ ByteArray.empty = x.A.rng.hi ∧ (0 : Int) = x.A.epoch ∧ (0 : Int) = x.A.frozen ∧ (true = true ∧ (0 : Nat) = List.length x.A.recs ∧ contLe (0 : Nat) (5 : Nat) (cellsOf' encR []) (cellsOf' encR x.A.recs)) ∧ (true = true ∧ (0 : Nat) = List.length x.A.prods ∧ contLe (0 : Nat) (4 : Nat) (cellsOf' P.encP []) (cellsOf' P.encP x.A.prods)) ∧ (true = true ∧ (0 : Nat) = List.length x.A.cons ∧ contLe (0 : Nat) (2 : Nat) (cellsOf' encC []) (cellsOf' encC x.A.cons)) ∧ True) ∧ True) ∧ True ∧ (PartIn x.A ∧ (partOk x.A = true ∧ (0 : Int) = (0 : Int) ∨ partOk x.A = false ∧ (0 : Int) = (165 : Int))) ∧ ((ByteArray.empty = x.B.rng.lo ∧ ByteArray.empty = x.B.rng.hi ∧ (0 : Int) = x.B.epoch ∧ (0 : Int) = x.B.frozen ∧ (true = true ∧ (0 : Nat) = List.length x.B.recs ∧ contLe (0 : Nat) (5 : Nat) (cellsOf' encR []) (cellsOf' encR x.B.recs)) ∧ (true = true ∧ (0 : Nat) = List.length x.B.prods ∧ contLe (0 : Nat) (4 : Nat) (cellsOf' P.encP []) (cellsOf' P.encP x.B.prods)) ∧ (true = true ∧ (0 : Nat) = List.length x.B.cons ∧ contLe (0 : Nat) (2 : Nat) (cellsOf' encC []) (cellsOf' encC x.B.cons)) ∧ True) ∧ True) ∧ True ∧ (PartIn x.B ∧ (partOk x.B = true ∧ (0 : Int) = (0 : Int) ∨ partOk x.B = false ∧ (0 : Int) = (165 : Int))) ∧ (((0 : Int) != (↑(List.length x.p.recs) : Int)) = true → false = true ∧ True) ∧ (((0 : Int) != (↑(List.length x.p.recs) : Int)) = false → ((true = true ∧ (0 : Nat) = List.length x.A.recs ∧ contLe (0 : Nat) (5 : Nat) (cellsOf' encR []) (cellsOf' encR x.A.recs)) ∧ (true = true ∧ List.length x.p.recs = List.length x.p.recs ∧ contLe (List.length x.p.recs) (5 : Nat) (cellsOf' encR x.p.recs) (cellsOf' encR x.p.recs)) ∧ True) ∧ True ∧ (List.length x.p.recs ≤ (9223372036854775806 : Nat) ∧ List.length x.A.recs ≤ (9223372036854775806 : Nat) ∧ List.Sublist (List.map strip x.A.recs) (List.map strip x.p.recs)) ∧ ((true = true ∧ (0 : Nat) = List.length x.B.recs ∧ contLe (0 : Nat) (5 : Nat) (cellsOf' encR []) (cellsOf' encR x.B.recs)) ∧ (true = true ∧ List.length x.p.recs = List.length x.p.recs ∧ contLe (List.length x.p.recs) (5 : Nat) (cellsOf' encR x.p.recs) (cellsOf' encR x.p.recs)) ∧ True) ∧ True ∧ (List.length x.p.recs ≤ (9223372036854775806 : Nat) ∧ List.length x.B.recs ≤ (9223372036854775806 : Nat) ∧ List.Sublist (List.map strip x.B.recs) (List.map strip x.p.recs)) ∧ (false = true → false = true ∧ True) ∧ (false = false → (false = true → false = true ∧ True) ∧ (false = false → (false = true → false = true ∧ True) ∧ (false = false → (false = true → false = true ∧ True) ∧ (false = false → (decide ((0 : Int) ≤ x.p.epoch) = true → false = true ∧ True) ∧ (decide ((0 : Int) ≤ x.p.epoch) = false → (decide ((0 : Int) ≤ x.p.epoch) = true → false = true ∧ True) ∧ (decide ((0 : Int) ≤ x.p.epoch) = false → ((x.p.rng.lo = x.p.rng.lo ∧ x.p.rng.hi = x.p.rng.hi ∧ x.p.epoch = x.p.epoch ∧ x.p.frozen = x.p.frozen ∧ (true = true ∧ List.length x.p.recs = List.length x.p.recs ∧ contLe (List.length x.p.recs) (5 : Nat) (cellsOf' encR x.p.recs) (cellsOf' encR x.p.recs)) ∧ (true = true ∧ List.length x.p.prods = List.length x.p.prods ∧ contLe (List.length x.p.prods) (4 : Nat) (cellsOf' P.encP x.p.prods) (cellsOf' P.encP x.p.prods)) ∧ (true = true ∧ List.length x.p.cons = List.length x.p.cons ∧ contLe (List.length x.p.cons) (2 : Nat) (cellsOf' encC x.p.cons) (cellsOf' encC x.p.cons)) ∧ True) ∧ (x.q.rng.lo = x.q.rng.lo ∧ x.q.rng.hi = x.q.rng.hi ∧ x.q.epoch = x.q.epoch ∧ x.q.frozen = x.q.frozen ∧ (true = true ∧ List.length x.q.recs = List.length x.q.recs ∧ contLe (List.length x.q.recs) (5 : Nat) (cellsOf' encR x.q.recs) (cellsOf' encR x.q.recs)) ∧ (true = true ∧ List.length x.q.prods = List.length x.q.prods ∧ contLe (List.length x.q.prods) (4 : Nat) (cellsOf' P.encP x.q.prods) (cellsOf' P.encP x.q.prods)) ∧ (true = true ∧ List.length x.q.cons = List.length x.q.cons ∧ contLe (List.length x.q.cons) (2 : Nat) (cellsOf' encC x.q.cons) (cellsOf' encC x.q.cons)) ∧ True) ∧ True) ∧ True ∧ (x.x.a = x.p ∧ x.x.b = x.q ∧ MrgOk x.x) ∧ ((true = true ∧ List.length x.p.recs = List.length x.p.recs ∧ contLe (List.length x.p.recs) (5 : Nat) (cellsOf' encR x.p.recs) (cellsOf' encR x.p.recs)) ∧ (true = true ∧ List.length x.x.out = List.length x.x.out ∧ contLe (List.length x.x.out) (5 : Nat) (cellsOf' encR x.x.out) (cellsOf' encR x.x.out)) ∧ True) ∧ True ∧ (List.length x.x.out ≤ (9223372036854775806 : Nat) ∧ List.length x.p.recs ≤ (9223372036854775806 : Nat) ∧ List.Sublist (List.map strip x.p.recs) (List.map strip x.x.out)) ∧ ((true = true ∧ List.length x.q.recs = List.length x.q.recs ∧ contLe (List.length x.q.recs) (5 : Nat) (cellsOf' encR x.q.recs) (cellsOf' encR x.q.recs)) ∧ (true = true ∧ List.length x.x.out = List.length x.x.out ∧ contLe (List.length x.x.out) (5 : Nat) (cellsOf' encR x.x.out) (cellsOf' encR x.x.out)) ∧ True) ∧ True ∧ (List.length x.x.out ≤ (9223372036854775806 : Nat) ∧ List.length x.q.recs ≤ (9223372036854775806 : Nat) ∧ List.Sublist (List.map strip x.q.recs) (List.map strip x.x.out)) ∧ ((x.x.a.rng.lo = x.x.a.rng.lo ∧ x.x.b.rng.hi = x.x.b.rng.hi ∧ Mrg.ep x.x = Mrg.ep x.x ∧ (0 : Int) = (0 : Int) ∧ (true = true ∧ List.length x.x.out = List.length x.x.out ∧ contLe (List.length x.x.out) (5 : Nat) (cellsOf' encR x.x.out) (cellsOf' encR x.x.out)) ∧ (true = true ∧ List.length x.x.ps = List.length x.x.ps ∧ contLe (List.length x.x.ps) (4 : Nat) (cellsOf' P.encP x.x.ps) (cellsOf' P.encP x.x.ps)) ∧ (true = true ∧ List.length x.x.cs = List.length x.x.cs ∧ contLe (List.length x.x.cs) (2 : Nat) (cellsOf' encC x.x.cs) (cellsOf' encC x.x.cs)) ∧ True) ∧ True) ∧ True ∧ (PartIn (Mrg.m x.x) ∧ (partOk (Mrg.m x.x) = true ∧ (0 : Int) = (0 : Int) ∨ partOk (Mrg.m x.x) = false ∧ (0 : Int) = (165 : Int))) ∧ (((↑(List.length x.x.out) : Int) != IntKind.wrap IntKind.i64 ((↑(List.length x.p.recs) : Int) + (↑(List.length x.q.recs) : Int))) = true → false = true ∧ True) ∧ (((↑(List.length x.x.out) : Int) != IntKind.wrap IntKind.i64 ((↑(List.length x.p.recs) : Int) + (↑(List.length x.q.recs) : Int))) = false → (false = true → false = true ∧ True) ∧ (false = false → (false = true → false = true ∧ True) ∧ (false = false → (decide (Mrg.ep x.x ≤ x.p.epoch) = true → false = true ∧ True) ∧ (decide (Mrg.ep x.x ≤ x.p.epoch) = false → (decide (Mrg.ep x.x ≤ x.q.epoch) = true → false = true ∧ True) ∧ (decide (Mrg.ep x.x ≤ x.q.epoch) = false → true = true ∧ True))))))))))))) ∧ ((x.e == (0 : Int)) = false → ((x.p.rng.lo = x.p.rng.lo ∧ x.p.rng.hi = x.p.rng.hi ∧ x.p.epoch = x.p.epoch ∧ x.p.frozen = x.p.frozen ∧ (true = true ∧ List.length x.p.recs = List.length x.p.recs ∧ contLe (List.length x.p.recs) (5 : Nat) (cellsOf' encR x.p.recs) (cellsOf' encR x.p.recs)) ∧ (true = true ∧ List.length x.p.prods = List.length x.p.prods ∧ contLe (List.length x.p.prods) (4 : Nat) (cellsOf' P.encP x.p.prods) (cellsOf' P.encP x.p.prods)) ∧ (true = true ∧ List.length x.p.cons = List.length x.p.cons ∧ contLe (List.length x.p.cons) (2 : Nat) (cellsOf' encC x.p.cons) (cellsOf' encC x.p.cons)) ∧ True) ∧ (x.q.rng.lo = x.q.rng.lo ∧ x.q.rng.hi = x.q.rng.hi ∧ x.q.epoch = x.q.epoch ∧ x.q.frozen = x.q.frozen ∧ (true = true ∧ List.length x.q.recs = List.length x.q.recs ∧ contLe (List.length x.q.recs) (5 : Nat) (cellsOf' encR x.q.recs) (cellsOf' encR x.q.recs)) ∧ (true = true ∧ List.length x.q.prods = List.length x.q.prods ∧ contLe (List.length x.q.prods) (4 : Nat) (cellsOf' P.encP x.q.prods) (cellsOf' P.encP x.q.prods)) ∧ (true = true ∧ List.length x.q.cons = List.length x.q.cons ∧ contLe (List.length x.q.cons) (2 : Nat) (cellsOf' encC x.q.cons) (cellsOf' encC x.q.cons)) ∧ True) ∧ True) ∧ True ∧ (x.x.a = x.p ∧ x.x.b = x.q ∧ MrgOk x.x) ∧ ((true = true ∧ List.length x.p.recs = List.length x.p.recs ∧ contLe (List.length x.p.recs) (5 : Nat) (cellsOf' encR x.p.recs) (cellsOf' encR x.p.recs)) ∧ (true = true ∧ List.length x.x.out = List.length x.x.out ∧ contLe (List.length x.x.out) (5 : Nat) (cellsOf' encR x.x.out) (cellsOf' encR x.x.out)) ∧ True) ∧ True ∧ (List.length x.x.out ≤ (9223372036854775806 : Nat) ∧ List.length x.p.recs ≤ (9223372036854775806 : Nat) ∧ List.Sublist (List.map strip x.p.recs) (List.map strip x.x.out)) ∧ ((true = true ∧ List.length x.q.recs = List.length x.q.recs ∧ contLe (List.length x.q.recs) (5 : Nat) (cellsOf' encR x.q.recs) (cellsOf' encR x.q.recs)) ∧ (true = true ∧ List.length x.x.out = List.length x.x.out ∧ contLe (List.length x.x.out) (5 : Nat) (cellsOf' encR x.x.out) (cellsOf' encR x.x.out)) ∧ True) ∧ True ∧ (List.length x.x.out ≤ (9223372036854775806 : Nat) ∧ List.length x.q.recs ≤ (9223372036854775806 : Nat) ∧ List.Sublist (List.map strip x.q.recs) (List.map strip x.x.out)) ∧ ((x.x.a.rng.lo = x.x.a.rng.lo ∧ x.x.b.rng.hi = x.x.b.rng.hi ∧ Mrg.ep x.x = Mrg.ep x.x ∧ (0 : Int) = (0 : Int) ∧ (true = true ∧ List.length x.x.out = List.length x.x.out ∧ contLe (List.length x.x.out) (5 : Nat) (cellsOf' encR x.x.out) (cellsOf' encR x.x.out)) ∧ (true = true ∧ List.length x.x.ps = List.length x.x.ps ∧ contLe (List.length x.x.ps) (4 : Nat) (cellsOf' P.encP x.x.ps) (cellsOf' P.encP x.x.ps)) ∧ (true = true ∧ List.length x.x.cs = List.length x.x.cs ∧ contLe (List.length x.x.cs) (2 : Nat) (cellsOf' encC x.x.cs) (cellsOf' encC x.x.cs)) ∧ True) ∧ True) ∧ True ∧ (PartIn (Mrg.m x.x) ∧ (partOk (Mrg.m x.x) = true ∧ (0 : Int) = (0 : Int) ∨ partOk (Mrg.m x.x) = false ∧ (0 : Int) = (165 : Int))) ∧ (((↑(List.length x.x.out) : Int) != IntKind.wrap IntKind.i64 ((↑(List.length x.p.recs) : Int) + (↑(List.length x.q.recs) : Int))) = true → false = true ∧ True) ∧ (((↑(List.length x.x.out) : Int) != IntKind.wrap IntKind.i64 ((↑(List.length x.p.recs) : Int) + (↑(List.length x.q.recs) : Int))) = false → (false = true → false = true ∧ True) ∧ (false = false → (false = true → false = true ∧ True) ∧ (false = false → (decide (Mrg.ep x.x ≤ x.p.epoch) = true → false = true ∧ True) ∧ (decide (Mrg.ep x.x ≤ x.p.epoch) = false → (decide (Mrg.ep x.x ≤ x.q.epoch) = true → false = true ∧ True) ∧ (decide (Mrg.ep x.x ≤ x.q.epoch) = false → true = true ∧ True))))))
set_option maxRecDepth 1000000 in
theorem vcK01_eq (x : Kps) : (ctrVC Tryz.prog (kpsK (erC x.p x.k x.e) (moC x.x x.p x.q) x) 5 [.agg (encPt true x.p), .y (.string x.k), .agg (encPt true x.q)] [] (boolR true)) = vcK01 x := by kernel_rfl
def vcK00 (x : Kps) : Prop :=
  True ∧ True ∧ ((x.p.rng.lo = x.p.rng.lo ∧ x.p.rng.hi = x.p.rng.hi ∧ x.p.epoch = x.p.epoch ∧ x.p.frozen = x.p.frozen ∧ (true = true ∧ List.length x.p.recs = List.length x.p.recs ∧ contLe (List.length x.p.recs) (5 : Nat) (cellsOf' encR x.p.recs) (cellsOf' encR x.p.recs)) ∧ (true = true ∧ List.length x.p.prods = List.length x.p.prods ∧ contLe (List.length x.p.prods) (4 : Nat) (cellsOf' P.encP x.p.prods) (cellsOf' P.encP x.p.prods)) ∧ (true = true ∧ List.length x.p.cons = List.length x.p.cons ∧ contLe (List.length x.p.cons) (2 : Nat) (cellsOf' encC x.p.cons) (cellsOf' encC x.p.cons)) ∧ True) ∧ x.k = x.k ∧ True) ∧ True ∧ SplEr x.p x.k x.e ∧ ((x.e == (0 : Int)) = true → ((ByteArray.empty = x.A.rng.lo ∧ ByteArray.empty = x.A.rng.hi ∧ (0 : Int) = x.A.epoch ∧ (0 : Int) = x.A.frozen ∧ (true = true ∧ (0 : Nat) = List.length x.A.recs ∧ contLe (0 : Nat) (5 : Nat) (cellsOf' encR []) (cellsOf' encR x.A.recs)) ∧ (true = true ∧ (0 : Nat) = List.length x.A.prods ∧ contLe (0 : Nat) (4 : Nat) (cellsOf' P.encP []) (cellsOf' P.encP x.A.prods)) ∧ (true = true ∧ (0 : Nat) = List.length x.A.cons ∧ contLe (0 : Nat) (2 : Nat) (cellsOf' encC []) (cellsOf' encC x.A.cons)) ∧ True) ∧ True) ∧ True ∧ (PartIn x.A ∧ (partOk x.A = true ∧ (0 : Int) = (0 : Int) ∨ partOk x.A = false ∧ (0 : Int) = (165 : Int))) ∧ ((ByteArray.empty = x.B.rng.lo ∧ ByteArray.empty = x.B.rng.hi ∧ (0 : Int) = x.B.epoch ∧ (0 : Int) = x.B.frozen ∧ (true = true ∧ (0 : Nat) = List.length x.B.recs ∧ contLe (0 : Nat) (5 : Nat) (cellsOf' encR []) (cellsOf' encR x.B.recs)) ∧ (true = true ∧ (0 : Nat) = List.length x.B.prods ∧ contLe (0 : Nat) (4 : Nat) (cellsOf' P.encP []) (cellsOf' P.encP x.B.prods)) ∧ (true = true ∧ (0 : Nat) = List.length x.B.cons ∧ contLe (0 : Nat) (2 : Nat) (cellsOf' encC []) (cellsOf' encC x.B.cons)) ∧ True) ∧ True) ∧ True ∧ (PartIn x.B ∧ (partOk x.B = true ∧ (0 : Int) = (0 : Int) ∨ partOk x.B = false ∧ (0 : Int) = (165 : Int))) ∧ (((0 : Int) != (↑(List.length x.p.recs) : Int)) = true → false = true ∧ True) ∧ (((0 : Int) != (↑(List.length x.p.recs) : Int)) = false → ((true = true ∧ (0 : Nat) = List.length x.A.recs ∧ contLe (0 : Nat) (5 : Nat) (cellsOf' encR []) (cellsOf' encR x.A.recs)) ∧ (true = true ∧ List.length x.p.recs = List.length x.p.recs ∧ contLe (List.length x.p.recs) (5 : Nat) (cellsOf' encR x.p.recs) (cellsOf' encR x.p.recs)) ∧ True) ∧ True ∧ (List.length x.p.recs ≤ (9223372036854775806 : Nat) ∧ List.length x.A.recs ≤ (9223372036854775806 : Nat) ∧ List.Sublist (List.map strip x.A.recs) (List.map strip x.p.recs)) ∧ ((true = true ∧ (0 : Nat) = List.length x.B.recs ∧ contLe (0 : Nat) (5 : Nat) (cellsOf' encR []) (cellsOf' encR x.B.recs)) ∧ (true = true ∧ List.length x.p.recs = List.length x.p.recs ∧ contLe (List.length x.p.recs) (5 : Nat) (cellsOf' encR x.p.recs) (cellsOf' encR x.p.recs)) ∧ True) ∧ True ∧ (List.length x.p.recs ≤ (9223372036854775806 : Nat) ∧ List.length x.B.recs ≤ (9223372036854775806 : Nat) ∧ List.Sublist (List.map strip x.B.recs) (List.map strip x.p.recs)) ∧ (false = true → false = true ∧ True) ∧ (false = false → (false = true → false = true ∧ True) ∧ (false = false → (false = true → false = true ∧ True) ∧ (false = false → (false = true → false = true ∧ True) ∧ (false = false → (decide ((0 : Int) ≤ x.p.epoch) = true → false = true ∧ True) ∧ (decide ((0 : Int) ≤ x.p.epoch) = false → (decide ((0 : Int) ≤ x.p.epoch) = true → false = true ∧ True) ∧ (decide ((0 : Int) ≤ x.p.epoch) = false → ((x.p.rng.lo = x.p.rng.lo ∧ x.p.rng.hi = x.p.rng.hi ∧ x.p.epoch = x.p.epoch ∧ x.p.frozen = x.p.frozen ∧ (true = true ∧ List.length x.p.recs = List.length x.p.recs ∧ contLe (List.length x.p.recs) (5 : Nat) (cellsOf' encR x.p.recs) (cellsOf' encR x.p.recs)) ∧ (true = true ∧ List.length x.p.prods = List.length x.p.prods ∧ contLe (List.length x.p.prods) (4 : Nat) (cellsOf' P.encP x.p.prods) (cellsOf' P.encP x.p.prods)) ∧ (true = true ∧ List.length x.p.cons = List.length x.p.cons ∧ contLe (List.length x.p.cons) (2 : Nat) (cellsOf' encC x.p.cons) (cellsOf' encC x.p.cons)) ∧ True) ∧ (x.q.rng.lo = x.q.rng.lo ∧ x.q.rng.hi = x.q.rng.hi ∧ x.q.epoch = x.q.epoch ∧ x.q.frozen = x.q.frozen ∧ (true = true ∧ List.length x.q.recs = List.length x.q.recs ∧ contLe (List.length x.q.recs) (5 : Nat) (cellsOf' encR x.q.recs) (cellsOf' encR x.q.recs)) ∧ (true = true ∧ List.length x.q.prods = List.length x.q.prods ∧ contLe (List.length x.q.prods) (4 : Nat) (cellsOf' P.encP x.q.prods) (cellsOf' P.encP x.q.prods)) ∧ (true = true ∧ List.length x.q.cons = List.length x.q.cons ∧ contLe (List.length x.q.cons) (2 : Nat) (cellsOf' encC x.q.cons) (cellsOf' encC x.q.cons)) ∧ True) ∧ True) ∧ True ∧ MrgEr x.p x.q x.f ∧ ((x.f == (0 : Int)) = true → ((true = true ∧ List.length x.p.recs = List.length x.p.recs ∧ contLe (List.length x.p.recs) (5 : Nat) (cellsOf' encR x.p.recs) (cellsOf' encR x.p.recs)) ∧ (true = true ∧ (0 : Nat) = List.length x.x.out ∧ contLe (0 : Nat) (5 : Nat) (cellsOf' encR []) (cellsOf' encR x.x.out)) ∧ True) ∧ True ∧ (List.length x.x.out ≤ (9223372036854775806 : Nat) ∧ List.length x.p.recs ≤ (9223372036854775806 : Nat) ∧ List.Sublist (List.map strip x.p.recs) (List.map strip x.x.out)) ∧ ((true = true ∧ List.length x.q.recs = List.length x.q.recs ∧ contLe (List.length x.q.recs) (5 : Nat) (cellsOf' encR x.q.recs) (cellsOf' encR x.q.recs)) ∧ (true = true ∧ (0 : Nat) = List.length x.x.out ∧ contLe (0 : Nat) (5 : Nat) (cellsOf' encR []) (cellsOf' encR x.x.out)) ∧ True) ∧ True ∧ (List.length x.x.out ≤ (9223372036854775806 : Nat) ∧ List.length x.q.recs ≤ (9223372036854775806 : Nat) ∧ List.Sublist (List.map strip x.q.recs) (List.map strip x.x.out)) ∧ ((ByteArray.empty = x.x.a.rng.lo ∧ ByteArray.empty = x.x.b.rng.hi ∧ (0 : Int) = Mrg.ep x.x ∧ (0 : Int) = (0 : Int) ∧ (true = true ∧ (0 : Nat) = List.length x.x.out ∧ contLe (0 : Nat) (5 : Nat) (cellsOf' encR []) (cellsOf' encR x.x.out)) ∧ (true = true ∧ (0 : Nat) = List.length x.x.ps ∧ contLe (0 : Nat) (4 : Nat) (cellsOf' P.encP []) (cellsOf' P.encP x.x.ps)) ∧ (true = true ∧ (0 : Nat) = List.length x.x.cs ∧ contLe (0 : Nat) (2 : Nat) (cellsOf' encC []) (cellsOf' encC x.x.cs)) ∧ True) ∧ True) ∧ True ∧ (PartIn (Mrg.m x.x) ∧ (partOk (Mrg.m x.x) = true ∧ (0 : Int) = (0 : Int) ∨ partOk (Mrg.m x.x) = false ∧ (0 : Int) = (165 : Int))) ∧ (((0 : Int) != IntKind.wrap IntKind.i64 ((↑(List.length x.p.recs) : Int) + (↑(List.length x.q.recs) : Int))) = true → false = true ∧ True) ∧ (((0 : Int) != IntKind.wrap IntKind.i64 ((↑(List.length x.p.recs) : Int) + (↑(List.length x.q.recs) : Int))) = false → (false = true → false = true ∧ True) ∧ (false = false → (false = true → false = true ∧ True) ∧ (false = false → (decide ((0 : Int) ≤ x.p.epoch) = true → false = true ∧ True) ∧ (decide ((0 : Int) ≤ x.p.epoch) = false → (decide ((0 : Int) ≤ x.q.epoch) = true → false = true ∧ True) ∧ (decide ((0 : Int) ≤ x.q.epoch) = false → true = true ∧ True)))))) ∧ ((x.f == (0 : Int)) = false → true = true ∧ True))))))))) ∧ ((x.e == (0 : Int)) = false → ((x.p.rng.lo = x.p.rng.lo ∧ x.p.rng.hi = x.p.rng.hi ∧ x.p.epoch = x.p.epoch ∧ x.p.frozen = x.p.frozen ∧ (true = true ∧ List.length x.p.recs = List.length x.p.recs ∧ contLe (List.length x.p.recs) (5 : Nat) (cellsOf' encR x.p.recs) (cellsOf' encR x.p.recs)) ∧ (true = true ∧ List.length x.p.prods = List.length x.p.prods ∧ contLe (List.length x.p.prods) (4 : Nat) (cellsOf' P.encP x.p.prods) (cellsOf' P.encP x.p.prods)) ∧ (true = true ∧ List.length x.p.cons = List.length x.p.cons ∧ contLe (List.length x.p.cons) (2 : Nat) (cellsOf' encC x.p.cons) (cellsOf' encC x.p.cons)) ∧ True) ∧ (x.q.rng.lo = x.q.rng.lo ∧ x.q.rng.hi = x.q.rng.hi ∧ x.q.epoch = x.q.epoch ∧ x.q.frozen = x.q.frozen ∧ (true = true ∧ List.length x.q.recs = List.length x.q.recs ∧ contLe (List.length x.q.recs) (5 : Nat) (cellsOf' encR x.q.recs) (cellsOf' encR x.q.recs)) ∧ (true = true ∧ List.length x.q.prods = List.length x.q.prods ∧ contLe (List.length x.q.prods) (4 : Nat) (cellsOf' P.encP x.q.prods) (cellsOf' P.encP x.q.prods)) ∧ (true = true ∧ List.length x.q.cons = List.length x.q.cons ∧ contLe (List.length x.q.cons) (2 : Nat) (cellsOf' encC x.q.cons) (cellsOf' encC x.q.cons)) ∧ True) ∧ True) ∧ True ∧ MrgEr x.p x.q x.f ∧ ((x.f == (0 : Int)) = true → ((true = true ∧ List.length x.p.recs = List.length x.p.recs ∧ contLe (List.length x.p.recs) (5 : Nat) (cellsOf' encR x.p.recs) (cellsOf' encR x.p.recs)) ∧ (true = true ∧ (0 : Nat) = List.length x.x.out ∧ contLe (0 : Nat) (5 : Nat) (cellsOf' encR []) (cellsOf' encR x.x.out)) ∧ True) ∧ True ∧ (List.length x.x.out ≤ (9223372036854775806 : Nat) ∧ List.length x.p.recs ≤ (9223372036854775806 : Nat) ∧ List.Sublist (List.map strip x.p.recs) (List.map strip x.x.out)) ∧ ((true = true ∧ List.length x.q.recs = List.length x.q.recs ∧ contLe (List.length x.q.recs) (5 : Nat) (cellsOf' encR x.q.recs) (cellsOf' encR x.q.recs)) ∧ (true = true ∧ (0 : Nat) = List.length x.x.out ∧ contLe (0 : Nat) (5 : Nat) (cellsOf' encR []) (cellsOf' encR x.x.out)) ∧ True) ∧ True ∧ (List.length x.x.out ≤ (9223372036854775806 : Nat) ∧ List.length x.q.recs ≤ (9223372036854775806 : Nat) ∧ List.Sublist (List.map strip x.q.recs) (List.map strip x.x.out)) ∧ ((ByteArray.empty = x.x.a.rng.lo ∧ ByteArray.empty = x.x.b.rng.hi ∧ (0 : Int) = Mrg.ep x.x ∧ (0 : Int) = (0 : Int) ∧ (true = true ∧ (0 : Nat) = List.length x.x.out ∧ contLe (0 : Nat) (5 : Nat) (cellsOf' encR []) (cellsOf' encR x.x.out)) ∧ (true = true ∧ (0 : Nat) = List.length x.x.ps ∧ contLe (0 : Nat) (4 : Nat) (cellsOf' P.encP []) (cellsOf' P.encP x.x.ps)) ∧ (true = true ∧ (0 : Nat) = List.length x.x.cs ∧ contLe (0 : Nat) (2 : Nat) (cellsOf' encC []) (cellsOf' encC x.x.cs)) ∧ True) ∧ True) ∧ True ∧ (PartIn (Mrg.m x.x) ∧ (partOk (Mrg.m x.x) = true ∧ (0 : Int) = (0 : Int) ∨ partOk (Mrg.m x.x) = false ∧ (0 : Int) = (165 : Int))) ∧ (((0 : Int) != IntKind.wrap IntKind.i64 ((↑(List.length x.p.recs) : Int) + (↑(List.length x.q.recs) : Int))) = true → false = true ∧ True) ∧ (((0 : Int) != IntKind.wrap IntKind.i64 ((↑(List.length x.p.recs) : Int) + (↑(List.length x.q.recs) : Int))) = false → (false = true → false = true ∧ True) ∧ (false = false → (false = true → false = true ∧ True) ∧ (false = false → (decide ((0 : Int) ≤ x.p.epoch) = true → false = true ∧ True) ∧ (decide ((0 : Int) ≤ x.p.epoch) = false → (decide ((0 : Int) ≤ x.q.epoch) = true → false = true ∧ True) ∧ (decide ((0 : Int) ≤ x.q.epoch) = false → true = true ∧ True)))))) ∧ ((x.f == (0 : Int)) = false → true = true ∧ True))
set_option maxRecDepth 1000000 in
theorem vcK00_eq (x : Kps) : (ctrVC Tryz.prog (kpsK (erC x.p x.k x.e) (meC x.f x.p x.q) x) 5 [.agg (encPt true x.p), .y (.string x.k), .agg (encPt true x.q)] [] (boolR true)) = vcK00 x := by kernel_rfl
end Go.Proofs.YtckklclehofddaaGreatDoor.D

/-! Lineage: the law Keeps. -/
namespace Go.Proofs.YtckklclehofddaaGreatDoor.D
open Go.Ax
set_option maxRecDepth 1000000
def PartE (p : Part) : Prop := 0 ≤ p.epoch ∧ p.epoch < 18446744073709551616
theorem ep_up {e : Int} (h : 0 ≤ e ∧ e < 18446744073709551616) (hw : IntKind.u64.wrap (e + 1) ≠ 0) : IntKind.u64.wrap (e + 1) = e + 1 := by
  rcases Int.lt_or_le (e + 1) 18446744073709551616 with h1 | h1
  · exact wrap_u64 (by omega) (by omega)
  · have : e + 1 = 18446744073709551616 := by omega
    rw [this] at hw
    exact absurd (by decide) hw
theorem part_emb (r : Rng) (l : List Rec) : emb (outOf r l) l := by
  unfold emb
  rw [out_eq, ren_strip]
  exact List.filter_sublist.map _
theorem filter_two {α : Type} {f g : α → Bool} : ∀ {l : List α}, (∀ x ∈ l, g x = !f x) → (l.filter f).length + (l.filter g).length = l.length
  | [], _ => rfl
  | x :: l, h => by
    have h1 := filter_two (l := l) fun y hy => h y (List.mem_cons_of_mem _ hy)
    have h2 := h x List.mem_cons_self
    rw [List.filter_cons, List.filter_cons, h2]
    cases f x <;> simp <;> omega
theorem side_has {p : Rng} {k x : ByteArray} (hs : splE p k = 0) (h : hasK p x = true) : hasK (rHigh p k) x = !hasK (rLow p k) x := by
  have c1 := low_chk hs
  have c2 := high_chk hs
  obtain ⟨_, s2, s3, s4⟩ := spl_ok hs
  obtain ⟨_, h2, h3, h4⟩ := has_iff.1 h
  have hne : k.data.toList ≠ [] := by
    obtain ⟨_, _, m1, _⟩ := has_iff.1 s4
    rcases m1 with m1 | m1
    · exact lt_nil m1
    · exact absurd m1.symm s3
  cases hl : hasK (rLow p k) x
  · have h5 : lt x k = false := by
      cases h6 : lt x k
      · rfl
      · rw [has_iff.2 ⟨c1, h2, h3, .inr h6⟩] at hl; cases hl
    refine has_iff.2 ⟨c2, h2, ?_, h4⟩
    show lt k x = true ∨ k = x
    cases h6 : lt k x
    · exact .inr (lt_tri h6 h5)
    · exact .inl rfl
  · obtain ⟨_, _, _, h5⟩ := has_iff.1 hl
    have h5 : lt x k = true := h5.resolve_left hne
    cases h6 : hasK (rHigh p k) x
    · rfl
    · obtain ⟨_, _, h7, _⟩ := has_iff.1 h6
      have h7 : lt k x = true ∨ k = x := h7
      rcases h7 with h7 | rfl
      · have := lt_trans' h5 h7
        rw [lt_irr] at this; cases this
      · rw [lt_irr] at h5; cases h5
theorem two_len {p : Part} {k : ByteArray} (ho : partOk p = true) (hs : splE p.rng k = 0) : (outOf (rLow p.rng k) p.recs).length + (outOf (rHigh p.rng k) p.recs).length = p.recs.length := by
  obtain ⟨_, _, _, _, _, f, _⟩ := ok_parts ho
  have hf := (or_iff p).1 f
  rw [out_len, out_len]
  exact filter_two fun x hx => side_has hs (hf.1 x hx).1
theorem emb_at {out : List Rec} {t : Nat → Nat} : ∀ {a : List Rec} {s b : Nat}, (∀ k, k < a.length → b ≤ t (s + k) ∧ t (s + k) < out.length ∧ strip (out.getD (t (s + k)) default) = strip (a.getD k default)) → (∀ k, k + 1 < a.length → t (s + k) < t (s + k + 1)) → (a.map strip).Sublist ((out.drop b).map strip)
  | [], _, _, _, _ => List.nil_sublist _
  | x :: a, s, b, h, hu => by
    obtain ⟨h1, h2, h3⟩ := h 0 (by simp)
    rw [Nat.add_zero] at h1 h2 h3
    have ih := emb_at (a := a) (s := s + 1) (b := t s + 1) (fun k hk => by
      obtain ⟨g1, g2, g3⟩ := h (k + 1) (by simp; omega)
      rw [show s + (k + 1) = s + 1 + k by omega] at g1 g2 g3
      refine ⟨?_, g2, by simpa using g3⟩
      have mono : ∀ j, j ≤ k → t s + 1 ≤ t (s + 1 + j) := by
        intro j
        induction j with
        | zero => intro _; have := hu 0 (by simp; omega); simp at this ⊢; omega
        | succ j ih =>
          intro hj
          have := ih (by omega)
          have h5 := hu (j + 1) (by simp; omega)
          rw [show s + (j + 1) = s + 1 + j by omega] at h5
          rw [show s + 1 + (j + 1) = s + 1 + j + 1 by omega]
          omega
      exact mono k (Nat.le_refl _)) (fun k hk => by
      have := hu (k + 1) (by simp; omega)
      rw [show s + (k + 1) = s + 1 + k by omega] at this
      exact this)
    have e : out.drop b = (out.drop b).take (t s - b) ++ out.getD (t s) default :: out.drop (t s + 1) := by
      have e1 := (List.take_append_drop (t s - b) (out.drop b)).symm
      rw [List.drop_drop, show b + (t s - b) = t s by omega, List.drop_eq_getElem_cons h2] at e1
      have e2 : out.getD (t s) default = out[t s] := by simp [h2]
      rw [e2]; exact e1
    rw [e, List.map_append, List.map_cons, List.map_cons, h3]
    exact List.Sublist.trans (List.Sublist.cons_cons _ ih) (List.sublist_append_right _ _)
theorem stn_emb {out a : List Rec} {to : List Int} (h : Stn out a to) : emb a out := by
  have := emb_at (out := out) (t := fun k => (to.getD k 0).toNat) (a := a) (s := 0) (b := 0) (fun k hk => by
    have h1 := h.lo k hk
    have h2 := h.hi k hk
    have h3 := h.eq k hk
    rw [Nat.zero_add]
    refine ⟨Nat.zero_le _, by omega, ?_⟩
    rw [h3]; rfl) (fun k hk => by
    have h1 := h.up k (by omega)
    have h2 := h.lo k (by omega)
    have h3 := h.lo (k + 1) hk
    rw [Nat.zero_add]
    show (to.getD k 0).toNat < (to.getD (k + 1) 0).toNat
    omega)
  simpa [emb] using this
structure KpA (p A B : Part) : Prop where
  a : PartIn A ∧ partOk A = true
  b : PartIn B ∧ partOk B = true
  n : A.recs.length + B.recs.length = p.recs.length
  ea : emb A.recs p.recs
  eb : emb B.recs p.recs
  fa : A.frozen = 0
  fb : B.frozen = 0
  ha : ¬ A.epoch ≤ p.epoch
  hb : ¬ B.epoch ≤ p.epoch
  l : p.recs.length ≤ 4096
theorem kp_split {p : Part} {k : ByteArray} (hp : PartTy p) (he : PartE p) (h : splitE p k = 0) : KpA p (partOf p (rLow p.rng k)) (partOf p (rHigh p.rng k)) := by
  obtain ⟨o1, o2, o3, o4⟩ := split_ok.1 h
  have hl := log_len (ok_parts o1).2.2.1
  have e := ep_up he o2
  refine ⟨⟨(ty_of hp hl _ 0).isIn, part_ok hp o1 (low_chk o4) o2⟩, ⟨(ty_of hp hl _ 0).isIn, part_ok hp o1 (high_chk o4) o2⟩, two_len o1 o4, part_emb _ _, part_emb _ _, rfl, rfl, ?_, ?_, hl⟩
  · show ¬ IntKind.u64.wrap (p.epoch + 1) ≤ _
    rw [e]; omega
  · show ¬ IntKind.u64.wrap (p.epoch + 1) ≤ _
    rw [e]; omega
structure KpM (x : Mrg) : Prop where
  i : PartIn x.m ∧ partOk x.m = true
  n : x.out.length = x.a.recs.length + x.b.recs.length
  ea : emb x.a.recs x.out
  eb : emb x.b.recs x.out
  ha : ¬ x.m.epoch ≤ x.a.epoch
  hb : ¬ x.m.epoch ≤ x.b.epoch
  l : x.out.length ≤ 4096
theorem kp_merge {x : Mrg} (ha : PartE x.a) (hb : PartE x.b) (h : MrgOk x) : KpM x := by
  obtain ⟨j1, _, _, _, _, j6⟩ := jo_all h.jo
  obtain ⟨_, e1⟩ := not_bad h.i.ba
  obtain ⟨_, e2⟩ := not_bad h.i.bb
  have f1 := ep_up ha e1
  have f2 := ep_up hb e2
  have e : x.m.epoch = (if x.b.epoch > x.a.epoch then x.b.epoch else x.a.epoch) + 1 := by
    show IntKind.u64.wrap _ = _
    split
    · exact f2
    · exact f1
  refine ⟨⟨h.oi, h.ok⟩, j6, stn_emb j1.sa, stn_emb j1.sb, ?_, ?_, by have := h.jo.n; omega⟩
  · rw [e]; split <;> omega
  · rw [e]; split <;> omega
theorem keeps_c (p : Part) (k : ByteArray) (q : Part) (hp : PartTy p) (hq : PartTy q) (pe : PartE p) (qe : PartE q) (hk : k.size ≤ 9223372036854775807) :
    (boolR true).Sat (ACall' Tryz.prog 5 [.agg (encPt true p), .y (.string k), .agg (encPt true q)] []) := by
  by_cases h1 : splitE p k = 0
  · have ko : SplOk p k (partOf p (rLow p.rng k)) (partOf p (rHigh p.rng k)) := ⟨hp, hk, h1, rfl, rfl⟩
    obtain ⟨⟨a1, a2⟩, ⟨b1, b2⟩, n, ea, eb, fa, fb, ha, hb, hl⟩ := kp_split hp pe h1
    generalize partOf p (rLow p.rng k) = A at *
    generalize partOf p (rHigh p.rng k) = B at *
    have hw : IntKind.i64.wrap ((A.recs.length : Int) + B.recs.length) = p.recs.length := by rw [wrap_i64 (by omega) (by omega)]; omega
    have l0 : p.recs.length ≤ 9223372036854775806 := by omega
    have l1 : A.recs.length ≤ 9223372036854775806 := by omega
    have l2 : B.recs.length ≤ 9223372036854775806 := by omega
    unfold emb at ea eb
    rcases merge_or p q hp hq with ⟨x, rfl, rfl, hx⟩ | ⟨f, f0, hf⟩
    · obtain ⟨⟨c1, c2⟩, xn, xa, xb, xha, xhb, xl⟩ := kp_merge pe qe hx
      have hq2 : x.b.recs.length ≤ 9223372036854775806 := by omega
      have hw2 : IntKind.i64.wrap ((x.a.recs.length : Int) + x.b.recs.length) = x.out.length := by rw [wrap_i64 (by omega) (by omega)]; omega
      have l3 : x.out.length ≤ 9223372036854775806 := by omega
      refine ctr_vc (ht := _) Tryz.mixed rfl ((vcK11_eq ⟨x.a, k, x.b, A, B, x, 0, 0⟩).mpr ?_)
      unfold vcK11
      dsimp only
      unfold emb at xa xb
      simp [ko, a1, a2, b1, b2, hw, ea, eb, fa, fb, ha, hb, l0, l1, l2, hx, c1, c2, hw2, xa, xb, l3, hq2]
      exact ⟨Int.lt_of_not_ge xha, fun _ => Int.lt_of_not_ge xhb⟩
    · have fr : MrgEr p q f := ⟨f0, hf⟩
      refine ctr_vc (ht := _) Tryz.mixed rfl ((vcK10_eq ⟨p, k, q, A, B, ⟨p, q, [], [], [], [], []⟩, 0, f⟩).mpr ?_)
      unfold vcK10
      dsimp only
      simp [ko, a1, a2, b1, b2, hw, ea, eb, fa, fb, ha, hb, l0, l1, l2, fr, f0]
  · have ke : SplEr p k (splitE p k) := ⟨hp, hk, rfl, h1⟩
    rcases merge_or p q hp hq with ⟨x, rfl, rfl, hx⟩ | ⟨f, f0, hf⟩
    · obtain ⟨⟨c1, c2⟩, xn, xa, xb, xha, xhb, xl⟩ := kp_merge pe qe hx
      have hq1 : x.a.recs.length ≤ 9223372036854775806 := by omega
      have hq2 : x.b.recs.length ≤ 9223372036854775806 := by omega
      have hw2 : IntKind.i64.wrap ((x.a.recs.length : Int) + x.b.recs.length) = x.out.length := by rw [wrap_i64 (by omega) (by omega)]; omega
      have l3 : x.out.length ≤ 9223372036854775806 := by omega
      refine ctr_vc (ht := _) Tryz.mixed rfl ((vcK01_eq ⟨x.a, k, x.b, x.a, x.a, x, splitE x.a k, 0⟩).mpr ?_)
      unfold vcK01
      dsimp only
      unfold emb at xa xb
      simp [ke, h1, hx, c1, c2, hw2, xa, xb, l3, hq1, hq2]
      exact ⟨Int.lt_of_not_ge xha, fun _ => Int.lt_of_not_ge xhb⟩
    · have fr : MrgEr p q f := ⟨f0, hf⟩
      refine ctr_vc (ht := _) Tryz.mixed rfl ((vcK00_eq ⟨p, k, q, p, p, ⟨p, q, [], [], [], [], []⟩, splitE p k, f⟩).mpr ?_)
      unfold vcK00
      dsimp only
      simp [ke, h1, fr, f0]
end Go.Proofs.YtckklclehofddaaGreatDoor.D

/-! From the statements to the laws: the data. -/
namespace Go.Proofs.YtckklclehofddaaGreatDoor
open Go.Ax Go.Shelf Go.RowKit Go.ChangeShapes Go.WideShapes Go.ChangeAt
set_option maxRecDepth 1000000
def toI {K : Type} : DataW K → Int
  | .lit (.int _ a) => a
  | _ => 0
def toS {K : Type} : DataW K → ByteArray
  | .lit (.string l) => ⟨l.toArray⟩
  | _ => ByteArray.empty
def toB {K : Type} : DataW K → Bool
  | .lit (.bool b) => b
  | _ => false
theorem encI_ok {K : Type} {k : IntKind} {d : DataW K} (h : (Sh.int k).wf d) : (Sh.int k).enc d = [.y (.int k (toI d))] := by
  obtain ⟨k', n, rfl, _⟩ := h
  rfl
theorem encS_ok {K : Type} {d : DataW K} (h : Sh.str.wf d) : Sh.str.enc d = [.y (.string (toS d))] := by
  obtain ⟨l, rfl, _⟩ := h
  rfl
theorem encO_ok {K : Type} {d : DataW K} (h : Sh.bool.wf d) : Sh.bool.enc d = [.y (.bool (toB d))] := by
  obtain ⟨l, rfl⟩ := h
  rfl
theorem enc_st {K : Type} (fs : List Sh) (ds : List (DataW K)) : (Sh.st fs).enc (.agg ds) = Sh.encL fs ds := by simp only [Sh.enc]
theorem enc_cons {K : Type} (s : Sh) (r : List Sh) (d : DataW K) (ds : List (DataW K)) : Sh.encL (s :: r) (d :: ds) = s.enc d ++ Sh.encL r ds := by simp only [Sh.encL]
theorem enc_nil {K : Type} (l : List (DataW K)) : Sh.encL [] l = [] := by simp only [Sh.encL]
theorem relA {P : Program} {W : World} {r : Reach} {base : Nat} {t : TypeId} {v : Value} {fs : Array Field} {l : List AV} {H : HH} {E : Env} (hu : P.underlying t = some (.struct fs)) (hv : Value.okWide P W r base t v) (h : RelL l H E v.cells.toList) : Rel (.agg l) H E v := by
  obtain ⟨cs, rfl, _⟩ := okWide_struct hu hv
  exact ⟨cs, rfl, h⟩
theorem str_size {K : Type} {d : DataW K} (h : Sh.str.wf d) : (toS d).size ≤ 9223372036854775807 := by
  obtain ⟨l, rfl, hl⟩ := h
  show l.toArray.size ≤ _
  rw [List.size_toArray]
  exact hl
theorem Tryz.own : ownKnob Tryz.prog.godebug = Option.none := by kernel_rfl
theorem Tryz.laidOut : laidOutB Tryz.prog = true := by kernel_rfl
theorem Tryz.mapsRowed : mapsRowed Tryz.prog = true := by kernel_rfl
theorem Tryz.slicesOk : slicesOk Tryz.prog = true := by kernel_rfl
theorem underBool : Tryz.prog.underlying 4 = some .bool := by kernel_rfl
def structTypes (P : Program) (t : TypeId) : Option (List TypeId) := match P.underlying t with | some (.struct fs) => some (fs.toList.map (·.type)) | _ => Option.none
theorem structTypes_ok {P : Program} {t : TypeId} {l : List TypeId} (h : structTypes P t = some l) : ∃ fs, P.underlying t = some (.struct fs) ∧ fs.toList.map (·.type) = l := by
  unfold structTypes at h
  split at h
  · rename_i fs hu
    exact ⟨fs, hu, Option.some.inj h⟩
  · cases h
end Go.Proofs.YtckklclehofddaaGreatDoor

/-! From the statements to the laws: records, consumers, producers, states. -/
namespace Go.Proofs.YtckklclehofddaaGreatDoor
open Go.Ax Go.Shelf Go.RowKit Go.ChangeShapes Go.WideShapes Go.ChangeAt
set_option maxRecDepth 1000000
def shRec : Sh := .st [.int .u64, .str, .sl (.int .u8), .int .u64, .int .u64]
def toRec {K : Type} : DataW K → Rec
  | .agg [a, b, c, d, e] => ⟨toI a, toS b, listOf toI c, toI d, toI e⟩
  | _ => default
theorem relB {K : Type} {d : DataW K} (hd : (Sh.sl (.int .u8)).wf d) {H : HH} {E : Env} {v : Value} (h : Rel (slAV (.int .u8) d) H E v) : Rel (encBs true (listOf toI d)) H E v := conv_sl (encA := encB) (fun x hx => encI_ok hx) hd h
theorem rec_enc {K : Type} {d : DataW K} (hd : shRec.wf d) : ∃ a b c e f, d = .agg [a, b, c, e, f] ∧ (Sh.sl (.int .u8)).wf c ∧ shRec.enc d = [.y (.int .u64 (toI a)), .y (.string (toS b)), slAV (.int .u8) c, .y (.int .u64 (toI e)), .y (.int .u64 (toI f))] := by
  obtain ⟨ds, rfl, d1, r1, rfl, w1, d2, r2, rfl, w2, d3, r3, rfl, w3, d4, r4, rfl, w4, d5, r5, rfl, w5, rfl⟩ := hd
  refine ⟨d1, d2, d3, d4, d5, rfl, w3, ?_⟩
  simp only [shRec, enc_st, enc_cons, enc_nil, encI_ok w1, encS_ok w2, slAV_eq, encI_ok w4, encI_ok w5]
  rfl
theorem rec_conv {K : Type} {d : DataW K} (hd : shRec.wf d) (j : Nat) (hj : j < 5) (H : HH) (E : Env) (v : Value) (h : Rel (Ax.get (shRec.enc d) j) H E v) : Rel (Ax.get (encR (toRec d)) j) H E v := by
  obtain ⟨a, b, c, e, f, rfl, wc, he⟩ := rec_enc hd
  rw [he] at h
  match j, hj with
  | 0, _ => exact h
  | 1, _ => exact h
  | 2, _ => exact relB wc h
  | 3, _ => exact h
  | 4, _ => exact h
theorem relRs {K : Type} {d : DataW K} (hd : (Sh.sl shRec).wf d) {H : HH} {E : Env} {v : Value} (h : Rel (slAV shRec d) H E v) : Rel (encRs true (listOf toRec d)) H E v :=
  conv_slR (encA := encR) (fun x hx j hj H E v => rec_conv hx j hj H E v) hd h
theorem undRs : Tryz.prog.underlying 26 = some (.slice 37) := by kernel_rfl
theorem bytesR : Tryz.prog.bytesOf 37 = 64 := by kernel_rfl
theorem rs_sized {K : Type} {d : DataW K} (hw : (d.weights Tryz.prog 26).all (· ≤ reachBytes) = true) : (listOf toRec d).length * 64 ≤ 140737488351232 := by
  have := weights_slice toRec undRs hw
  rwa [bytesR] at this
def shCon : Sh := .st [.str, .int .u64]
def toC {K : Type} : DataW K → Con
  | .agg [a, b] => ⟨toS a, toI b⟩
  | _ => default
theorem off_of {K : Type} {d : DataW K} (h : (Sh.int .u64).wf d) : offOk (toI d) := by
  obtain ⟨k, n, rfl, w⟩ := h
  have := bounds_u64 w
  exact ⟨by show 0 ≤ n; omega, by show n < _; omega⟩
theorem toC_ok {K : Type} {d : DataW K} (h : shCon.wf d) : shCon.enc d = encC (toC d) ∧ offOk (toC d).off := by
  obtain ⟨ds, rfl, d1, r1, rfl, w1, d2, r2, rfl, w2, rfl⟩ := h
  refine ⟨?_, off_of w2⟩
  simp only [shCon, enc_st, enc_cons, enc_nil, encS_ok w1, encI_ok w2]
  rfl
theorem wf_cons {K : Type} {d : DataW K} (h : (Sh.sl shCon).wf d) : wfC (listOf toC d) := by
  rcases h with rfl | ⟨xs, r, rfl, hx⟩
  · intro y hy; cases hy
  · intro y hy
    obtain ⟨x, hx', rfl⟩ := List.mem_map.1 hy
    exact (toC_ok (hx x hx')).2
theorem relCs {K : Type} {d : DataW K} (hd : (Sh.sl shCon).wf d) {H : HH} {E : Env} {v : Value} (h : Rel (slAV shCon d) H E v) : Rel (encCs true (listOf toC d)) H E v := conv_sl (fun x hx => (toC_ok hx).1) hd h
theorem undCs : Tryz.prog.underlying 28 = some (.slice 41) := by kernel_rfl
theorem bytesC : Tryz.prog.bytesOf 41 = 24 := by kernel_rfl
def shPro : Sh := .st [.int .u64, .int .u64, .bool, .int .u64]
def toPro {K : Type} : DataW K → P.Producer
  | .agg [a, b, c, e] => ⟨toI a, toI b, toB c, toI e⟩
  | _ => default
theorem toPro_ok {K : Type} {d : DataW K} (h : shPro.wf d) : shPro.enc d = P.encP (toPro d) ∧ offOk (toPro d).offset := by
  obtain ⟨ds, rfl, d1, r1, rfl, w1, d2, r2, rfl, w2, d3, r3, rfl, w3, d4, r4, rfl, w4, rfl⟩ := h
  refine ⟨?_, off_of w4⟩
  simp only [shPro, enc_st, enc_cons, enc_nil, encI_ok w1, encI_ok w2, encO_ok w3, encI_ok w4]
  rfl
theorem wf_prods {K : Type} {d : DataW K} (h : (Sh.sl shPro).wf d) : ∀ x ∈ listOf toPro d, 0 ≤ x.offset ∧ x.offset < 18446744073709551616 := by
  rcases h with rfl | ⟨xs, r, rfl, hx⟩
  · intro y hy; cases hy
  · intro y hy
    obtain ⟨x, hx', rfl⟩ := List.mem_map.1 hy
    exact (toPro_ok (hx x hx')).2
theorem relPs {K : Type} {d : DataW K} (hd : (Sh.sl shPro).wf d) {H : HH} {E : Env} {v : Value} (h : Rel (slAV shPro d) H E v) : Rel (P.encPs true (listOf toPro d)) H E v := conv_sl (fun x hx => (toPro_ok hx).1) hd h
theorem undPs : Tryz.prog.underlying 27 = some (.slice 39) := by kernel_rfl
theorem bytesP : Tryz.prog.bytesOf 39 = 32 := by kernel_rfl
def shRng : Sh := .st [.str, .str]
def toRng {K : Type} : DataW K → Rng
  | .agg [a, b] => ⟨toS a, toS b⟩
  | _ => default
theorem toRng_ok {K : Type} {d : DataW K} (h : shRng.wf d) : shRng.enc d = encG (toRng d) := by
  obtain ⟨ds, rfl, d1, r1, rfl, w1, d2, r2, rfl, w2, rfl⟩ := h
  simp only [shRng, enc_st, enc_cons, enc_nil, encS_ok w1, encS_ok w2]
  rfl
def shPart : Sh := .st [shRng, .int .u64, .int .u64, .sl shRec, .sl shPro, .sl shCon]
def toPart {K : Type} : DataW K → Part
  | .agg [a, b, c, e, f, g] => ⟨toRng a, toI b, toI c, listOf toRec e, listOf toPro f, listOf toC g⟩
  | _ => default
theorem relPart {K : Type} {d : DataW K} (hd : shPart.wf d) {H : HH} {E : Env} {vs : List Value} (h : RelL (shPart.enc d) H E vs) : RelL (encPt true (toPart d)) H E vs := by
  obtain ⟨ds, rfl, d1, r1, rfl, w1, d2, r2, rfl, w2, d3, r3, rfl, w3, d4, r4, rfl, w4, d5, r5, rfl, w5, d6, r6, rfl, w6, rfl⟩ := hd
  have e : shPart.enc (DataW.agg [d1, d2, d3, d4, d5, d6]) = [.y (.string (toRng d1).lo), .y (.string (toRng d1).hi), .y (.int .u64 (toI d2)), .y (.int .u64 (toI d3)), slAV shRec d4, slAV shPro d5, slAV shCon d6] := by
    simp only [shPart, enc_st, enc_cons, enc_nil, slAV_eq, toRng_ok w1, encI_ok w2, encI_ok w3]
    rfl
  rw [e] at h
  obtain ⟨v1, x1, rfl, h1, v2, x2, rfl, h2, v3, x3, rfl, h3, v4, x4, rfl, h4, v5, x5, rfl, h5, v6, x6, rfl, h6, v7, x7, rfl, h7, rfl⟩ := h
  exact ⟨_, _, rfl, h1, _, _, rfl, h2, _, _, rfl, h3, _, _, rfl, h4, _, _, rfl, relRs w4 h5, _, _, rfl, relPs w5 h6, _, _, rfl, relCs w6 h7, rfl⟩
theorem undPart : ∃ fs, Tryz.prog.underlying 30 = some (.struct fs) ∧ fs.toList.map (·.type) = [24, 25, 25, 26, 27, 28] := structTypes_ok (by kernel_rfl)
structure PartSz (p : Part) : Prop where
  rl : p.recs.length * 64 ≤ 140737488351232
  pl : p.prods.length * 32 ≤ 140737488351232
  cl : p.cons.length * 24 ≤ 140737488351232
  po : ∀ x ∈ p.prods, 0 ≤ x.offset ∧ x.offset < 18446744073709551616
  co : wfC p.cons
theorem part_sz {K : Type} {d : DataW K} (hd : shPart.wf d) (hw : (d.weights Tryz.prog 30).all (· ≤ reachBytes) = true) : PartSz (toPart d) := by
  obtain ⟨ds, rfl, d1, r1, rfl, w1, d2, r2, rfl, w2, d3, r3, rfl, w3, d4, r4, rfl, w4, d5, r5, rfl, w5, d6, r6, rfl, w6, rfl⟩ := hd
  obtain ⟨fs, hf, ht⟩ := undPart
  have h := weights_struct hf hw
  rw [ht] at h
  obtain ⟨h1, h⟩ := weights_cons h
  obtain ⟨h2, h⟩ := weights_cons h
  obtain ⟨h3, h⟩ := weights_cons h
  obtain ⟨h4, h⟩ := weights_cons h
  obtain ⟨h5, h⟩ := weights_cons h
  obtain ⟨h6, h⟩ := weights_cons h
  have k5 := weights_slice toPro undPs h5
  have k6 := weights_slice toC undCs h6
  rw [bytesP] at k5
  rw [bytesC] at k6
  exact ⟨rs_sized h4, k5, k6, wf_prods w5, wf_cons w6⟩
end Go.Proofs.YtckklclehofddaaGreatDoor

/-! Lineage: from the statement to LineageKeeps. -/
namespace Go.Proofs.YtckklclehofddaaGreatDoor.D
open Go.Ax Go.Shelf Go.RowKit Go.ChangeShapes Go.WideShapes Go.ChangeAt
set_option maxRecDepth 1000000
theorem ty_sz {p : Part} (h : PartSz p) : PartTy p := by
  obtain ⟨h1, h2, h3, h4, h5⟩ := h
  exact ⟨by omega, by omega, by omega, h4, h5⟩
theorem part_e {K : Type} {d : DataW K} (hd : shPart.wf d) : PartE (toPart d) := by
  obtain ⟨ds, rfl, d1, r1, rfl, w1, d2, r2, rfl, w2, d3, r3, rfl, w3, d4, r4, rfl, w4, d5, r5, rfl, w5, d6, r6, rfl, w6, rfl⟩ := hd
  exact off_of w2
def lineageKeeps_laidL : List (String × DataW Unit) := Rows.lineageKeepsRow.laid
noncomputable def lineageKeeps_layW (os : Os) : World := World.laidAll Tryz.prog os lineageKeeps_laidL
theorem lineageKeeps_lay_met (os : Os) (args : Array Value) : laidMetH Tryz.prog lineageKeeps_laidL ((lineageKeeps_layW os).forCall (fun _ _ => 0) ⟨#[], args, []⟩).memory := by
  have e : ∀ w, laidMetH Tryz.prog lineageKeeps_laidL w = laidMet Tryz.prog lineageKeeps_laidL w := fun w => by kernel_rfl
  rw [e]
  exact laidMet_laidAll args (by kernel_rfl) (by kernel_rfl)
theorem lineageKeeps_lifted (os : Os) (started : os.Started) (K : Type) (enc : TypeId × Value → K) :
    ReturnsInHanded {} Tryz.checked os 5 .any (fun w args => (Rows.lineageKeepsSpec.pre enc Tryz.prog Tryz.f5 [] false w args ∧ laidMetH Tryz.prog lineageKeeps_laidL w) ∧ sizedMet enc Tryz.prog Tryz.f5 (OpenSpec.ofChange Rows.lineageKeepsSpec) false w args)
      (Rows.lineageKeepsSpec.post enc Tryz.prog Tryz.f5 false true false false) := by
  refine returnsInHanded_of_change_and (C := Tryz.checked) (X := fun w _ => laidMetH Tryz.prog lineageKeeps_laidL w) (fun _ _ _ hh h => h.of_heap hh) Tryz.own started (by kernel_rfl) Tryz.func5
    (ChangeSpec.witness_at (enc := enc) (C := Tryz.checked) (os := os) (X := fun w _ => laidMetH Tryz.prog lineageKeeps_laidL w) false (lineageKeeps_layW os) #[.agg #[.string ⟨#[]⟩, .string ⟨#[]⟩, .int .u64 0, .int .u64 0, .slice Option.none 0 0, .slice Option.none 0 0, .slice Option.none 0 0], .string ⟨#[]⟩, .agg #[.string ⟨#[]⟩, .string ⟨#[]⟩, .int .u64 0, .int .u64 0, .slice Option.none 0 0, .slice Option.none 0 0, .slice Option.none 0 0]] 8 rfl (by kernel_rfl) (by kernel_rfl) (by kernel_rfl) (by kernel_rfl) (by kernel_rfl) (lineageKeeps_lay_met os _)) ?_
  intro W base args ds gs before hval0 hW hcnd hsz _ _
  have hps : Tryz.f5.params.toList = [30, 9, 30] := by kernel_rfl
  obtain ⟨p, q, hA, hV, hbef, hfz, hnd⟩ := id hW
  rw [hps] at hA hsz
  have ⟨hr, hwf⟩ := lift_all [shPart, .str, shPart] (by kernel_rfl) hA
  obtain ⟨v1, v2, v3, d1, d2, d3, _, _, _, e1, rfl, _, _, _, _⟩ := trodAll_three hA
  obtain ⟨_, _, g1, w1, _, _, g2, w2, _, _, g3, w3, _⟩ := hwf
  obtain ⟨rfl, q1⟩ := List.cons.inj g1
  subst q1
  obtain ⟨rfl, q2⟩ := List.cons.inj g2
  subst q2
  obtain ⟨rfl, _⟩ := List.cons.inj g3
  subst e1
  obtain ⟨h1, hs1⟩ := weights_cons (P := Tryz.prog) (t := 30) (d := d1) hsz
  obtain ⟨h2, hs2⟩ := weights_cons (P := Tryz.prog) (t := 9) (d := d2) hs1
  obtain ⟨h3, hs3⟩ := weights_cons (P := Tryz.prog) (t := 30) (d := d3) hs2
  have r1 := hr.1
  obtain ⟨fs1, hf1, _⟩ := undPart
  have r1 := relA hf1 (hval0 0 _ _ (by kernel_rfl) rfl) (relPart w1 r1)
  have r2 := hr.2.1
  rw [encS_ok w2] at r2
  obtain ⟨n2, rfl⟩ := okWide_string (show Tryz.prog.underlying 9 = some .string by kernel_rfl) (hval0 1 _ _ (by kernel_rfl) rfl)
  obtain ⟨_, _, er, r2, _⟩ := r2
  cases er
  have r3 := hr.2.2.1
  obtain ⟨fs3, hf3, _⟩ := undPart
  have r3 := relA hf3 (hval0 2 _ _ (by kernel_rfl) rfl) (relPart w3 r3)
  refine open_calls (call_of (keeps_c _ _ _ (ty_sz (part_sz w1 h1)) (ty_sz (part_sz w3 h3)) (part_e w1) (part_e w3) (str_size w2))) (t := 4) (ds := [d1, d2, d3]) ⟨_, _, rfl, r1, _, _, rfl, r2, _, _, rfl, r3, rfl⟩ (by kernel_rfl) underBool rfl rfl Tryz.laidOut Tryz.mapsRowed Tryz.slicesOk (by rw [hps]; intro t ht; simp only [List.mem_cons, List.not_mem_nil, or_false] at ht; rcases ht with rfl | rfl | rfl <;> exact of_decide_eq_true (by kernel_rfl)) hW
theorem lineageKeeps_holds : Rows.LineageKeepsSaid :=
  OpenClaim.holds_of_wide 5 Tryz.f5 rfl rfl rfl rfl rfl rfl rfl ⟨rfl, rfl, rfl, rfl, rfl⟩ rfl rfl rfl rfl rfl (by kernel_rfl) Tryz.func5 (by kernel_rfl)
    (of_decide_eq_true (by kernel_rfl)) (by unfold Func.isWrapper; first | (rw [if_pos (by decide +kernel)]; kernel_rfl) | (rw [if_neg (by decide +kernel)]; exact ⟨rfl, rfl⟩))
    (fun os started H enc _ => lineageKeeps_lifted os started H enc)
theorem lineageKeeps_said : Rows.LineageKeepsCardSaid :=
  Claim7.holds_tied_plain_at .later [] [.data, .pinned] true (true, "2178a0abd1c3215b494c4ba3807e31ca51ad02823946fccec094b9321f61a96a") true
    lineageKeeps_holds (fun _ h => by cases h) (by kernel_rfl) (fun _ h => by cases h) lineageKeeps_row_tie rfl ⟨rfl, rfl⟩ (by kernel_rfl) rfl
    (fun f fn hf hfn => by
      obtain rfl : f = 5 := Option.some.inj ((show Tryz.prog.funcNamed "gazette/gazettelaw17.LineageKeeps" = some 5 by kernel_rfl).symm.trans hf) |>.symm
      obtain rfl : fn = Tryz.f5 := (Option.some.inj (Tryz.func5.symm.trans hfn)).symm
      exact ⟨by kernel_rfl, fun j t ht => by
        rw [show Tryz.f5.params = #[30, 9, 30] by kernel_rfl] at ht
        have h3 : t = 30 ∨ t = 9 ∨ t = 30 := by
          rcases j with _ | _ | _ | j
          · exact Or.inl (by simpa using ht.symm)
          · exact Or.inr (Or.inl (by simpa using ht.symm))
          · exact Or.inr (Or.inr ((by simpa using ht.symm)))
          · simp at ht
        rcases h3 with rfl | rfl | rfl
        · exact (show Tryz.prog.wantsStandIn 30 = false by kernel_rfl)
        · exact (show Tryz.prog.wantsStandIn 9 = false by kernel_rfl)
        · exact (show Tryz.prog.wantsStandIn 30 = false by kernel_rfl)⟩)
    (by kernel_rfl)
end Go.Proofs.YtckklclehofddaaGreatDoor.D
namespace Go.Proofs.YtckklclehofddaaGreatDoor
theorem keeps_said : Rows.LineageKeepsCardSaid := D.lineageKeeps_said
end Go.Proofs.YtckklclehofddaaGreatDoor
