/- PROVED: records stand in their order, each where To says -/
import Derived.Test.YtjmdejbijigfjaaDoorRows
import Derived.Test.YtjmdejbijigfjaaDoorTie
import Derived.Test.YtjmdejbijigfjaaDoorCards
import Derived.OpenShut
import Derived.Lay
import Derived.Handed
import Derived.SevenTiedAt
import Derived.Test.YtjmdejbijigfjaaDoorE8
import Derived.Test.YtjmdejbijigfjaaDoorW3
import Derived.Test.YtjmdejbijigfjaaDoorW4
import Derived.Test.YtjmdejbijigfjaaDoorW7
import Derived.Test.YtjmdejbijigfjaaDoorW8
import Derived.Test.YtjmdejbijigfjaaDoorW9
set_option linter.unusedVariables false
set_option linter.unusedSimpArgs false
/-! Records: the law RecordsOrder: the plain laws. -/
namespace Go.Proofs.YtjmdejbijigfjaaDoor
open Go.Ax
set_option maxRecDepth 1000000
theorem snocR (t : List Rec) (n : Rec) (i : Nat) : (t ++ [n]).getD i default = if i < t.length then t.getD i default else if i = t.length then n else default := by
  split
  · rename_i h1
    rw [List.getD_eq_getElem?_getD, List.getElem?_append_left h1, List.getD_eq_getElem?_getD]
  · rename_i h1
    rw [List.getD_eq_getElem?_getD, List.getElem?_append_right (by omega)]
    split
    · rename_i h2
      rw [h2, Nat.sub_self]; rfl
    · rename_i h2
      rw [List.getElem?_eq_none (by simp; omega)]; rfl
/-! what is kept -/
theorem ke_pre (r : Rng) (l : List Rec) (p : Nat) : ∀ k, p ≤ k → k ≤ l.length → ∀ i, i < (ke r (l.take p)).out.length → (ke r (l.take k)).out.getD i default = (ke r (l.take p)).out.getD i default := by
  intro k
  induction k with
  | zero => intro hp _ i _
            obtain rfl : p = 0 := by omega
            rfl
  | succ k ih =>
    intro hp hk i hi
    rcases Nat.lt_or_ge k p with h1 | h1
    · obtain rfl : p = k + 1 := by omega
      rfl
    · have := ih h1 (by omega) i hi
      have hm := ke_mono r l h1
      rw [ke_step (by omega)]
      unfold Ke.step
      dsimp only
      split
      · rw [snocR, if_pos (by omega)]; exact this
      · exact this
theorem ke_rec (r : Rng) (l : List Rec) {k : Nat} (hk : k < l.length) (hh : hasK r (l.getD k default).key = true) : (ke r l).out.getD (ke r (l.take k)).out.length default = (l.getD k default).to (IntKind.u64.wrap ((ke r (l.take k)).out.length : Nat)) := by
  have h1 := ke_take_len r l hk
  rw [hh] at h1
  simp only [if_true] at h1
  have h2 := ke_pre r l (k + 1) l.length (by omega) (Nat.le_refl _) (ke r (l.take k)).out.length (by omega)
  rw [List.take_length] at h2
  rw [h2, ke_step hk]
  unfold Ke.step
  dsimp only
  rw [if_pos hh, snocR, if_neg (by omega), if_pos rfl]
structure Kok (a : List Rec) (r : Rng) (K : Ke) : Prop where
  n : K.to.length = a.length + 1
  st : ∀ k, k < a.length → K.to.getD (k + 1) 0 = K.to.getD k 0 + (if hasK r (a.getD k default).key then 1 else 0)
  lo : ∀ k, k ≤ a.length → 0 ≤ K.to.getD k 0
  hi : ∀ k, k ≤ a.length → K.to.getD k 0 ≤ K.out.length
  eq : ∀ k, k < a.length → hasK r (a.getD k default).key = true → K.out.getD (K.to.getD k 0).toNat default = (a.getD k default).to (K.to.getD k 0)
  ol : K.out.length ≤ 4096
theorem kok (a : List Rec) (r : Rng) (hl : a.length ≤ 4096) : Kok a r (ke r a).end := by
  obtain ⟨q1, q2⟩ := ke_len' r a
  have hw : ∀ k, k ≤ a.length → (ke r a).end.to.getD k 0 = ((ke r (a.take k)).out.length : Nat) := by
    intro k hk
    have := (ke_len r a k hk).2
    rw [end_to r a k hk, wrap_u64 (by omega) (by omega)]
  have ho : (ke r a).end.out = (ke r a).out := rfl
  refine ⟨by unfold Ke.end; simp [q1], fun k hk => ?_, fun k hk => ?_, fun k hk => ?_, fun k hk hh => ?_, by rw [ho]; omega⟩
  · rw [hw k (by omega), hw (k + 1) (by omega), ke_take_len r a hk]
    split <;> simp
  · rw [hw k hk]; omega
  · rw [hw k hk, ho]
    have := ke_mono r a hk
    rw [List.take_length] at this
    omega
  · have := (ke_len r a k (by omega)).2
    rw [hw k (by omega), Int.toNat_natCast, ho, ke_rec r a hk hh, wrap_u64 (by omega) (by omega)]
/-! two logs as one -/
structure Sd (x0 x : List Rec) (t : List Int) (out : List Rec) : Prop where
  dr : x = x0.drop t.length
  le : t.length ≤ x0.length
  up : ∀ k, k + 1 < t.length → t.getD k 0 < t.getD (k + 1) 0
  lo : ∀ k, k < t.length → 0 ≤ t.getD k 0 ∧ t.getD k 0 < out.length
  eq : ∀ k, k < t.length → out.getD (t.getD k 0).toNat default = (x0.getD k default).to (t.getD k 0)
theorem Sd.other {x0 x : List Rec} {t : List Int} {out : List Rec} (h : Sd x0 x t out) (z : Rec) : Sd x0 x t (out ++ [z]) where
  dr := h.dr
  le := h.le
  up := h.up
  lo := fun k hk => by
    have := h.lo k hk
    have hn : (out ++ [z]).length = out.length + 1 := by simp
    rw [hn]; omega
  eq := fun k hk => by
    have := h.lo k hk
    rw [snocR, if_pos (by omega)]
    exact h.eq k hk
theorem Sd.push {x0 x : List Rec} {t : List Int} {out : List Rec} (h : Sd x0 x t out) (hp : 0 < x.length) : Sd x0 x.tail (t ++ [(out.length : Int)]) (out ++ [(hd x).to (out.length : Int)]) where
  dr := by rw [h.dr]; simp
  le := by
    have := h.dr; rw [this] at hp; simp at hp ⊢; omega
  up := fun k hk => by
    simp at hk
    rw [snoc_at t _ k (by simp; omega), snoc_at t _ (k + 1) (by simp; omega), if_pos (by omega)]
    split
    · rename_i h1; exact h.up k h1
    · exact (h.lo k (by omega)).2
  lo := fun k hk => by
    simp at hk
    rw [snoc_at t _ k (by simp; omega)]
    split
    · rename_i h1
      have := h.lo k h1
      have hn : (out ++ [(hd x).to (out.length : Int)]).length = out.length + 1 := by simp
      rw [hn]; omega
    · have hn : (out ++ [(hd x).to (out.length : Int)]).length = out.length + 1 := by simp
      rw [hn]; omega
  eq := fun k hk => by
    simp at hk
    rw [snoc_at t _ k (by simp; omega)]
    split
    · rename_i h1
      have := h.lo k h1
      rw [snocR, if_pos (by omega)]
      exact h.eq k h1
    · obtain rfl : k = t.length := by omega
      rw [Int.toNat_natCast, snocR, if_neg (by omega), if_pos rfl]
      congr 1
      unfold hd
      rw [h.dr]
      simp
theorem Sd.fin {x0 : List Rec} {t : List Int} {out : List Rec} (h : Sd x0 [] t out) (hl : out.length ≤ 4096) : Stn out x0 (t ++ [(out.length : Int)]) := by
  have hn : t.length = x0.length := by
    have h1 := congrArg List.length h.dr
    have h2 := h.le
    simp at h1; omega
  refine ⟨by simp [hn], fun k hk => ?_, fun k hk => ?_, fun k hk => ?_, fun k hk => ?_, hl⟩
  · rw [snoc_at t _ k (by simp; omega), snoc_at t _ (k + 1) (by simp; omega), if_pos (by omega)]
    split
    · rename_i h1; exact h.up k h1
    · exact (h.lo k (by omega)).2
  · rw [snoc_at t _ k (by simp; omega), if_pos (by omega)]
    exact (h.lo k (by omega)).1
  · rw [snoc_at t _ k (by simp; omega), if_pos (by omega)]
    exact (h.lo k (by omega)).2
  · rw [snoc_at t _ k (by simp; omega), if_pos (by omega)]
    exact h.eq k (by omega)
def rP (x y : Rec) : Prop := x.prod = y.prod → x.seq ≤ y.seq
structure JR2 (a0 b0 : List Rec) (s : Jo) : Prop where
  sa : Sd a0 s.a s.ta s.out
  sb : Sd b0 s.b s.tb s.out
  lg : ∀ k, k < s.out.length → okR (s.out.getD k default) k = true
  ra : a0.Pairwise rP → b0.Pairwise rP → (s.out ++ s.a).Pairwise rP ∧ (s.out ++ s.b).Pairwise rP
theorem log_okj {l : List Rec} (h : isLog l = true) {k : Nat} (hk : k < l.length) : okR (l.getD k default) k = true := by
  unfold isLog at h
  have h1 := ((Bool.and_eq_true _ _).mp h).1
  unfold logFrom at h1
  rw [List.all_eq_true] at h1
  exact h1 k (by simp; omega)
theorem log_of {l : List Rec} (h : ∀ k, k < l.length → okR (l.getD k default) k = true) (hl : l.length ≤ 4096) : isLog l = true := by
  unfold isLog logFrom
  rw [decide_eq_true hl, Bool.and_true, List.all_eq_true]
  intro k hk
  simp at hk
  exact h k hk
theorem okR_to {x : Rec} {k n : Nat} (h : okR x k = true) (hn : n ≤ 4096) : okR (x.to (n : Int)) n = true := by
  unfold okR at h ⊢
  have h2 := ((Bool.and_eq_true _ _).mp h).2
  have e : IntKind.u64.wrap (n : Int) = n := wrap_u64 (by omega) (by omega)
  have e3 : (decide (x.key.size ≤ 32) && decide (x.val.length ≤ 256)) = true := h2
  show (!((n : Int) != IntKind.u64.wrap (n : Int)) && (decide (x.key.size ≤ 32) && decide (x.val.length ≤ 256))) = true
  rw [e, e3]
  simp
theorem low_of {x : Rec} {l : List Rec} (h : lowR l x = false) : ∀ y ∈ l, rP x y := by
  intro y hy hp
  unfold lowR at h
  rw [List.any_eq_false] at h
  have := h y hy
  unfold below at this
  rw [Bool.not_eq_true, Bool.and_eq_false_iff] at this
  rcases this with h1 | h1
  · simp at h1; exact absurd hp.symm h1
  · simp at h1; exact h1
theorem rP_to (x y : Rec) (o : Int) : rP (x.to o) y ↔ rP x y := Iff.rfl
theorem pw_push {out x y : List Rec} {o : Int} (hx : 0 < x.length) (h1 : (out ++ x).Pairwise rP) (h2 : (out ++ y).Pairwise rP) (h3 : ∀ z ∈ y, rP (hd x) z) :
    (out ++ [(hd x).to o] ++ x.tail).Pairwise rP ∧ (out ++ [(hd x).to o] ++ y).Pairwise rP := by
  obtain ⟨u, v, rfl⟩ : ∃ u v, x = u :: v := by
    cases x
    · simp at hx
    · exact ⟨_, _, rfl⟩
  have hu : hd (u :: v) = u := rfl
  rw [hu] at h3 ⊢
  rw [List.pairwise_append, List.pairwise_cons] at h1
  rw [List.pairwise_append] at h2
  obtain ⟨a1, ⟨a2, a3⟩, a4⟩ := h1
  obtain ⟨b1, b2, b3⟩ := h2
  have c : (out ++ [u.to o]).Pairwise rP := by
    rw [List.pairwise_append]
    refine ⟨a1, List.pairwise_singleton _ _, fun p hp q hq => ?_⟩
    obtain rfl := List.mem_singleton.1 hq
    exact a4 p hp u List.mem_cons_self
  refine ⟨?_, ?_⟩
  · rw [List.pairwise_append]
    refine ⟨c, a3, fun p hp q hq => ?_⟩
    rcases List.mem_append.1 hp with hp | hp
    · exact a4 p hp q (List.mem_cons_of_mem _ hq)
    · obtain rfl := List.mem_singleton.1 hp
      exact a2 q hq
  · rw [List.pairwise_append]
    refine ⟨c, b2, fun p hp q hq => ?_⟩
    rcases List.mem_append.1 hp with hp | hp
    · exact b3 p hp q hq
    · obtain rfl := List.mem_singleton.1 hp
      exact h3 q hq
theorem okx {a0 x : List Rec} {t : List Int} {out : List Rec} (h : Sd a0 x t out) (hl : isLog a0 = true) (hx : 0 < x.length) (hn : out.length ≤ 4096) : okR ((hd x).to (out.length : Int)) out.length = true := by
  have hd' : hd x = a0.getD t.length default := by
    unfold hd; rw [h.dr]; simp
  have hlt : t.length < a0.length := by
    have := h.dr; rw [this] at hx; simp at hx; omega
  rw [hd']
  exact okR_to (log_okj hl hlt) hn
theorem lg_push {out : List Rec} {z : Rec} (h : ∀ k, k < out.length → okR (out.getD k default) k = true) (hz : okR z out.length = true) : ∀ k, k < (out ++ [z]).length → okR ((out ++ [z]).getD k default) k = true := by
  intro k hk
  rw [snocR]
  split
  · rename_i h1; exact h k h1
  · obtain rfl : k = out.length := by simp at hk; omega
    rw [if_pos rfl]; exact hz
theorem joinN_jr {a0 b0 : List Rec} (la : isLog a0 = true) (lb : isLog b0 = true) : ∀ (n : Nat) (s s' : Jo), n = s.a.length + s.b.length → n + s.out.length ≤ 4096 → JR2 a0 b0 s → joinN n s = some s' → JR2 a0 b0 s' ∧ s'.a = [] ∧ s'.b = [] ∧ s'.out.length = n + s.out.length
  | 0, s, s', e, _, h, hj => by
    rw [joinN] at hj
    cases hj
    exact ⟨h, List.eq_nil_of_length_eq_zero (by omega), List.eq_nil_of_length_eq_zero (by omega), by omega⟩
  | n + 1, s, s', e, hl, h, hj => by
    have hat : s.at = (s.out.length : Int) := by unfold Jo.at; rw [wrap_u64 (by omega) (by omega)]
    rw [joinN] at hj
    by_cases hA : s.tA = true
    · rw [if_pos hA] at hj
      unfold Jo.tA at hA
      obtain ⟨hA1, hA2⟩ := (Bool.and_eq_true _ _).mp hA
      have hp : 0 < s.a.length := pos_of_ne hA1
      have hlow : lowR s.b (hd s.a) = false := by simpa using hA2
      have g : JR2 a0 b0 s.goA := by
        unfold Jo.goA
        rw [hat]
        refine ⟨h.sa.push hp, h.sb.other _, lg_push h.lg (okx h.sa la hp (by omega)), fun r1 r2 => ?_⟩
        obtain ⟨c1, c2⟩ := h.ra r1 r2
        exact pw_push hp c1 c2 (low_of hlow)
      obtain ⟨d1, d2, d3, d4⟩ := joinN_jr la lb n s.goA s' (by unfold Jo.goA; dsimp only; rw [List.length_tail]; omega) (by unfold Jo.goA; dsimp only; simp; omega) g hj
      refine ⟨d1, d2, d3, ?_⟩
      rw [d4]; unfold Jo.goA; simp; omega
    · rw [if_neg hA] at hj
      by_cases hB : s.tB = true
      · rw [if_pos hB] at hj
        unfold Jo.tB at hB
        obtain ⟨hB1, hB2⟩ := (Bool.and_eq_true _ _).mp hB
        have hp : 0 < s.b.length := pos_of_ne hB1
        have hlow : lowR s.a (hd s.b) = false := by simpa using hB2
        have g : JR2 a0 b0 s.goB := by
          unfold Jo.goB
          rw [hat]
          refine ⟨h.sa.other _, h.sb.push hp, lg_push h.lg (okx h.sb lb hp (by omega)), fun r1 r2 => ?_⟩
          obtain ⟨c1, c2⟩ := h.ra r1 r2
          exact (pw_push hp c2 c1 (low_of hlow)).symm
        obtain ⟨d1, d2, d3, d4⟩ := joinN_jr la lb n s.goB s' (by unfold Jo.goB; dsimp only; rw [List.length_tail]; omega) (by unfold Jo.goB; dsimp only; simp; omega) g hj
        refine ⟨d1, d2, d3, ?_⟩
        rw [d4]; unfold Jo.goB; simp; omega
      · rw [if_neg hB] at hj
        cases hj
structure JF (a b : List Rec) (J : Jo) : Prop where
  sa : Stn J.out a J.ta
  sb : Stn J.out b J.tb
  n : J.out.length = a.length + b.length
  lg : isLog J.out = true
  ra : a.Pairwise rP → b.Pairwise rP → J.out.Pairwise rP
theorem jf_of {a b : List Rec} (h : joOk a b = true) : JF a b ((jo0 a b).run.getD (jo0 a b)).end := by
  unfold joOk at h
  obtain ⟨h1, h2⟩ := (Bool.and_eq_true _ _).mp h
  obtain ⟨la, lb⟩ := (Bool.and_eq_true _ _).mp h1
  obtain ⟨h2, h3⟩ := (Bool.and_eq_true _ _).mp h2
  have hn := of_decide_eq_true h2
  obtain ⟨s, hs⟩ := Option.isSome_iff_exists.1 h3
  rw [hs, Option.getD_some]
  have h0 : JR2 a b (jo0 a b) := by
    refine ⟨⟨by simp [jo0], by simp [jo0], fun k hk => by simp [jo0] at hk, fun k hk => by simp [jo0] at hk, fun k hk => by simp [jo0] at hk⟩, ⟨by simp [jo0], by simp [jo0], fun k hk => by simp [jo0] at hk, fun k hk => by simp [jo0] at hk, fun k hk => by simp [jo0] at hk⟩, fun k hk => by simp [jo0] at hk, fun r1 r2 => ⟨by simpa [jo0] using r1, by simpa [jo0] using r2⟩⟩
  obtain ⟨g, ea, eb, en⟩ := joinN_jr la lb _ (jo0 a b) s rfl (by simp [jo0]; omega) h0 hs
  have en' : s.out.length = a.length + b.length := by rw [en]; simp [jo0]
  have hat : s.at = (s.out.length : Int) := by unfold Jo.at; rw [wrap_u64 (by omega) (by omega)]
  have ga := g.sa
  have gb := g.sb
  rw [ea] at ga
  rw [eb] at gb
  unfold Jo.end
  rw [hat]
  refine ⟨ga.fin (by omega), gb.fin (by omega), en', log_of g.lg (show s.out.length ≤ 4096 by omega), fun r1 r2 => ?_⟩
  have := (g.ra r1 r2).1
  rw [ea, List.append_nil] at this
  exact this
theorem rise_pw (l : List Rec) : isRise l = true ↔ l.Pairwise rP := by
  unfold isRise riFrom
  rw [List.all_eq_true, List.pairwise_iff_getElem]
  constructor
  · intro h i j hi hj hij hp
    have := h j (by simp; omega)
    unfold riIn at this
    rw [List.all_eq_true] at this
    have := this i (by simp; omega)
    unfold riK at this
    simp [hi, hj] at this
    rcases this with h1 | h1
    · exact absurd hp h1
    · exact h1
  · intro h i hi
    simp at hi
    unfold riIn
    rw [List.all_eq_true]
    intro k hk
    simp at hk
    have := h k i (by omega) hi hk
    unfold riK
    have hk' : k < l.length := by omega
    simp [hi, hk']
    by_cases e : l[k].prod = l[i].prod
    · exact Or.inr (this e)
    · exact Or.inl e
end Go.Proofs.YtjmdejbijigfjaaDoor

/-! Records: the law RecordsOrder: the law. -/
namespace Go.Proofs.YtjmdejbijigfjaaDoor
open Go.Ax
set_option maxRecDepth 1000000
theorem or_loop (o : Ord) (g : Kok o.a o.r o.K) (al : o.a.length ≤ 4096) (k : Nat) : LoopOk Tryd.prog 6 6 (loopAt Tryd.prog 6 6) ⟨orT o k, orM o, []⟩ (T.map (lout u2X (orS o)) (.ret ())) := by
  refine loop_vcH (ht := orHL o) (o := fun _ => .ret ()) (stM := fun _ => orM o) Tryd.mixed (fun _ => rfl) (fun k => (vcOrL_eq o k).mpr ?_) k
  unfold vcOrL
  have hn := g.n
  have hol := g.ol
  by_cases h : k < o.a.length
  · have e1 : IntKind.i64.wrap ((k : Int) + 1) = ((k + 1 : Nat) : Int) := by rw [wrap_i64 (by omega) (by omega)]; omega
    have s1 := g.st k h
    have s2 := g.lo k (by omega)
    have s3 := g.hi (k + 1) (by omega)
    have s4 := g.eq k h
    have s5 := g.hi k (by omega)
    have hz : decide ((k : Int) < o.a.length) = true := by simp; omega
    have hz2 : decide ((k : Int) < o.K.to.length) = true := by simp; omega
    have hz3 : decide (k < o.K.to.length) = true := by simp; omega
    have hz4 : decide (k + 1 < o.K.to.length) = true := by simp; omega
    have wk : IntKind.u64.wrap (o.K.out.length : Int) = o.K.out.length := wrap_u64 (by omega) (by omega)
    have n3 : (decide ((0 : Int) ≤ ((k + 1 : Nat) : Int)) && decide (((k + 1 : Nat) : Int) < (o.K.to.length : Int))) = true := by simp; omega
    simp only [e1, hz, hz2, wk, Int.toNat_natCast, Nat.zero_add, hz3, hz4, n3]
    obtain ⟨v, hv⟩ : ∃ v, o.K.to.getD k 0 = v := ⟨_, rfl⟩
    obtain ⟨w, hw⟩ : ∃ w, o.K.to.getD (k + 1) 0 = w := ⟨_, rfl⟩
    simp only [hv, hw] at s1 s2 s3 s4 s5 ⊢
    have w1 : IntKind.i64.wrap v = v := wrap_i64 (by omega) (by omega)
    have w2 : IntKind.i64.wrap (v + 1) = v + 1 := wrap_i64 (by omega) (by omega)
    have w3 : IntKind.u64.wrap (v + 1) = v + 1 := wrap_u64 (by omega) (by omega)
    have d : (v + 1).toNat - v.toNat = 1 := by omega
    simp only [w1, w2, w3, d]
    cases hh : hasK o.r (o.a.getD k default).key
    · rw [hh] at s1
      simp at s1
      subst s1
      have nv : ¬ (w = w + 1) := by omega
      simp [nv]
      exact fun _ => ⟨k + 1, by omega, by omega⟩
    · rw [hh] at s1 s4
      simp at s1
      have s4 := s4 rfl
      subst s1
      have n1 : ¬ ((o.K.out.length : Int) ≤ v) := by omega
      have c1 : contLe 1 5 (Ax.rowAt v.toNat (cellsOf' encR o.K.out)) (cellsOf' encR [(o.a.getD k default).to v]) := by
        intro q hq i hi
        obtain rfl : q = 0 := by omega
        have e : Ax.rowAt v.toNat (cellsOf' encR o.K.out) 0 i = cellsOf' encR [(o.a.getD k default).to v] 0 i := by
          rw [Ax.rowAt_eq, Nat.add_zero]
          show get (encR (o.K.out.getD v.toNat default)) i = _
          rw [s4]
          rfl
        rw [e]
        exact le0_refl _
      simp at c1
      simp [n1]
      exact fun _ => ⟨⟨⟨by omega, by omega⟩, by omega⟩, c1, k + 1, by omega, by omega⟩
  · have hz : decide ((k : Int) < o.a.length) = false := by simp; omega
    simp only [hz]
    simp
theorem tagI (l : List Int) : ∀ k, k < l.length → ∀ j, j < 1 → tagT (cellsOf' encI l k j) = true := fun k _ j hj => by
  obtain rfl : j = 0 := by omega
  rfl
structure Ord.Facts (o : Ord) : Prop where
  la : o.a.length ≤ 4398046511104
  lb : o.b.length ≤ 4398046511104
  hK : o.K = (ke o.r o.a).end
  hJ : o.J = ((jo0 o.a o.b).run.getD (jo0 o.a o.b)).end
theorem or_c (o : Ord) (f : o.Facts) : (boolR true).Sat (ACall' Tryd.prog 6 [encRs true o.a, encRs true o.b, .agg (encG o.r)] []) := by
  have la := f.la
  have lb := f.lb
  have hK := f.hK
  have hJ := f.hJ
  have e1 : IntKind.i64.wrap ((o.a.length : Int) + 1) = (o.a.length : Int) + 1 := wrap_i64 (by omega) (by omega)
  have e2 : IntKind.i64.wrap ((o.b.length : Int) + 1) = (o.b.length : Int) + 1 := wrap_i64 (by omega) (by omega)
  have e3 : IntKind.i64.wrap ((o.a.length : Int) + (o.b.length : Int)) = (o.a.length : Int) + o.b.length := wrap_i64 (by omega) (by omega)
  have jf : joOk o.a o.b = true → JF o.a o.b o.J ∧ o.a.length + o.b.length ≤ 4096 := fun h => by
    have := jf_of h
    rw [← hJ] at this
    refine ⟨this, ?_⟩
    have h2 := this.n
    have h3 := this.sa.jl
    omega
  have n3 : ¬ ((0 : Int) = (o.a.length : Int) + 1) := by omega
  cases hi : (isLog o.a && chkK o.r == 0)
  · cases hj : joOk o.a o.b
    · refine ctr_vc (ht := hh _ noLp (orC false false o) noOp) Tryd.mixed rfl ?_
      rw [vcO00_eq o]
      unfold vcO00
      simp only [e1, e2, e3, hi, hj]
      cases h1 : isLog o.a
      · simp
        repeat' apply And.intro
        all_goals first | omega | assumption
      · have h2 : ¬ chkK o.r = 0 := by rw [h1] at hi; simpa using hi
        simp [h2]
        repeat' apply And.intro
        all_goals first | omega | assumption
    · obtain ⟨g, gn⟩ := jf hj
      have t1 := g.sa.n
      have t2 := g.sb.n
      have t3 := g.n
      have g4 := g.sa
      have g5 := g.sb
      have u1 : (tkU o.a o.J.ta o.a.length).length = o.a.length := by unfold tkU; rw [List.length_take]; omega
      have u2 : (tkU o.b o.J.tb o.b.length).length = o.b.length := by unfold tkU; rw [List.length_take]; omega
      have q1 := tagI (tkU o.a o.J.ta o.a.length)
      have q2 := tagI (tkU o.b o.J.tb o.b.length)
      rw [u1] at q1
      rw [u2] at q2
      have hlj := g.lg
      have hb1 : o.b.length ≤ 9223372036854775806 := by omega
      have hab : o.a.length + o.b.length ≤ 9223372036854775806 := by omega
      have hr : isRise o.a = true → isRise o.b = true → isRise o.J.out = true := fun r1 r2 => (rise_pw _).2 (g.ra ((rise_pw _).1 r1) ((rise_pw _).1 r2))
      refine ctr_vc (ht := hh _ noLp (orC false true o) noOp) Tryd.mixed rfl ?_
      rw [vcO01_eq o]
      unfold vcO01
      simp only [e1, e2, e3, hi, hj, t1, t2, t3, u1, u2, hlj]
      have n4 : ¬ ((o.a.length : Int) + o.b.length = (o.a.length : Int) + o.b.length → False) := fun h => h rfl
      cases h1 : isLog o.a
      · simp
        repeat' apply And.intro
        all_goals first | omega | assumption | (cases r1 : isRise o.a <;> cases r2 : isRise o.b <;> simp [hb1, hab] <;> exact hr r1 r2) | simp_all
      · have h2 : ¬ chkK o.r = 0 := by rw [h1] at hi; simpa using hi
        simp [h2]
        repeat' apply And.intro
        all_goals first | omega | assumption | (cases r1 : isRise o.a <;> cases r2 : isRise o.b <;> simp [hb1, hab] <;> exact hr r1 r2) | simp_all
  · obtain ⟨h1, h2⟩ := (Bool.and_eq_true _ _).mp hi
    have h2' : chkK o.r = 0 := by simpa using h2
    have hln := log_len h1
    have kk := kok o.a o.r hln
    rw [← hK] at kk
    have kt := kk.n
    have lp := or_loop o kk hln 0
    cases hj : joOk o.a o.b
    · refine ctr_vc (ht := hh _ (orJ o) (orC true false o) noOp) Tryd.mixed rfl ?_
      rw [vcO10_eq o]
      unfold vcO10
      simp only [e1, e2, e3, hj, kt, h1, h2, lp]
      simp
      repeat' apply And.intro
      all_goals first | omega | assumption
    · obtain ⟨g, gn⟩ := jf hj
      have t1 := g.sa.n
      have t2 := g.sb.n
      have t3 := g.n
      have g4 := g.sa
      have g5 := g.sb
      have u1 : (tkU o.a o.J.ta o.a.length).length = o.a.length := by unfold tkU; rw [List.length_take]; omega
      have u2 : (tkU o.b o.J.tb o.b.length).length = o.b.length := by unfold tkU; rw [List.length_take]; omega
      have q1 := tagI (tkU o.a o.J.ta o.a.length)
      have q2 := tagI (tkU o.b o.J.tb o.b.length)
      rw [u1] at q1
      rw [u2] at q2
      have hlj := g.lg
      have hb1 : o.b.length ≤ 9223372036854775806 := by omega
      have hab : o.a.length + o.b.length ≤ 9223372036854775806 := by omega
      have hr : isRise o.a = true → isRise o.b = true → isRise o.J.out = true := fun r1 r2 => (rise_pw _).2 (g.ra ((rise_pw _).1 r1) ((rise_pw _).1 r2))
      refine ctr_vc (ht := hh _ (orJ o) (orC true true o) noOp) Tryd.mixed rfl ?_
      rw [vcO11_eq o]
      unfold vcO11
      simp only [e1, e2, e3, hj, kt, h1, h2, lp, t1, t2, t3, u1, u2, hlj]
      simp
      repeat' apply And.intro
      all_goals first | omega | assumption | (cases r1 : isRise o.a <;> cases r2 : isRise o.b <;> simp [hb1, hab] <;> exact hr r1 r2) | simp_all
end Go.Proofs.YtjmdejbijigfjaaDoor

/-! Records: the law RecordsUnread: the proof. -/
namespace Go.Proofs.YtjmdejbijigfjaaDoor
open Go.Ax
set_option maxRecDepth 1000000
theorem u1_loop (o : Unr) (hl : o.a.length ≤ 4611686018427387903) (k : Nat) : LoopOk Tryd.prog 9 14 (loopAt Tryd.prog 9 14) ⟨u1T o k, u1M o, []⟩ (T.map (lout rlX (u1S o)) (.ret ())) := by
  refine loop_vcH (ht := u1H o) (o := fun _ => .ret ()) (stM := fun _ => u1M o) Tryd.mixed (fun _ => rfl) (fun k => (vcU1_eq o k).mpr ?_) k
  unfold vcU1
  by_cases h : k < o.a.length
  · have e1 : IntKind.i64.wrap ((k : Int) + 1) = ((k + 1 : Nat) : Int) := by rw [wrap_i64 (by omega) (by omega)]; omega
    have hs := ke_take_len o.r o.a h
    have hz : decide ((k : Int) < o.a.length) = true := by simp; omega
    have b1 := (ke_len o.r o.a k (by omega)).2
    have e2 : ∀ n : Int, n = nK o k - nK o o.p + 1 → IntKind.i64.wrap (nK o k - nK o o.p + 1) = n := by
      intro n hn
      have b2 : nK o k = ((ke o.r (o.a.take k)).out.length : Nat) := rfl
      have b3 : nK o o.p = ((ke o.r (o.a.take o.p)).out.length : Nat) := rfl
      have b4 : (ke o.r (o.a.take o.p)).out.length ≤ (ke o.r (o.a.take o.a.length)).out.length := by
        rcases Nat.le_total o.p o.a.length with h1 | h1
        · exact ke_mono o.r o.a h1
        · rw [List.take_of_length_le h1, List.take_length]; exact Nat.le_refl _
      have b5 := (ke_len o.r o.a o.a.length (Nat.le_refl _)).2
      rw [hn, wrap_i64 (by omega) (by omega)]
    rw [e1]
    simp only [hz]
    cases hh : hasK o.r (o.a.getD k default).key
    · rw [hh] at hs
      simp
      refine Exists.intro (k + 1) ?_
      refine ⟨by omega, ?_, by omega⟩
      unfold nK; simp at hs; rw [hs]
    · rw [hh] at hs
      simp
      refine Exists.intro (k + 1) ?_
      refine ⟨by omega, ?_, by omega⟩
      refine e2 _ ?_
      unfold nK; simp at hs; rw [hs]; omega
  · have hz : decide ((k : Int) < o.a.length) = false := by simp; omega
    have hk : nK o k = nK o o.a.length := by unfold nK; rw [List.take_of_length_le (by omega), List.take_length]
    simp only [hz, hk]
    simp
/-- what is so of the parts -/
structure Unr.Good (o : Unr) : Prop where
  la : o.J.ta.length = o.a.length + 1
  lb : o.J.tb.length = o.b.length + 1
  ca : ∀ k, o.p ≤ k → k ≤ o.a.length → (o.c.getD 0 default).off ≤ o.J.ta.getD k 0
  cb : ∀ k, o.q ≤ k → k ≤ o.b.length → (o.c.getD 0 default).off ≤ o.J.tb.getD k 0
  n : o.c.length = 1
theorem u2a_loop (o : Unr) (g : o.Good) (hl : o.a.length ≤ 4611686018427387903) (k : { k : Nat // o.p ≤ k }) : LoopOk Tryd.prog 9 28 (loopAt Tryd.prog 9 28) ⟨u2T 7 o k.1, u2M 7 o, []⟩ (T.map (lout u2X (u2S 7 o)) (.ret ())) := by
  refine loop_vc (o := fun _ => .ret ()) (stT := fun (k : { k : Nat // o.p ≤ k }) => u2T 7 o k.1) (stM := fun _ => u2M 7 o) Tryd.mixed (fun _ => rfl) (fun k => (vcU2a_eq o k).mpr ?_) k
  unfold vcU2a
  obtain ⟨k, hk⟩ := k
  have h1 := g.la
  have h2 := g.n
  have h3 := g.ca k hk
  simp [h2] at h3
  simp [h1, h2]
  refine fun h => ⟨by omega, by omega, h3 (by omega), fun _ => ⟨k + 1, by omega, by omega, by rw [wrap_i64 (by omega) (by omega)]; omega⟩⟩
theorem u2b_loop (o : Unr) (g : o.Good) (hl : o.a.length ≤ 4611686018427387903) (k : { k : Nat // o.p ≤ k }) : LoopOk Tryd.prog 9 28 (loopAt Tryd.prog 9 28) ⟨u2T 3 o k.1, u2M 3 o, []⟩ (T.map (lout u2X (u2S 3 o)) (.ret ())) := by
  refine loop_vc (o := fun _ => .ret ()) (stT := fun (k : { k : Nat // o.p ≤ k }) => u2T 3 o k.1) (stM := fun _ => u2M 3 o) Tryd.mixed (fun _ => rfl) (fun k => (vcU2b_eq o k).mpr ?_) k
  unfold vcU2b
  obtain ⟨k, hk⟩ := k
  have h1 := g.la
  have h2 := g.n
  have h3 := g.ca k hk
  simp [h2] at h3
  simp [h1, h2]
  refine fun h => ⟨by omega, by omega, h3 (by omega), fun _ => ⟨k + 1, by omega, by omega, by rw [wrap_i64 (by omega) (by omega)]; omega⟩⟩
theorem u3a_loop (o : Unr) (g : o.Good) (hl : o.b.length ≤ 4611686018427387903) (k : { k : Nat // o.q ≤ k }) : LoopOk Tryd.prog 9 33 (loopAt Tryd.prog 9 33) ⟨u3T 7 o k.1, u2M 7 o, []⟩ (T.map (lout u2X u3S) (.ret ())) := by
  refine loop_vc (o := fun _ => .ret ()) (stT := fun (k : { k : Nat // o.q ≤ k }) => u3T 7 o k.1) (stM := fun _ => u2M 7 o) Tryd.mixed (fun _ => rfl) (fun k => (vcU3a_eq o k).mpr ?_) k
  unfold vcU3a
  obtain ⟨k, hk⟩ := k
  have h1 := g.lb
  have h2 := g.n
  have h3 := g.cb k hk
  simp [h2] at h3
  simp [h1, h2]
  refine fun h => ⟨by omega, by omega, h3 (by omega), fun _ => ⟨k + 1, by omega, by omega, by rw [wrap_i64 (by omega) (by omega)]; omega⟩⟩
theorem u3b_loop (o : Unr) (g : o.Good) (hl : o.b.length ≤ 4611686018427387903) (k : { k : Nat // o.q ≤ k }) : LoopOk Tryd.prog 9 33 (loopAt Tryd.prog 9 33) ⟨u3T 3 o k.1, u2M 3 o, []⟩ (T.map (lout u2X u3S) (.ret ())) := by
  refine loop_vc (o := fun _ => .ret ()) (stT := fun (k : { k : Nat // o.q ≤ k }) => u3T 3 o k.1) (stM := fun _ => u2M 3 o) Tryd.mixed (fun _ => rfl) (fun k => (vcU3b_eq o k).mpr ?_) k
  unfold vcU3b
  obtain ⟨k, hk⟩ := k
  have h1 := g.lb
  have h2 := g.n
  have h3 := g.cb k hk
  simp [h2] at h3
  simp [h1, h2]
  refine fun h => ⟨by omega, by omega, h3 (by omega), fun _ => ⟨k + 1, by omega, by omega, by rw [wrap_i64 (by omega) (by omega)]; omega⟩⟩
end Go.Proofs.YtjmdejbijigfjaaDoor

/-! Records: the law RecordsUnread: the law. -/
namespace Go.Proofs.YtjmdejbijigfjaaDoor
open Go.Ax
set_option maxRecDepth 1000000
theorem plc_ok {m : Int} {n : Nat} (h1 : 0 ≤ m) (h2 : m < 65536) (hn : n ≤ 4611686018427387903) : plcE m n = ((plcE m n).toNat : Int) ∧ (plcE m n).toNat ≤ n := by
  unfold plcE
  rw [wrap_i64 (n := m) (by omega) (by omega), wrap_i64 (n := (n : Int) + 1) (by omega) (by omega)]
  have h3 := Int.tmod_nonneg ((n : Int) + 1) h1
  have h4 := Int.tmod_lt_of_pos m (show (0 : Int) < (n : Int) + 1 by omega)
  omega
theorem nameB : nameOk cB = true := by decide
theorem consB (x : Int) : isCons [⟨cB, x⟩] = true := by
  have h : coOk [⟨cB, x⟩] 0 = true := by
    unfold coOk
    show (nameOk cB && !(decide (0 < 0) && _)) = true
    rw [nameB]; rfl
  unfold isCons
  rw [coFrom_step (by simp), h, coFrom_end (by simp)]
  rfl
theorem putL_nil (x : Con) : putL [] x = [x] := rfl
theorem readB (x : Int) : readO [⟨cB, x⟩] cB = x := by
  rw [readO_cons]
  simp [eqN]
theorem joB (p q : Int) (ta tb : List Int) (x : Int) : joC [⟨cB, p⟩] [⟨cB, q⟩] ta tb ⟨cB, x⟩ = ⟨cB, miN (elemO ta p) (elemO tb q)⟩ := by
  unfold joC
  rw [readB, readB]
theorem boB (p q : Int) (ta tb : List Int) : boU [⟨cB, p⟩] [⟨cB, q⟩] ta tb 2 = [⟨cB, miN (elemO ta p) (elemO tb q)⟩] := by
  show putL (putL [] (joC [⟨cB, p⟩] [⟨cB, q⟩] ta tb ⟨cB, p⟩)) (joC [⟨cB, p⟩] [⟨cB, q⟩] ta tb ⟨cB, q⟩) = _
  rw [joB, joB, putL_nil, putL_cons]
  have h : lt cB cB = false := less_irr _
  simp [h]
theorem botB (p q : Int) (ta tb : List Int) (h1 : 0 < ta.length) (h2 : 0 < tb.length) : bothE [⟨cB, p⟩] [⟨cB, q⟩] ta tb = 0 := by
  unfold bothE
  have e : boU [⟨cB, p⟩] [⟨cB, q⟩] ta tb ([⟨cB, p⟩] ++ [⟨cB, q⟩] : List Con).length = [⟨cB, miN (elemO ta p) (elemO tb q)⟩] := boB p q ta tb
  rw [consB, consB, e, decide_eq_false (show ¬ ta.length = 0 by omega), decide_eq_false (show ¬ tb.length = 0 by omega)]
  rfl
theorem mapB (p : Int) (to : List Int) (h : 0 < to.length) : mapU [⟨cB, p⟩] to 1 = [⟨cB, elemO to p⟩] := by
  unfold mapU
  rw [if_neg (by omega)]
  rfl
theorem lcB (x : Int) : contLe 1 2 (fun k j => Ax.get [AV.s (Value.string { data := #[99] }), AV.y (Value.int IntKind.u64 x)] (k * 2 + j)) (cellsOf' encC [{ name := cB, off := x }]) := by
  intro k hk j hj
  obtain rfl : k = 0 := by omega
  match j, hj with
  | 0, _ => simp [cellsOf', encC, cB]
  | 1, _ => simp [cellsOf', encC]
structure Unr.Facts (o : Unr) : Prop where
  la : o.a.length ≤ 4398046511104
  lb : o.b.length ≤ 4398046511104
  hp : plcE o.one o.a.length = o.p
  pl : o.p ≤ o.a.length
  hq : plcE o.two o.b.length = o.q
  ql : o.q ≤ o.b.length
  hK : o.K = (ke o.r o.a).end
  hJ : o.J = ((jo0 o.a o.b).run.getD (jo0 o.a o.b)).end
  hm : o.m = [⟨cB, elemO o.K.to o.p⟩]
  hc : o.c = [⟨cB, miN (elemO o.J.ta o.p) (elemO o.J.tb o.q)⟩]
theorem miN_le (x y : Int) : miN x y ≤ x ∧ miN x y ≤ y := by
  unfold miN; split <;> omega
theorem un_good {o : Unr} (f : o.Facts) (h : joOk o.a o.b = true) : o.Good ∧ (o.c.getD 0 default).off ≤ (o.J.out.length : Nat) ∧ 0 ≤ (o.c.getD 0 default).off ∧ o.J.out.length ≤ 4096 := by
  have g := run_je h
  rw [← f.hJ] at g
  have hn : o.a.length + o.b.length ≤ 4096 := by
    unfold joOk at h
    obtain ⟨_, h2⟩ := (Bool.and_eq_true _ _).mp h
    exact of_decide_eq_true ((Bool.and_eq_true _ _).mp h2).1
  have g1 := g.la
  have g2 := g.lb
  have p1 := f.pl
  have q1 := f.ql
  have ea : elemO o.J.ta o.p = o.J.ta.getD o.p 0 := elem_at (by omega)
  have eb : elemO o.J.tb o.q = o.J.tb.getD o.q 0 := elem_at (by omega)
  have hc : (o.c.getD 0 default).off = miN (o.J.ta.getD o.p 0) (o.J.tb.getD o.q 0) := by rw [f.hc, ea, eb]; rfl
  obtain ⟨m1, m2⟩ := miN_le (o.J.ta.getD o.p 0) (o.J.tb.getD o.q 0)
  have b1 := g.ba o.p (by omega)
  have b2 := g.bb o.q (by omega)
  have g3 := g.n
  refine ⟨⟨g1, g2, fun k h1 h2 => ?_, fun k h1 h2 => ?_, by rw [f.hc]; rfl⟩, by rw [hc]; omega, ?_, by omega⟩
  · rw [hc]; exact Int.le_trans m1 (g.na o.p k h1 (by omega))
  · rw [hc]; exact Int.le_trans m2 (g.nb o.q k h1 (by omega))
  · rw [hc]; unfold miN; split <;> omega
theorem un_c (o : Unr) (f : o.Facts) : (boolR true).Sat (ACall' Tryd.prog 9 [.agg (encX o)] []) := by
  have la := f.la
  have lb := f.lb
  have pl := f.pl
  have ql := f.ql
  have e1 : IntKind.i64.wrap ((o.a.length : Int) + 1) = (o.a.length : Int) + 1 := wrap_i64 (by omega) (by omega)
  have e2 : IntKind.i64.wrap ((o.b.length : Int) + 1) = (o.b.length : Int) + 1 := wrap_i64 (by omega) (by omega)
  have hp := f.hp
  have hq := f.hq
  unfold plcE at hp hq
  rw [e1] at hp
  rw [e2] at hq
  have wp : IntKind.u64.wrap (o.p : Int) = o.p := wrap_u64 (by omega) (by omega)
  have wq : IntKind.u64.wrap (o.q : Int) = o.q := wrap_u64 (by omega) (by omega)
  have n1 : ¬ ((o.a.length : Int) + 1 = 0) := by omega
  have n2 : ¬ ((o.b.length : Int) + 1 = 0) := by omega
  have n3 : ¬ ((0 : Int) = (o.a.length : Int) + 1) := by omega
  have l1 := u1_loop o (by omega) o.p
  have tm := tagC o.m
  have tc := tagC o.c
  have hK := f.hK
  have hJ := f.hJ
  cases hi : (isLog o.a && chkK o.r == 0)
  · cases hj : joOk o.a o.b
    · refine ctr_vc (ht := hh _ (u1J o noLp) (unC false false o) noOp) Tryd.mixed rfl ?_
      rw [vcN00_eq o]
      unfold vcN00
      simp only [e1, e2, hp, hq, wp, wq, hi, hj]
      simp [n1, n2, n3]
      repeat' apply And.intro
      all_goals first | omega | assumption
    · obtain ⟨g, gc, gz, gn⟩ := un_good f hj
      have l2 := u2b_loop o g (by omega) ⟨o.p, Nat.le_refl _⟩
      have l3 := u3b_loop o g (by omega) ⟨o.q, Nat.le_refl _⟩
      have wJ : IntKind.u64.wrap (o.J.out.length : Int) = o.J.out.length := wrap_u64 (by omega) (by omega)
      have ht1 := g.la
      have ht2 := g.lb
      have hcl := g.n
      have tc0 : ∀ (j : Nat), j < 2 → tagT (cellsOf' encC o.c 0 j) = true := tc 0 (by omega)
      have hb := botB o.p o.q o.J.ta o.J.tb (by omega) (by omega)
      have hjc := joB o.p o.q o.J.ta o.J.tb o.q
      have hc := f.hc
      have nc : ¬ ((o.J.out.length : Int) < (o.c.getD 0 default).off) := by omega
      refine ctr_vc (ht := hh _ (u1J o (u2J 3 o)) (unC false true o) noOp) Tryd.mixed rfl ?_
      rw [vcN01_eq o]
      unfold vcN01
      simp only [e1, e2, hp, hq, wp, wq, hi, hj, wJ, ht1, ht2, hcl, hb, hjc, l2, l3, nc]
      simp [n1, n2, n3]
      repeat' apply And.intro
      all_goals first | omega | assumption | exact lcB _ | exact tc0
  · have hln := log_len ((Bool.and_eq_true _ _).mp hi).1
    obtain ⟨q1, q2⟩ := ke_len' o.r o.a
    have kt : o.K.to.length = o.a.length + 1 := by rw [hK]; unfold Ke.end; simp [q1]
    have ko : nK o o.a.length = (o.K.out.length : Nat) := by rw [hK]; unfold nK; rw [List.take_length]; rfl
    have kl : o.K.out.length ≤ o.a.length := by rw [hK]; exact q2
    have kp : nK o o.p ≤ (o.K.out.length : Nat) := by
      rw [← ko]; unfold nK
      have := ke_mono o.r o.a pl
      omega
    have kz : 0 ≤ nK o o.p := by unfold nK; omega
    have em : elemO o.K.to o.p = nK o o.p := by
      rw [elem_at (by omega), hK, end_to o.r o.a o.p pl]
      have : ((ke o.r (o.a.take o.p)).out.length : Int) ≤ 4096 := by unfold nK at kp; omega
      unfold nK
      rw [wrap_u64 (by omega) (by omega)]
    have hm := f.hm
    rw [em] at hm
    have hmu := mapB o.p o.K.to (by omega)
    rw [em] at hmu
    have wK : IntKind.u64.wrap (o.K.out.length : Int) = o.K.out.length := wrap_u64 (by omega) (by omega)
    have wM : IntKind.i64.wrap (nK o o.p) = nK o o.p := wrap_i64 (by omega) (by omega)
    have wD : IntKind.i64.wrap ((o.K.out.length : Int) - nK o o.p) = (o.K.out.length : Int) - nK o o.p := wrap_i64 (by omega) (by omega)
    have hml : o.m.length = 1 := by rw [hm]; rfl
    have tm0 : ∀ (j : Nat), j < 2 → tagT (cellsOf' encC o.m 0 j) = true := tm 0 (by omega)
    have hmo : (o.m.getD 0 default).off = nK o o.p := by rw [hm]; rfl
    have nm : ¬ ((o.K.out.length : Int) < nK o o.p) := by omega
    cases hj : joOk o.a o.b
    · refine ctr_vc (ht := hh _ (u1J o noLp) (unC true false o) noOp) Tryd.mixed rfl ?_
      rw [vcN10_eq o]
      unfold vcN10
      simp only [e1, e2, hp, hq, wp, wq, hi, hj, kt, ko, wK, wM, wD, hml, hmo, nm, l1]
      simp [n1, n2, n3]
      repeat' apply And.intro
      all_goals first | omega | assumption | exact lcB _ | exact tm0 | (rw [hmu]; exact hm)
    · obtain ⟨g, gc, gz, gn⟩ := un_good f hj
      have l2 := u2a_loop o g (by omega) ⟨o.p, Nat.le_refl _⟩
      have l3 := u3a_loop o g (by omega) ⟨o.q, Nat.le_refl _⟩
      have wJ : IntKind.u64.wrap (o.J.out.length : Int) = o.J.out.length := wrap_u64 (by omega) (by omega)
      have ht1 := g.la
      have ht2 := g.lb
      have hcl := g.n
      have tc0 : ∀ (j : Nat), j < 2 → tagT (cellsOf' encC o.c 0 j) = true := tc 0 (by omega)
      have hb := botB o.p o.q o.J.ta o.J.tb (by omega) (by omega)
      have hjc := joB o.p o.q o.J.ta o.J.tb o.q
      have hc := f.hc
      have nc : ¬ ((o.J.out.length : Int) < (o.c.getD 0 default).off) := by omega
      refine ctr_vc (ht := hh _ (u1J o (u2J 7 o)) (unC true true o) noOp) Tryd.mixed rfl ?_
      rw [vcN11_eq o]
      unfold vcN11
      simp only [e1, e2, hp, hq, wp, wq, hi, hj, kt, ko, wK, wM, wD, hml, hmo, nm, l1, wJ, ht1, ht2, hcl, hb, hjc, l2, l3, nc]
      simp [n1, n2, n3]
      repeat' apply And.intro
      all_goals first | omega | assumption | exact lcB _ | exact tm0 | exact tc0 | (rw [hmu]; exact hm)
end Go.Proofs.YtjmdejbijigfjaaDoor

/-! Records: from the statements to the laws: the tables; the law RecordsFull. -/
namespace Go.Proofs.YtjmdejbijigfjaaDoor
open Go.Ax Go.Shelf Go.RowKit Go.ChangeShapes Go.WideShapes Go.ChangeAt
set_option maxRecDepth 1000000
def toI {K : Type} : DataW K → Int
  | .lit (.int _ a) => a
  | _ => 0
def toS {K : Type} : DataW K → ByteArray
  | .lit (.string l) => ⟨l.toArray⟩
  | _ => ByteArray.empty
theorem encI_ok {K : Type} {k : IntKind} {d : DataW K} (h : (Sh.int k).wf d) : (Sh.int k).enc d = [.y (.int k (toI d))] := by
  obtain ⟨k', n, rfl, _⟩ := h
  rfl
theorem encS_ok {K : Type} {d : DataW K} (h : Sh.str.wf d) : Sh.str.enc d = [.y (.string (toS d))] := by
  obtain ⟨l, rfl, _⟩ := h
  rfl
theorem enc_st {K : Type} (fs : List Sh) (ds : List (DataW K)) : (Sh.st fs).enc (.agg ds) = Sh.encL fs ds := by simp only [Sh.enc]
theorem enc_cons {K : Type} (s : Sh) (r : List Sh) (d : DataW K) (ds : List (DataW K)) : Sh.encL (s :: r) (d :: ds) = s.enc d ++ Sh.encL r ds := by simp only [Sh.encL]
theorem enc_nil {K : Type} (l : List (DataW K)) : Sh.encL [] l = [] := by simp only [Sh.encL]
theorem relA {P : Program} {W : World} {r : Reach} {base : Nat} {t : TypeId} {v : Value} {fs : Array Field} {l : List AV} {H : HH} {E : Env} (hu : P.underlying t = some (.struct fs)) (hv : Value.okWide P W r base t v) (h : RelL l H E v.cells.toList) : Rel (.agg l) H E v := by
  obtain ⟨cs, rfl, _⟩ := okWide_struct hu hv
  exact ⟨cs, rfl, h⟩
/-! a world where the library's tables lie -/
def laidL : List (String × DataW Unit) := Rows.recordsFullRow.laid
noncomputable def layW (os : Os) : World := World.laidAll Tryd.prog os laidL
theorem lay_met (os : Os) (args : Array Value) : laidMetH Tryd.prog laidL ((layW os).forCall (fun _ _ => 0) ⟨#[], args, []⟩).memory := by
  have e : ∀ w, laidMetH Tryd.prog laidL w = laidMet Tryd.prog laidL w := fun w => by kernel_rfl
  rw [e]
  exact laidMet_laidAll args (by kernel_rfl) (by kernel_rfl)
theorem Tryd.own : ownKnob Tryd.prog.godebug = Option.none := by kernel_rfl
theorem Tryd.laidOut : laidOutB Tryd.prog = true := by kernel_rfl
theorem Tryd.mapsRowed : mapsRowed Tryd.prog = true := by kernel_rfl
theorem Tryd.slicesOk : slicesOk Tryd.prog = true := by kernel_rfl
theorem underBool : Tryd.prog.underlying 4 = some .bool := by kernel_rfl
theorem full_lifted (os : Os) (started : os.Started) (K : Type) (enc : TypeId × Value → K) :
    ReturnsInHanded {} Tryd.checked os 4 .any (fun w args => (Rows.recordsFullSpec.pre enc Tryd.prog Tryd.f4 [] false w args ∧ laidMetH Tryd.prog laidL w) ∧ sizedMet enc Tryd.prog Tryd.f4 (OpenSpec.ofChange Rows.recordsFullSpec) false w args)
      (Rows.recordsFullSpec.post enc Tryd.prog Tryd.f4 false true false false) := by
  refine returnsInHanded_of_change_and (C := Tryd.checked) (X := fun w _ => laidMetH Tryd.prog laidL w) (fun _ _ _ hh h => h.of_heap hh) Tryd.own started (by kernel_rfl) Tryd.func4
    (ChangeSpec.witness_at (enc := enc) (C := Tryd.checked) (os := os) (X := fun w _ => laidMetH Tryd.prog laidL w) false (layW os) #[.int .u16 0, .int .u16 0] 8 rfl (by kernel_rfl) (by kernel_rfl) (by kernel_rfl) (by kernel_rfl) (by kernel_rfl) (lay_met os _)) ?_
  intro W base args ds gs before hval0 hW hcnd hsz _ _
  have hps : Tryd.f4.params.toList = [23, 23] := by kernel_rfl
  obtain ⟨p, q, hA, hV, hbef, hfz, hnd⟩ := id hW
  rw [hps] at hA hsz
  have ⟨hr, hwf⟩ := lift_all [.int .u16, .int .u16] (by kernel_rfl) hA
  obtain ⟨v, v2, d, d2, _, _, e1, rfl, _, hd, hd2⟩ := trodAll_two hA
  obtain ⟨_, _, e2, hw1, _, _, e3, hw2, _⟩ := hwf
  obtain ⟨rfl, e5⟩ := List.cons.inj e2
  subst e5
  obtain ⟨rfl, _⟩ := List.cons.inj e3
  subst e1
  have r1 := hr.1
  have r2 := hr.2.1
  rw [encI_ok hw1] at r1
  rw [encI_ok hw2] at r2
  have u3 : Tryd.prog.underlying 23 = some (.int .u16) := by kernel_rfl
  obtain ⟨n1, rfl⟩ := okWide_int u3 (hval0 0 _ _ (by kernel_rfl) rfl)
  obtain ⟨n2, rfl⟩ := okWide_int u3 (hval0 1 _ _ (by kernel_rfl) rfl)
  obtain ⟨_, _, er, r1, _⟩ := r1
  cases er
  obtain ⟨_, _, er, r2, _⟩ := r2
  cases er
  refine open_calls (call_of (full_c (toI d) (toI d2))) (t := 4) (ds := [d, d2]) ⟨_, _, rfl, r1, _, _, rfl, r2, rfl⟩ (by kernel_rfl) underBool rfl rfl Tryd.laidOut Tryd.mapsRowed Tryd.slicesOk (by rw [hps]; intro t ht; simp at ht; rcases ht with rfl | rfl <;> exact of_decide_eq_true (by kernel_rfl)) hW
theorem full_holds : Rows.RecordsFullSaid :=
  OpenClaim.holds_of_wide 4 Tryd.f4 rfl rfl rfl rfl rfl rfl rfl ⟨rfl, rfl, rfl, rfl, rfl⟩ rfl rfl rfl rfl rfl (by kernel_rfl) Tryd.func4 (by kernel_rfl)
    (of_decide_eq_true (by kernel_rfl)) (by unfold Func.isWrapper; first | (rw [if_pos (by decide +kernel)]; kernel_rfl) | (rw [if_neg (by decide +kernel)]; exact ⟨rfl, rfl⟩))
    (fun os started H enc _ => full_lifted os started H enc)
theorem full_said : Rows.RecordsFullCardSaid :=
  Claim7.holds_tied_plain_at .later [] [.data, .pinned] true (true, "c6216772fa23618345da0e61fb6b64e81834fe3c41d4c2546afdeda0683467e7") false
    full_holds (fun _ h => by cases h) (by kernel_rfl) (fun _ h => by cases h) recordsFull_row_tie rfl ⟨rfl, rfl⟩ (by kernel_rfl) rfl
    (fun f fn hf hfn => by
      obtain rfl : f = 4 := Option.some.inj ((show Tryd.prog.funcNamed "gazette/gazettelaw14.RecordsFull" = some 4 by kernel_rfl).symm.trans hf) |>.symm
      obtain rfl : fn = Tryd.f4 := (Option.some.inj (Tryd.func4.symm.trans hfn)).symm
      exact ⟨by kernel_rfl, fun j t ht => by
        rw [show Tryd.f4.params = #[23, 23] by kernel_rfl] at ht
        have h3 : t = 23 := by
          rcases j with _ | _ | j
          · simpa using ht.symm
          · simpa using ht.symm
          · simp at ht
        subst h3
        exact (show Tryd.prog.wantsStandIn 23 = false by kernel_rfl)⟩)
    (by kernel_rfl)
end Go.Proofs.YtjmdejbijigfjaaDoor

/-! Records: from the statement to RecordsWhole. -/
namespace Go.Proofs.YtjmdejbijigfjaaDoor
open Go.Ax Go.Shelf Go.RowKit Go.ChangeShapes Go.WideShapes Go.ChangeAt
set_option maxRecDepth 1000000
def shRec : Sh := .st [.int .u64, .str, .sl (.int .u8), .int .u64, .int .u64]
def toRec {K : Type} : DataW K → Rec
  | .agg [a, b, c, d, e] => ⟨toI a, toS b, listOf toI c, toI d, toI e⟩
  | _ => default
theorem relB {K : Type} {d : DataW K} (hd : (Sh.sl (.int .u8)).wf d) {H : HH} {E : Env} {v : Value} (h : Rel (slAV (.int .u8) d) H E v) : Rel (encBs true (listOf toI d)) H E v := conv_sl (encA := encB) (fun x hx => encI_ok hx) hd h
theorem rec_enc {K : Type} {d : DataW K} (hd : shRec.wf d) : ∃ a b c e f, d = .agg [a, b, c, e, f] ∧ (Sh.sl (.int .u8)).wf c ∧ shRec.enc d = [.y (.int .u64 (toI a)), .y (.string (toS b)), slAV (.int .u8) c, .y (.int .u64 (toI e)), .y (.int .u64 (toI f))] := by
  obtain ⟨ds, rfl, d1, r1, rfl, w1, d2, r2, rfl, w2, d3, r3, rfl, w3, d4, r4, rfl, w4, d5, r5, rfl, w5, rfl⟩ := hd
  refine ⟨d1, d2, d3, d4, d5, rfl, w3, ?_⟩
  simp only [shRec, enc_st, enc_cons, enc_nil, encI_ok w1, encS_ok w2, slAV_eq, encI_ok w4, encI_ok w5]
  rfl
theorem rec_conv {K : Type} {d : DataW K} (hd : shRec.wf d) (j : Nat) (hj : j < 5) (H : HH) (E : Env) (v : Value) (h : Rel (Ax.get (shRec.enc d) j) H E v) : Rel (Ax.get (encR (toRec d)) j) H E v := by
  obtain ⟨a, b, c, e, f, rfl, wc, he⟩ := rec_enc hd
  rw [he] at h
  match j, hj with
  | 0, _ => exact h
  | 1, _ => exact h
  | 2, _ => exact relB wc h
  | 3, _ => exact h
  | 4, _ => exact h
theorem relRs {K : Type} {d : DataW K} (hd : (Sh.sl shRec).wf d) {H : HH} {E : Env} {v : Value} (h : Rel (slAV shRec d) H E v) : Rel (encRs true (listOf toRec d)) H E v :=
  conv_slR (encA := encR) (fun x hx j hj H E v => rec_conv hx j hj H E v) hd h
theorem undRs : Tryd.prog.underlying 22 = some (.slice 27) := by kernel_rfl
theorem bytesR : Tryd.prog.bytesOf 27 = 64 := by kernel_rfl
theorem rs_sized {K : Type} {d : DataW K} (hw : (d.weights Tryd.prog 22).all (· ≤ reachBytes) = true) : (listOf toRec d).length * 64 ≤ 140737488351232 := by
  have := weights_slice toRec undRs hw
  rwa [bytesR] at this
theorem whole_lifted (os : Os) (started : os.Started) (K : Type) (enc : TypeId × Value → K) :
    ReturnsInHanded {} Tryd.checked os 7 .any (fun w args => (Rows.recordsWholeSpec.pre enc Tryd.prog Tryd.f7 [] false w args ∧ laidMetH Tryd.prog laidL w) ∧ sizedMet enc Tryd.prog Tryd.f7 (OpenSpec.ofChange Rows.recordsWholeSpec) false w args)
      (Rows.recordsWholeSpec.post enc Tryd.prog Tryd.f7 false true false false) := by
  refine returnsInHanded_of_change_and (C := Tryd.checked) (X := fun w _ => laidMetH Tryd.prog laidL w) (fun _ _ _ hh h => h.of_heap hh) Tryd.own started (by kernel_rfl) Tryd.func7
    (ChangeSpec.witness_at (enc := enc) (C := Tryd.checked) (os := os) (X := fun w _ => laidMetH Tryd.prog laidL w) false (layW os) #[.slice Option.none 0 0] 8 rfl (by kernel_rfl) (by kernel_rfl) (by kernel_rfl) (by kernel_rfl) (by kernel_rfl) (lay_met os _)) ?_
  intro W base args ds gs before hval0 hW hcnd hsz _ _
  have hps : Tryd.f7.params.toList = [22] := by kernel_rfl
  obtain ⟨p, q, hA, hV, hbef, hfz, hnd⟩ := id hW
  rw [hps] at hA hsz
  have ⟨hr, hwf⟩ := lift_all [.sl shRec] (by kernel_rfl) hA
  obtain ⟨v, d, e1, rfl, hd⟩ := trodAll_one hA
  obtain ⟨_, _, e2, hw1, _⟩ := hwf
  obtain ⟨rfl, _⟩ := List.cons.inj e2
  subst e1
  have hwt := weights_cons (P := Tryd.prog) (t := 22) (d := d) (ds := gs) hsz
  have k1 := rs_sized hwt.1
  have r1 := hr.1
  rw [slAV_eq] at r1
  obtain ⟨s1, n1, c1, rfl⟩ := okWide_slice undRs (hval0 0 _ _ (by kernel_rfl) rfl)
  obtain ⟨_, _, er, r1, _⟩ := r1
  cases er
  refine open_calls (call_of (wh_c (listOf toRec d) (by omega))) (t := 4) (ds := [d]) ⟨_, _, rfl, relRs hw1 r1, rfl⟩ (by kernel_rfl) underBool rfl rfl Tryd.laidOut Tryd.mapsRowed Tryd.slicesOk (by rw [hps]; intro t ht; simp at ht; rcases ht with rfl; exact of_decide_eq_true (by kernel_rfl)) hW
theorem whole_holds : Rows.RecordsWholeSaid :=
  OpenClaim.holds_of_wide 7 Tryd.f7 rfl rfl rfl rfl rfl rfl rfl ⟨rfl, rfl, rfl, rfl, rfl⟩ rfl rfl rfl rfl rfl (by kernel_rfl) Tryd.func7 (by kernel_rfl)
    (of_decide_eq_true (by kernel_rfl)) (by unfold Func.isWrapper; first | (rw [if_pos (by decide +kernel)]; kernel_rfl) | (rw [if_neg (by decide +kernel)]; exact ⟨rfl, rfl⟩))
    (fun os started H enc _ => whole_lifted os started H enc)
theorem whole_said : Rows.RecordsWholeCardSaid :=
  Claim7.holds_tied_plain_at .later [] [.data, .pinned] true (true, "c6216772fa23618345da0e61fb6b64e81834fe3c41d4c2546afdeda0683467e7") false
    whole_holds (fun _ h => by cases h) (by kernel_rfl) (fun _ h => by cases h) recordsWhole_row_tie rfl ⟨rfl, rfl⟩ (by kernel_rfl) rfl
    (fun f fn hf hfn => by
      obtain rfl : f = 7 := Option.some.inj ((show Tryd.prog.funcNamed "gazette/gazettelaw14.RecordsWhole" = some 7 by kernel_rfl).symm.trans hf) |>.symm
      obtain rfl : fn = Tryd.f7 := (Option.some.inj (Tryd.func7.symm.trans hfn)).symm
      exact ⟨by kernel_rfl, fun j t ht => by
        rw [show Tryd.f7.params = #[22] by kernel_rfl] at ht
        have h3 : t = 22 := by
          rcases j with _ | j
          · simpa using ht.symm
          · simp at ht
        subst h3
        exact (show Tryd.prog.wantsStandIn 22 = false by kernel_rfl)⟩)
    (by kernel_rfl)
end Go.Proofs.YtjmdejbijigfjaaDoor

/-! Records: from the statement to RecordsReaders. -/
namespace Go.Proofs.YtjmdejbijigfjaaDoor
open Go.Ax Go.Shelf Go.RowKit Go.ChangeShapes Go.WideShapes Go.ChangeAt
set_option maxRecDepth 1000000
def shCon : Sh := .st [.str, .int .u64]
def shRdr : Sh := .st [.sl shCon, .sl shCon, shCon, .int .u64, .sl (.int .u64), .sl (.int .u64)]
def toC {K : Type} : DataW K → Con
  | .agg [a, b] => ⟨toS a, toI b⟩
  | _ => default
def toRdr {K : Type} : DataW K → Rdr
  | .agg [a, b, c, e, ta, tb] => ⟨listOf toC a, listOf toC b, toC c, toI e, listOf toI ta, listOf toI tb⟩
  | _ => default
theorem off_of {K : Type} {d : DataW K} (h : (Sh.int .u64).wf d) : offOk (toI d) := by
  obtain ⟨k, n, rfl, w⟩ := h
  have := bounds_u64 w
  exact ⟨by show 0 ≤ n; omega, by show n < _; omega⟩
theorem toC_ok {K : Type} {d : DataW K} (h : shCon.wf d) : shCon.enc d = encC (toC d) ∧ offOk (toC d).off := by
  obtain ⟨ds, rfl, d1, r1, rfl, w1, d2, r2, rfl, w2, rfl⟩ := h
  refine ⟨?_, off_of w2⟩
  simp only [shCon, enc_st, enc_cons, enc_nil, encS_ok w1, encI_ok w2]
  rfl
theorem wf_cons {K : Type} {d : DataW K} (h : (Sh.sl shCon).wf d) : wfC (listOf toC d) := by
  rcases h with rfl | ⟨xs, r, rfl, hx⟩
  · intro y hy; cases hy
  · intro y hy
    obtain ⟨x, hx', rfl⟩ := List.mem_map.1 hy
    exact (toC_ok (hx x hx')).2
theorem relCs {K : Type} {d : DataW K} (hd : (Sh.sl shCon).wf d) {H : HH} {E : Env} {v : Value} (h : Rel (slAV shCon d) H E v) : Rel (encCs true (listOf toC d)) H E v := conv_sl (fun x hx => (toC_ok hx).1) hd h
theorem relUs {K : Type} {d : DataW K} (hd : (Sh.sl (.int .u64)).wf d) {H : HH} {E : Env} {v : Value} (h : Rel (slAV (.int .u64) d) H E v) : Rel (encUs true (listOf toI d)) H E v := conv_sl (encA := encU) (fun x hx => encI_ok hx) hd h
theorem relRdr {K : Type} {d : DataW K} (hd : shRdr.wf d) {H : HH} {E : Env} {vs : List Value} (h : RelL (shRdr.enc d) H E vs) : RelL (encO (toRdr d)) H E vs := by
  obtain ⟨ds, rfl, d1, r1, rfl, w1, d2, r2, rfl, w2, d3, r3, rfl, w3, d4, r4, rfl, w4, d5, r5, rfl, w5, d6, r6, rfl, w6, rfl⟩ := hd
  have e : shRdr.enc (DataW.agg [d1, d2, d3, d4, d5, d6]) = [slAV shCon d1, slAV shCon d2, .y (.string (toC d3).name), .y (.int .u64 (toC d3).off), .y (.int .u64 (toI d4)), slAV (.int .u64) d5, slAV (.int .u64) d6] := by
    simp only [shRdr, enc_st, enc_cons, enc_nil, slAV_eq, (toC_ok w3).1, encI_ok w4]
    rfl
  rw [e] at h
  obtain ⟨v1, x1, rfl, h1, v2, x2, rfl, h2, v3, x3, rfl, h3, v4, x4, rfl, h4, v5, x5, rfl, h5, v6, x6, rfl, h6, v7, x7, rfl, h7, rfl⟩ := h
  exact ⟨_, _, rfl, relCs w1 h1, _, _, rfl, relCs w2 h2, _, _, rfl, h3, _, _, rfl, h4, _, _, rfl, h5, _, _, rfl, relUs w5 h6, _, _, rfl, relUs w6 h7, rfl⟩
def structTypes (P : Program) (t : TypeId) : Option (List TypeId) := match P.underlying t with | some (.struct fs) => some (fs.toList.map (·.type)) | _ => Option.none
theorem structTypes_ok {P : Program} {t : TypeId} {l : List TypeId} (h : structTypes P t = some l) : ∃ fs, P.underlying t = some (.struct fs) ∧ fs.toList.map (·.type) = l := by
  unfold structTypes at h
  split at h
  · rename_i fs hu
    exact ⟨fs, hu, Option.some.inj h⟩
  · cases h
theorem undRdr : ∃ fs, Tryd.prog.underlying 61 = some (.struct fs) ∧ fs.toList.map (·.type) = [57, 57, 59, 24, 42, 42] := structTypes_ok (by kernel_rfl)
theorem undCs : Tryd.prog.underlying 57 = some (.slice 59) := by kernel_rfl
theorem undU : Tryd.prog.underlying 42 = some (.slice 24) := by kernel_rfl
theorem bytesC : Tryd.prog.bytesOf 59 = 24 := by kernel_rfl
theorem bytesU : Tryd.prog.bytesOf 24 = 8 := by kernel_rfl
theorem rdr_call {K : Type} {d : DataW K} (hd : shRdr.wf d) (hw : (d.weights Tryd.prog 61).all (· ≤ reachBytes) = true) : (boolR true).Sat (ACall' Tryd.prog 8 [.agg (encO (toRdr d))] []) := by
  obtain ⟨ds, rfl, d1, r1, rfl, w1, d2, r2, rfl, w2, d3, r3, rfl, w3, d4, r4, rfl, w4, d5, r5, rfl, w5, d6, r6, rfl, w6, rfl⟩ := hd
  obtain ⟨fs, hf, ht⟩ := undRdr
  have h := weights_struct hf hw
  rw [ht] at h
  obtain ⟨h1, h⟩ := weights_cons h
  obtain ⟨h2, h⟩ := weights_cons h
  obtain ⟨h3, h⟩ := weights_cons h
  obtain ⟨h4, h⟩ := weights_cons h
  obtain ⟨h5, h⟩ := weights_cons h
  obtain ⟨h6, h⟩ := weights_cons h
  have k1 := weights_slice toC undCs h1
  have k2 := weights_slice toC undCs h2
  have k5 := weights_slice toI undU h5
  have k6 := weights_slice toI undU h6
  rw [bytesC] at k1 k2
  rw [bytesU] at k5 k6
  exact rd_c _ (by show (listOf toC d1).length * 24 ≤ _; omega) (by show (listOf toC d2).length * 24 ≤ _; omega) (by show (listOf toI d5).length ≤ _; omega) (by show (listOf toI d6).length ≤ _; omega) (wf_cons w1) (wf_cons w2)
theorem readers_lifted (os : Os) (started : os.Started) (K : Type) (enc : TypeId × Value → K) :
    ReturnsInHanded {} Tryd.checked os 8 .any (fun w args => (Rows.recordsReadersSpec.pre enc Tryd.prog Tryd.f8 [] false w args ∧ laidMetH Tryd.prog laidL w) ∧ sizedMet enc Tryd.prog Tryd.f8 (OpenSpec.ofChange Rows.recordsReadersSpec) false w args)
      (Rows.recordsReadersSpec.post enc Tryd.prog Tryd.f8 false true false false) := by
  refine returnsInHanded_of_change_and (C := Tryd.checked) (X := fun w _ => laidMetH Tryd.prog laidL w) (fun _ _ _ hh h => h.of_heap hh) Tryd.own started (by kernel_rfl) Tryd.func8
    (ChangeSpec.witness_at (enc := enc) (C := Tryd.checked) (os := os) (X := fun w _ => laidMetH Tryd.prog laidL w) false (layW os) #[.agg #[.slice Option.none 0 0, .slice Option.none 0 0, .string ⟨#[]⟩, .int .u64 0, .int .u64 0, .slice Option.none 0 0, .slice Option.none 0 0]] 8 rfl (by kernel_rfl) (by kernel_rfl) (by kernel_rfl) (by kernel_rfl) (by kernel_rfl) (lay_met os _)) ?_
  intro W base args ds gs before hval0 hW hcnd hsz _ _
  have hps : Tryd.f8.params.toList = [61] := by kernel_rfl
  obtain ⟨p, q, hA, hV, hbef, hfz, hnd⟩ := id hW
  rw [hps] at hA hsz
  have ⟨hr, hwf⟩ := lift_all [shRdr] (by kernel_rfl) hA
  obtain ⟨v, d, e1, rfl, hd⟩ := trodAll_one hA
  obtain ⟨_, _, e2, hw1, _⟩ := hwf
  obtain ⟨rfl, _⟩ := List.cons.inj e2
  subst e1
  have hwt := weights_cons (P := Tryd.prog) (t := 61) (d := d) (ds := gs) hsz
  obtain ⟨fs, hf, _⟩ := undRdr
  have r1 := relA hf (hval0 0 _ _ (by kernel_rfl) rfl) (relRdr hw1 hr.1)
  refine open_calls (call_of (rdr_call hw1 hwt.1)) (t := 4) (ds := [d]) ⟨_, _, rfl, r1, rfl⟩ (by kernel_rfl) underBool rfl rfl Tryd.laidOut Tryd.mapsRowed Tryd.slicesOk (by rw [hps]; intro t ht; simp at ht; rcases ht with rfl; exact of_decide_eq_true (by kernel_rfl)) hW
theorem readers_holds : Rows.RecordsReadersSaid :=
  OpenClaim.holds_of_wide 8 Tryd.f8 rfl rfl rfl rfl rfl rfl rfl ⟨rfl, rfl, rfl, rfl, rfl⟩ rfl rfl rfl rfl rfl (by kernel_rfl) Tryd.func8 (by kernel_rfl)
    (of_decide_eq_true (by kernel_rfl)) (by unfold Func.isWrapper; first | (rw [if_pos (by decide +kernel)]; kernel_rfl) | (rw [if_neg (by decide +kernel)]; exact ⟨rfl, rfl⟩))
    (fun os started H enc _ => readers_lifted os started H enc)
theorem readers_said : Rows.RecordsReadersCardSaid :=
  Claim7.holds_tied_plain_at .later [] [.data, .pinned] true (true, "c6216772fa23618345da0e61fb6b64e81834fe3c41d4c2546afdeda0683467e7") false
    readers_holds (fun _ h => by cases h) (by kernel_rfl) (fun _ h => by cases h) recordsReaders_row_tie rfl ⟨rfl, rfl⟩ (by kernel_rfl) rfl
    (fun f fn hf hfn => by
      obtain rfl : f = 8 := Option.some.inj ((show Tryd.prog.funcNamed "gazette/gazettelaw14.RecordsReaders" = some 8 by kernel_rfl).symm.trans hf) |>.symm
      obtain rfl : fn = Tryd.f8 := (Option.some.inj (Tryd.func8.symm.trans hfn)).symm
      exact ⟨by kernel_rfl, fun j t ht => by
        rw [show Tryd.f8.params = #[61] by kernel_rfl] at ht
        have h3 : t = 61 := by
          rcases j with _ | j
          · simpa using ht.symm
          · simp at ht
        subst h3
        exact (show Tryd.prog.wantsStandIn 61 = false by kernel_rfl)⟩)
    (by kernel_rfl)
end Go.Proofs.YtjmdejbijigfjaaDoor

/-! Records: from the statement to RecordsUnread. -/
namespace Go.Proofs.YtjmdejbijigfjaaDoor
open Go.Ax Go.Shelf Go.RowKit Go.ChangeShapes Go.WideShapes Go.ChangeAt
set_option maxRecDepth 1000000
def shRng : Sh := .st [.str, .str]
def shUnr : Sh := .st [.sl shRec, .sl shRec, shRng, .int .u16, .int .u16]
def toG {K : Type} : DataW K → Rng
  | .agg [a, b] => ⟨toS a, toS b⟩
  | _ => default
def mkU (a b : List Rec) (r : Rng) (one two : Int) : Unr where
  a := a
  b := b
  r := r
  one := one
  two := two
  p := (plcE one a.length).toNat
  q := (plcE two b.length).toNat
  K := (ke r a).end
  J := ((jo0 a b).run.getD (jo0 a b)).end
  m := [⟨cB, elemO (ke r a).end.to ((plcE one a.length).toNat : Nat)⟩]
  c := [⟨cB, miN (elemO ((jo0 a b).run.getD (jo0 a b)).end.ta ((plcE one a.length).toNat : Nat)) (elemO ((jo0 a b).run.getD (jo0 a b)).end.tb ((plcE two b.length).toNat : Nat))⟩]
theorem mkU_ok (a b : List Rec) (r : Rng) (one two : Int) (la : a.length ≤ 4398046511104) (lb : b.length ≤ 4398046511104) (h1 : 0 ≤ one ∧ one < 65536) (h2 : 0 ≤ two ∧ two < 65536) : (mkU a b r one two).Facts where
  la := la
  lb := lb
  hp := (plc_ok h1.1 h1.2 (Nat.le_trans la (by omega))).1
  pl := (plc_ok h1.1 h1.2 (Nat.le_trans la (by omega))).2
  hq := (plc_ok h2.1 h2.2 (Nat.le_trans lb (by omega))).1
  ql := (plc_ok h2.1 h2.2 (Nat.le_trans lb (by omega))).2
  hK := rfl
  hJ := rfl
  hm := rfl
  hc := rfl
def toUnr {K : Type} : DataW K → Unr
  | .agg [a, b, c, e, f] => mkU (listOf toRec a) (listOf toRec b) (toG c) (toI e) (toI f)
  | _ => mkU [] [] default 0 0
theorem toG_ok {K : Type} {d : DataW K} (h : shRng.wf d) : shRng.enc d = encG (toG d) := by
  obtain ⟨ds, rfl, d1, r1, rfl, w1, d2, r2, rfl, w2, rfl⟩ := h
  simp only [shRng, enc_st, enc_cons, enc_nil, encS_ok w1, encS_ok w2]
  rfl
theorem u16_of {K : Type} {d : DataW K} (h : (Sh.int .u16).wf d) : 0 ≤ toI d ∧ toI d < 65536 := by
  obtain ⟨k, n, rfl, w⟩ := h
  show 0 ≤ n ∧ n < 65536
  simp only [Lit.wf, Bool.and_eq_true, decide_eq_true_eq] at w
  have e1 : IntKind.u16.min = 0 := by rfl
  have e2 : IntKind.u16.max = 65535 := by rfl
  rw [e1, e2] at w
  omega
theorem relUnr {K : Type} {d : DataW K} (hd : shUnr.wf d) {H : HH} {E : Env} {vs : List Value} (h : RelL (shUnr.enc d) H E vs) : RelL (encX (toUnr d)) H E vs := by
  obtain ⟨ds, rfl, d1, r1, rfl, w1, d2, r2, rfl, w2, d3, r3, rfl, w3, d4, r4, rfl, w4, d5, r5, rfl, w5, rfl⟩ := hd
  have e : shUnr.enc (DataW.agg [d1, d2, d3, d4, d5]) = [slAV shRec d1, slAV shRec d2, .y (.string (toG d3).lo), .y (.string (toG d3).hi), .y (.int .u16 (toI d4)), .y (.int .u16 (toI d5))] := by
    simp only [shUnr, enc_st, enc_cons, enc_nil, slAV_eq, toG_ok w3, encI_ok w4, encI_ok w5]
    rfl
  rw [e] at h
  obtain ⟨v1, x1, rfl, h1, v2, x2, rfl, h2, v3, x3, rfl, h3, v4, x4, rfl, h4, v5, x5, rfl, h5, v6, x6, rfl, h6, rfl⟩ := h
  exact ⟨_, _, rfl, relRs w1 h1, _, _, rfl, relRs w2 h2, _, _, rfl, h3, _, _, rfl, h4, _, _, rfl, h5, _, _, rfl, h6, rfl⟩
theorem undUnr : ∃ fs, Tryd.prog.underlying 73 = some (.struct fs) ∧ fs.toList.map (·.type) = [22, 22, 47, 23, 23] := structTypes_ok (by kernel_rfl)
theorem unr_call {K : Type} {d : DataW K} (hd : shUnr.wf d) (hw : (d.weights Tryd.prog 73).all (· ≤ reachBytes) = true) : (boolR true).Sat (ACall' Tryd.prog 9 [.agg (encX (toUnr d))] []) := by
  obtain ⟨ds, rfl, d1, r1, rfl, w1, d2, r2, rfl, w2, d3, r3, rfl, w3, d4, r4, rfl, w4, d5, r5, rfl, w5, rfl⟩ := hd
  obtain ⟨fs, hf, ht⟩ := undUnr
  have h := weights_struct hf hw
  rw [ht] at h
  obtain ⟨h1, h⟩ := weights_cons h
  obtain ⟨h2, h⟩ := weights_cons h
  have k1 := rs_sized h1
  have k2 := rs_sized h2
  exact un_c _ (mkU_ok _ _ _ _ _ (by omega) (by omega) (u16_of w4) (u16_of w5))
theorem unread_lifted (os : Os) (started : os.Started) (K : Type) (enc : TypeId × Value → K) :
    ReturnsInHanded {} Tryd.checked os 9 .any (fun w args => (Rows.recordsUnreadSpec.pre enc Tryd.prog Tryd.f9 [] false w args ∧ laidMetH Tryd.prog laidL w) ∧ sizedMet enc Tryd.prog Tryd.f9 (OpenSpec.ofChange Rows.recordsUnreadSpec) false w args)
      (Rows.recordsUnreadSpec.post enc Tryd.prog Tryd.f9 false true false false) := by
  refine returnsInHanded_of_change_and (C := Tryd.checked) (X := fun w _ => laidMetH Tryd.prog laidL w) (fun _ _ _ hh h => h.of_heap hh) Tryd.own started (by kernel_rfl) Tryd.func9
    (ChangeSpec.witness_at (enc := enc) (C := Tryd.checked) (os := os) (X := fun w _ => laidMetH Tryd.prog laidL w) false (layW os) #[.agg #[.slice Option.none 0 0, .slice Option.none 0 0, .string ⟨#[]⟩, .string ⟨#[]⟩, .int .u16 0, .int .u16 0]] 8 rfl (by kernel_rfl) (by kernel_rfl) (by kernel_rfl) (by kernel_rfl) (by kernel_rfl) (lay_met os _)) ?_
  intro W base args ds gs before hval0 hW hcnd hsz _ _
  have hps : Tryd.f9.params.toList = [73] := by kernel_rfl
  obtain ⟨p, q, hA, hV, hbef, hfz, hnd⟩ := id hW
  rw [hps] at hA hsz
  have ⟨hr, hwf⟩ := lift_all [shUnr] (by kernel_rfl) hA
  obtain ⟨v, d, e1, rfl, hd⟩ := trodAll_one hA
  obtain ⟨_, _, e2, hw1, _⟩ := hwf
  obtain ⟨rfl, _⟩ := List.cons.inj e2
  subst e1
  have hwt := weights_cons (P := Tryd.prog) (t := 73) (d := d) (ds := gs) hsz
  obtain ⟨fs, hf, _⟩ := undUnr
  have r1 := relA hf (hval0 0 _ _ (by kernel_rfl) rfl) (relUnr hw1 hr.1)
  refine open_calls (call_of (unr_call hw1 hwt.1)) (t := 4) (ds := [d]) ⟨_, _, rfl, r1, rfl⟩ (by kernel_rfl) underBool rfl rfl Tryd.laidOut Tryd.mapsRowed Tryd.slicesOk (by rw [hps]; intro t ht; simp at ht; rcases ht with rfl; exact of_decide_eq_true (by kernel_rfl)) hW
theorem unread_holds : Rows.RecordsUnreadSaid :=
  OpenClaim.holds_of_wide 9 Tryd.f9 rfl rfl rfl rfl rfl rfl rfl ⟨rfl, rfl, rfl, rfl, rfl⟩ rfl rfl rfl rfl rfl (by kernel_rfl) Tryd.func9 (by kernel_rfl)
    (of_decide_eq_true (by kernel_rfl)) (by unfold Func.isWrapper; first | (rw [if_pos (by decide +kernel)]; kernel_rfl) | (rw [if_neg (by decide +kernel)]; exact ⟨rfl, rfl⟩))
    (fun os started H enc _ => unread_lifted os started H enc)
theorem unread_said : Rows.RecordsUnreadCardSaid :=
  Claim7.holds_tied_plain_at .later [] [.data, .pinned] true (true, "c6216772fa23618345da0e61fb6b64e81834fe3c41d4c2546afdeda0683467e7") false
    unread_holds (fun _ h => by cases h) (by kernel_rfl) (fun _ h => by cases h) recordsUnread_row_tie rfl ⟨rfl, rfl⟩ (by kernel_rfl) rfl
    (fun f fn hf hfn => by
      obtain rfl : f = 9 := Option.some.inj ((show Tryd.prog.funcNamed "gazette/gazettelaw14.RecordsUnread" = some 9 by kernel_rfl).symm.trans hf) |>.symm
      obtain rfl : fn = Tryd.f9 := (Option.some.inj (Tryd.func9.symm.trans hfn)).symm
      exact ⟨by kernel_rfl, fun j t ht => by
        rw [show Tryd.f9.params = #[73] by kernel_rfl] at ht
        have h3 : t = 73 := by
          rcases j with _ | j
          · simpa using ht.symm
          · simp at ht
        subst h3
        exact (show Tryd.prog.wantsStandIn 73 = false by kernel_rfl)⟩)
    (by kernel_rfl)
end Go.Proofs.YtjmdejbijigfjaaDoor

/-! Records: from the statement to RecordsOrder. -/
namespace Go.Proofs.YtjmdejbijigfjaaDoor
open Go.Ax Go.Shelf Go.RowKit Go.ChangeShapes Go.WideShapes Go.ChangeAt
set_option maxRecDepth 1000000
theorem undG : ∃ fs, Tryd.prog.underlying 47 = some (.struct fs) ∧ fs.toList.map (·.type) = [9, 9] := structTypes_ok (by kernel_rfl)
theorem relG {K : Type} {d : DataW K} (hd : shRng.wf d) {H : HH} {E : Env} {vs : List Value} (h : RelL (shRng.enc d) H E vs) : RelL (encG (toG d)) H E vs := by
  rw [toG_ok hd] at h
  exact h
theorem order_lifted (os : Os) (started : os.Started) (K : Type) (enc : TypeId × Value → K) :
    ReturnsInHanded {} Tryd.checked os 6 .any (fun w args => (Rows.recordsOrderSpec.pre enc Tryd.prog Tryd.f6 [] false w args ∧ laidMetH Tryd.prog laidL w) ∧ sizedMet enc Tryd.prog Tryd.f6 (OpenSpec.ofChange Rows.recordsOrderSpec) false w args)
      (Rows.recordsOrderSpec.post enc Tryd.prog Tryd.f6 false true false false) := by
  refine returnsInHanded_of_change_and (C := Tryd.checked) (X := fun w _ => laidMetH Tryd.prog laidL w) (fun _ _ _ hh h => h.of_heap hh) Tryd.own started (by kernel_rfl) Tryd.func6
    (ChangeSpec.witness_at (enc := enc) (C := Tryd.checked) (os := os) (X := fun w _ => laidMetH Tryd.prog laidL w) false (layW os) #[.slice Option.none 0 0, .slice Option.none 0 0, .agg #[.string ⟨#[]⟩, .string ⟨#[]⟩]] 8 rfl (by kernel_rfl) (by kernel_rfl) (by kernel_rfl) (by kernel_rfl) (by kernel_rfl) (lay_met os _)) ?_
  intro W base args ds gs before hval0 hW hcnd hsz _ _
  have hps : Tryd.f6.params.toList = [22, 22, 47] := by kernel_rfl
  obtain ⟨p, q, hA, hV, hbef, hfz, hnd⟩ := id hW
  rw [hps] at hA hsz
  have ⟨hr, hwf⟩ := lift_all [.sl shRec, .sl shRec, shRng] (by kernel_rfl) hA
  obtain ⟨v, v2, v3, d, d2, d3, _, _, _, e1, rfl, _, hd, hd2, hd3⟩ := trodAll_three hA
  obtain ⟨_, _, e2, hw1, _, _, e3, hw2, _, _, e4, hw3, _⟩ := hwf
  obtain ⟨rfl, e5⟩ := List.cons.inj e2
  subst e5
  obtain ⟨rfl, e6⟩ := List.cons.inj e3
  subst e6
  obtain ⟨rfl, _⟩ := List.cons.inj e4
  subst e1
  have hwt := weights_cons (P := Tryd.prog) (t := 22) (d := d) (ds := d2 :: d3 :: gs) hsz
  have hwt2 := weights_cons (P := Tryd.prog) (t := 22) (d := d2) (ds := d3 :: gs) hwt.2
  have k1 := rs_sized hwt.1
  have k2 := rs_sized hwt2.1
  have r1 := hr.1
  have r2 := hr.2.1
  rw [slAV_eq] at r1 r2
  obtain ⟨s1, n1, c1, rfl⟩ := okWide_slice undRs (hval0 0 _ _ (by kernel_rfl) rfl)
  obtain ⟨s2, n2, c2, rfl⟩ := okWide_slice undRs (hval0 1 _ _ (by kernel_rfl) rfl)
  obtain ⟨_, _, er, r1, _⟩ := r1
  cases er
  obtain ⟨_, _, er, r2, _⟩ := r2
  cases er
  obtain ⟨fs, hf, _⟩ := undG
  have r3 := relA hf (hval0 2 _ _ (by kernel_rfl) rfl) (relG hw3 hr.2.2.1)
  have f : Ord.Facts ⟨listOf toRec d, listOf toRec d2, toG d3, (ke (toG d3) (listOf toRec d)).end, ((jo0 (listOf toRec d) (listOf toRec d2)).run.getD (jo0 (listOf toRec d) (listOf toRec d2))).end⟩ := ⟨by show (listOf toRec d).length ≤ _; omega, by show (listOf toRec d2).length ≤ _; omega, rfl, rfl⟩
  refine open_calls (call_of (or_c _ f)) (t := 4) (ds := [d, d2, d3]) ⟨_, _, rfl, relRs hw1 r1, _, _, rfl, relRs hw2 r2, _, _, rfl, r3, rfl⟩ (by kernel_rfl) underBool rfl rfl Tryd.laidOut Tryd.mapsRowed Tryd.slicesOk (by rw [hps]; intro t ht; simp at ht; rcases ht with rfl | rfl <;> exact of_decide_eq_true (by kernel_rfl)) hW
theorem order_holds : Rows.RecordsOrderSaid :=
  OpenClaim.holds_of_wide 6 Tryd.f6 rfl rfl rfl rfl rfl rfl rfl ⟨rfl, rfl, rfl, rfl, rfl⟩ rfl rfl rfl rfl rfl (by kernel_rfl) Tryd.func6 (by kernel_rfl)
    (of_decide_eq_true (by kernel_rfl)) (by unfold Func.isWrapper; first | (rw [if_pos (by decide +kernel)]; kernel_rfl) | (rw [if_neg (by decide +kernel)]; exact ⟨rfl, rfl⟩))
    (fun os started H enc _ => order_lifted os started H enc)
theorem order_said : Rows.RecordsOrderCardSaid :=
  Claim7.holds_tied_plain_at .later [] [.data, .pinned] true (true, "c6216772fa23618345da0e61fb6b64e81834fe3c41d4c2546afdeda0683467e7") false
    order_holds (fun _ h => by cases h) (by kernel_rfl) (fun _ h => by cases h) recordsOrder_row_tie rfl ⟨rfl, rfl⟩ (by kernel_rfl) rfl
    (fun f fn hf hfn => by
      obtain rfl : f = 6 := Option.some.inj ((show Tryd.prog.funcNamed "gazette/gazettelaw14.RecordsOrder" = some 6 by kernel_rfl).symm.trans hf) |>.symm
      obtain rfl : fn = Tryd.f6 := (Option.some.inj (Tryd.func6.symm.trans hfn)).symm
      exact ⟨by kernel_rfl, fun j t ht => by
        rw [show Tryd.f6.params = #[22, 22, 47] by kernel_rfl] at ht
        have h3 : t = 22 ∨ t = 47 := by
          rcases j with _ | _ | _ | j
          · exact Or.inl (by simpa using ht.symm)
          · exact Or.inl (by simpa using ht.symm)
          · exact Or.inr (by simpa using ht.symm)
          · simp at ht
        rcases h3 with rfl | rfl
        · exact (show Tryd.prog.wantsStandIn 22 = false by kernel_rfl)
        · exact (show Tryd.prog.wantsStandIn 47 = false by kernel_rfl)⟩)
    (by kernel_rfl)
end Go.Proofs.YtjmdejbijigfjaaDoor
