/- PROVED: PartfsmNames, the errors by their numbers, and the examples. CONDITIONS: as the given card says. -/
import Derived.Test.YtnbhdjadlbhknaaGreatDoorRows
import Derived.Test.YtnbhdjadlbhknaaGreatDoorTie
import Derived.Test.YtnbhdjadlbhknaaGreatDoorCards
import Derived.OpenShut
import Derived.Lay
import Derived.Handed
import Derived.SevenTiedAt
import Derived.LaidHandle
import Derived.Test.YtnbhdjadlbhknaaGreatDoorE10
import Derived.Test.YtnbhdjadlbhknaaGreatDoorW3
import Derived.Test.YtnbhdjadlbhknaaGreatDoorW5
set_option linter.unusedVariables false
set_option linter.unusedSimpArgs false
set_option linter.unusedSectionVars false
/-! Lineage, plain: what is kept of a state may be a state. -/
namespace Go.Proofs.YtnbhdjadlbhknaaGreatDoor.D
open Go.Ax
set_option maxRecDepth 1000000
theorem logFrom_all (l : List Rec) : logFrom l 0 = true ↔ ∀ k, k < l.length → okR (l.getD k default) k = true := by
  unfold logFrom
  rw [List.all_eq_true]
  constructor
  · intro h k hk; exact h k (by simp; omega)
  · intro h k hk
    simp at hk
    exact h k (by omega)
/-! the table -/
/-! consumers -/
theorem map_len (l : List Con) (to : List Int) (h : to.length ≠ 0) : (mapU l to l.length).length = l.length := by
  simp [mapU, h]
theorem map_at {l : List Con} {to : List Int} (h : to.length ≠ 0) {k : Nat} (hk : k < l.length) : (mapU l to l.length).getD k default = movC to (l.getD k default) := by
  simp [mapU, h, hk]
theorem cons_iff (l : List Con) : coFrom l 0 = true ↔ ∀ k, k < l.length → coOk l k = true := by
  unfold coFrom
  rw [List.all_eq_true]
  constructor
  · intro h k hk; exact h k (by simp; omega)
  · intro h k hk
    simp at hk
    exact h k (by omega)
theorem map_cons {l : List Con} {to : List Int} (ht : to.length ≠ 0) (h : isCons l = true) : isCons (mapU l to l.length) = true := by
  simp only [isCons, Bool.and_eq_true, decide_eq_true_eq] at h ⊢
  rw [map_len l to ht]
  refine ⟨(cons_iff _).2 fun k hk => ?_, h.2⟩
  rw [map_len l to ht] at hk
  have h1 := (cons_iff _).1 h.1 k hk
  unfold coOk at *
  rw [map_at ht hk]
  by_cases h0 : 0 < k
  · rw [map_at ht (show k - 1 < l.length by omega)]
    exact h1
  · simp only [h0, decide_false, Bool.false_and] at h1 ⊢
    exact h1
theorem lost_iff {p : Part} {x : P.Producer} : lostB p x = false ↔ (x.here = true → x.offset < p.recs.length ∧ (p.recs.getD x.offset.toNat default).prod = x.id ∧ (p.recs.getD x.offset.toNat default).seq = x.seq) := by
  unfold lostB
  generalize p.recs.getD x.offset.toNat default = y
  cases hh : x.here
  · simp
  · simp only [Bool.true_and, Bool.or_eq_false_iff, decide_eq_false_iff_not, bne_eq_false_iff_eq, forall_const]
    constructor
    · rintro ⟨a, b, c⟩; exact ⟨by omega, b, c⟩
    · rintro ⟨a, b, c⟩; exact ⟨by omega, b, c⟩
theorem lost_all {p : Part} : p.prods.any (lostB p) = false ↔ ∀ x ∈ p.prods, lostB p x = false := by
  rw [List.any_eq_false]
  constructor
  · intro h x hx; simpa using h x hx
  · intro h x hx; simp [h x hx]
end Go.Proofs.YtnbhdjadlbhknaaGreatDoor.D

/-! Shards' states, plain: what a command makes of a state that may be may be. -/
namespace Go.Proofs.YtnbhdjadlbhknaaGreatDoor.R
open Go.Ax
set_option maxRecDepth 1000000
theorem take_zero {l : List P.Producer} {x : P.Producer} : P.takeE l x = 0 ↔ P.isTable l = true ∧ P.judgeV l x.id x.seq = 1 ∧ (P.findI l x.id = true ∨ ¬ l.length = 256) := by
  unfold P.takeE
  by_cases ht : P.isTable l = true
  · by_cases h4 : P.judgeV l x.id x.seq = 4
    · simp [ht, h4]
    · by_cases h5 : P.judgeV l x.id x.seq = 1
      · cases hf : P.findI l x.id
        · by_cases hn : l.length = 256
          · simp [ht, h5, hn]
          · simp [ht, h5, hn]
        · simp [ht, h5]
      · simp [ht, h4, h5]
  · simp [ht]
theorem oth_lt {l : List P.Producer} {x : P.Producer} (h : P.findI l x.id = true) : (P.oth l x).length < l.length := by
  have ⟨h1, h2⟩ := P.find_of h
  unfold P.oth
  rw [List.length_filter_lt_length_iff_exists]
  exact ⟨_, h1, by simp [P.keep, h2]⟩
theorem oth_le (l : List P.Producer) (x : P.Producer) : (P.oth l x).length ≤ l.length := List.length_filter_le _ _
theorem put_tab {l : List P.Producer} {x : P.Producer} (h : P.takeE l x = 0) (g : x.here = true ∨ x.offset = 0) : P.isTable (P.putL l x) = true := by
  have ⟨h1, h2, h3⟩ := take_zero.1 h
  have ⟨h4, r, n⟩ := (P.table_iff l).1 h1
  rw [P.table_iff]
  refine ⟨fun z hz => ?_, P.putL_rising r, ?_⟩
  · rcases P.mem_putL'.1 hz with rfl | ⟨hz, _⟩
    · have hb := ((P.judge_new l z.id z.seq).1 h2).1
      simp [P.badN] at hb
      exact ⟨hb.1, hb.2.1, hb.2.2, g⟩
    · exact h4 z hz
  · rw [P.putL_len]
    rcases h3 with h3 | h3
    · have := oth_lt h3; omega
    · have := oth_le l x; omega
/-! the highest number of each producer -/
theorem knP_app (l : List P.Producer) (x : P.Producer) : knP (l ++ [x]) = (knP l).put x.id x.seq := by simp [knP]
theorem knP_sel (l : List P.Producer) (a : Int) : (Kn.sel (knP l) a = 0 ∧ ∀ x ∈ l, x.id ≠ a) ∨ ∃ x ∈ l, x.id = a ∧ Kn.sel (knP l) a = x.seq := by
  refine D.snoc_ind (P := fun l => (Kn.sel (knP l) a = 0 ∧ ∀ x ∈ l, x.id ≠ a) ∨ ∃ x ∈ l, x.id = a ∧ Kn.sel (knP l) a = x.seq) ?_ ?_ l
  · exact .inl ⟨rfl, fun x hx => by cases hx⟩
  · intro l x ih
    rw [knP_app, D.sel_put]
    by_cases h : x.id = a
    · rw [if_pos h]; exact .inr ⟨x, by simp, h, rfl⟩
    · rw [if_neg h]
      rcases ih with ⟨h1, h2⟩ | ⟨y, h1, h2, h3⟩
      · refine .inl ⟨h1, fun y hy => ?_⟩
        rcases List.mem_append.1 hy with hy | hy
        · exact h2 y hy
        · simp at hy; subst hy; exact h
      · exact .inr ⟨y, by simp [h1], h2, h3⟩
theorem knP_mem {l : List P.Producer} (h : P.rising l) {x : P.Producer} (hx : x ∈ l) : Kn.sel (knP l) x.id = x.seq := by
  rcases knP_sel l x.id with ⟨_, h2⟩ | ⟨y, h1, h2, h3⟩
  · exact absurd rfl (h2 x hx)
  · rw [h3, P.pw_unique ((P.rising_pw l).1 h) h1 hx h2]
theorem knP_put {l : List P.Producer} (h : P.rising l) (x : P.Producer) (a : Int) : Kn.sel (knP (P.putL l x)) a = if a = x.id then x.seq else Kn.sel (knP l) a := by
  have hr : P.rising (P.putL l x) := P.putL_rising h
  by_cases e : a = x.id
  · subst e
    rw [if_pos rfl]
    exact knP_mem hr (P.mem_putL'.2 (.inl rfl))
  · rw [if_neg e]
    rcases knP_sel (P.putL l x) a with ⟨h1, h2⟩ | ⟨y, h1, h2, h3⟩
    · rw [h1]
      rcases knP_sel l a with ⟨h4, _⟩ | ⟨z, h4, h5, _⟩
      · exact h4.symm
      · exact absurd h5 (h2 z (P.mem_putL'.2 (.inr ⟨h4, by omega⟩)))
    · rw [h3]
      rcases P.mem_putL'.1 h1 with rfl | ⟨h4, _⟩
      · exact absurd h2.symm e
      · rw [← h2]; exact (knP_mem h h4).symm
theorem knP_new {l : List P.Producer} (h : P.rising l) {id seq : Int} (hj : P.judgeV l id seq = 1) : Kn.sel (knP l) id < seq ∧ 1 ≤ seq := by
  have ⟨h1, h2⟩ := (P.judge_fresh h id seq).1 hj
  simp [P.badN] at h1
  refine ⟨?_, h1.2.1⟩
  rcases knP_sel l id with ⟨h3, _⟩ | ⟨y, h3, h4, h5⟩
  · omega
  · have := h2 y h3 h4; omega
theorem knP_le {l : List P.Producer} {x : P.Producer} (h : P.takeE l x = 0) (a : Int) : Kn.sel (knP l) a ≤ Kn.sel (knP (P.putL l x)) a := by
  have ⟨h1, h2, _⟩ := take_zero.1 h
  have r := P.table_rising h1
  rw [knP_put r]
  by_cases e : a = x.id
  · rw [if_pos e, e]
    have := knP_new r h2
    omega
  · rw [if_neg e]; exact Int.le_refl _
theorem ord_put {g : Rng} {l : List P.Producer} {x : P.Producer} {r : List Rec} (h : P.takeE l x = 0) (ho : D.ordL g (knP l) r) : D.ordL g (knP (P.putL l x)) r :=
  ⟨fun y hy => ⟨(ho.1 y hy).1, (ho.1 y hy).2.1, Int.le_trans (ho.1 y hy).2.2 (knP_le h y.prod)⟩, ho.2⟩
theorem ord_app {g : Rng} {l : List P.Producer} {x : P.Producer} {r : List Rec} {y : Rec} (h : P.takeE l x = 0) (hi : y.prod = x.id) (hs : y.seq = x.seq) (hk : hasK g y.key = true) (ho : D.ordL g (knP l) r) : D.ordL g (knP (P.putL l x)) (r ++ [y]) := by
  have ⟨h1, h2, _⟩ := take_zero.1 h
  have hr := P.table_rising h1
  have hn := knP_new hr h2
  have h3 := ord_put h ho
  constructor
  · intro z hz
    rcases List.mem_append.1 hz with hz | hz
    · exact h3.1 z hz
    · simp at hz
      subst hz
      refine ⟨hk, by omega, ?_⟩
      rw [knP_put hr, if_pos hi]; omega
  · rw [List.pairwise_append]
    refine ⟨ho.2, by simp, fun a ha b hb => ?_⟩
    simp at hb
    subst hb
    intro e
    have := (ho.1 a ha).2.2
    rw [e, hi] at this
    omega
/-! consumers -/
theorem putL_same : ∀ {l : List Con} {x : Con}, l.Pairwise (fun a b => lt a.name b.name = true) → inC l x.name = true → (putL l x).length = l.length
  | [], x, _, h => by simp [inC] at h
  | y :: t, x, hp, h => by
    rw [putL_cons]
    rw [List.pairwise_cons] at hp
    cases h1 : lt y.name x.name
    · by_cases h2 : y.name.data = x.name.data
      · simp [h2]
      · exfalso
        simp only [inC, List.any_cons, Bool.or_eq_true] at h
        rcases h with h | h
        · simp [eqN] at h
          exact h2 h
        · rw [List.any_eq_true] at h
          obtain ⟨z, hz, e⟩ := h
          have h3 := hp.1 z hz
          simp [eqN] at e
          have e2 : z.name = x.name := ByteArray.ext e
          rw [e2, h1] at h3; cases h3
    · simp only [if_true, List.length_cons]
      have h2 : inC t x.name = true := by
        simp only [inC, List.any_cons, Bool.or_eq_true] at h
        rcases h with h | h
        · simp [eqN] at h
          have e2 : y.name = x.name := ByteArray.ext h
          rw [e2, D.lt_irr] at h1; cases h1
        · exact h
      rw [putL_same hp.2 h2]
theorem cons_name {l : List Con} (h : isCons l = true) : ∀ z ∈ l, nameOk z.name = true := by
  intro z hz
  obtain ⟨k, hk, rfl⟩ := List.mem_iff_getElem.1 hz
  simp only [isCons, Bool.and_eq_true] at h
  have := (D.cons_iff l).1 h.1 k hk
  simp [coOk, hk] at this
  exact this.1
theorem cons_of {l : List Con} (h1 : ∀ z ∈ l, nameOk z.name = true) (h2 : risC l) (h3 : l.length ≤ 64) : isCons l = true := by
  simp only [isCons, Bool.and_eq_true, decide_eq_true_eq, h3, and_true]
  rw [D.cons_iff]
  intro k hk
  have a := h1 l[k] (List.getElem_mem hk)
  simp only [coOk, Bool.and_eq_true]
  refine ⟨by simpa [hk] using a, ?_⟩
  by_cases h0 : 0 < k
  · have := h2 (k - 1) k (by omega) hk
    rw [this]; simp
  · simp [h0]
theorem com_zero {l : List Con} {x : Con} {e : Int} (h : comE l x e = 0) : isCons l = true ∧ nameOk x.name = true ∧ x.off ≤ e ∧ (inC l x.name = true ∨ l.length ≠ 64) := by
  unfold comE at h
  cases h1 : isCons l
  · simp [h1] at h
  · cases h2 : nameOk x.name
    · simp [h1, h2] at h
    · by_cases h3 : e < x.off
      · simp [h1, h2, h3] at h
      · cases h4 : inC l x.name
        · by_cases h5 : l.length = 64
          · simp [h1, h2, h3, h4, h5] at h
          · exact ⟨rfl, rfl, by omega, .inr h5⟩
        · exact ⟨rfl, rfl, by omega, .inl rfl⟩
theorem put_cons {l : List Con} {x : Con} {e : Int} (h : comE l x e = 0) : isCons (putL l x) = true := by
  obtain ⟨h1, h2, _, h4⟩ := com_zero h
  refine cons_of (put_mem h2 l (cons_name h1)) (put_ris (cons_ris h1)) ?_
  have h5 := cons_len h1
  rcases h4 with h4 | h4
  · rw [putL_same ((risC_pw l).1 (cons_ris h1)) h4]; exact h5
  · have := put_len l x; omega
/-! what a command makes of a state -/
theorem ok_mk {p : Part} (a : chkK p.rng = 0) (b : p.epoch ≠ 0) (c : isLog p.recs = true) (d : P.isTable p.prods = true) (e : isCons p.cons = true) (f : D.ordL p.rng (knP p.prods) p.recs) (g : ∀ x ∈ p.prods, lostB p x = false) (i : ∀ x ∈ p.cons, x.off ≤ (p.recs.length : Nat)) : partOk p = true := by
  have f' := (D.or_iff p).2 f
  have g' := D.lost_all.2 g
  have i' : p.cons.any (aheadB p.recs.length) = false := by
    rw [List.any_eq_false]
    intro x hx
    have := i x hx
    simp [aheadB]; exact this
  simp [partOk, a, b, c, d, e, f', g', i']
theorem ok_un {p : Part} (h : partOk p = true) : chkK p.rng = 0 ∧ p.epoch ≠ 0 ∧ isLog p.recs = true ∧ P.isTable p.prods = true ∧ isCons p.cons = true ∧ D.ordL p.rng (knP p.prods) p.recs ∧ (∀ x ∈ p.prods, lostB p x = false) ∧ ∀ x ∈ p.cons, x.off ≤ (p.recs.length : Nat) := by
  obtain ⟨a, b, c, d, e, f, g, i⟩ := D.ok_parts h
  refine ⟨a, b, c, d, e, (D.or_iff p).1 f, D.lost_all.1 g, fun x hx => ?_⟩
  rw [List.any_eq_false] at i
  have := i x hx
  simp [aheadB] at this; exact this
theorem app_zero {l : List Rec} {x : Rec} (h : appE l x = 0) : isLog l = true ∧ x.key.size ≤ 32 ∧ x.val.length ≤ 256 ∧ l.length ≠ 4096 := by
  unfold appE at h
  cases h1 : isLog l
  · simp [h1] at h
  · by_cases h2 : 32 < x.key.size
    · simp [h1, h2] at h
    · by_cases h3 : 256 < x.val.length
      · simp [h1, h2, h3] at h
      · by_cases h4 : l.length = 4096
        · simp [h1, h2, h3, h4] at h
        · exact ⟨rfl, by omega, by omega, h4⟩
theorem app_log {l : List Rec} {x : Rec} (h : appE l x = 0) : isLog (appL l x) = true := by
  obtain ⟨h1, h2, h3, h4⟩ := app_zero h
  have hl := log_len h1
  simp only [isLog, Bool.and_eq_true, decide_eq_true_eq] at h1 ⊢
  have hL : (appL l x).length = l.length + 1 := by simp [appL]
  refine ⟨(D.logFrom_all _).2 fun k hk => ?_, by omega⟩
  by_cases e : k < l.length
  · have := (D.logFrom_all _).1 h1.1 k e
    simpa [appL, List.getElem?_append_left e] using this
  · obtain rfl : k = l.length := by omega
    have : (appL l x).getD l.length default = x.to (IntKind.u64.wrap (l.length : Nat)) := by simp [appL]
    rw [this]
    simp [okR, Rec.to, h2, h3]
theorem pr_zero {p : Part} {c : Cmd} (h : prE p c = 0) : hasK p.rng c.key = true ∧ p.frozen = 0 ∧ appE p.recs (newR c) = 0 ∧ P.takeE p.prods (accP p c) = 0 := by
  unfold prE at h
  cases h1 : hasK p.rng c.key
  · simp [h1] at h
  · by_cases h2 : P.judgeV p.prods c.prod c.seq = 2
    · simp [h1, h2] at h
    · by_cases h3 : P.judgeV p.prods c.prod c.seq = 3
      · simp [h1, h3] at h
      · by_cases h4 : p.frozen = 0
        · by_cases h5 : appE p.recs (newR c) = 0
          · simp [h1, h2, h3, h4, h5] at h
            exact ⟨rfl, h4, h5, h⟩
          · simp [h1, h2, h3, h4, h5] at h
        · simp [h1, h2, h3, h4] at h
theorem cm_zero {p : Part} {c : Cmd} (h : cmE p c = 0) : p.frozen = 0 ∧ comE' p c = 0 ∧ P.takeE p.prods (pasP c) = 0 := by
  unfold cmE at h
  by_cases h2 : P.judgeV p.prods c.prod c.seq = 1
  · by_cases h4 : p.frozen = 0
    · by_cases h5 : comE' p c = 0
      · simp [h2, h4, h5] at h
        exact ⟨h4, h5, h⟩
      · simp [h2, h4, h5] at h
    · simp [h2, h4] at h
  · simp [h2] at h
theorem tab_len {l : List P.Producer} (h : P.isTable l = true) : l.length ≤ 256 := by
  simp [P.isTable] at h
  exact h.2
theorem prQ_ok {p : Part} {c : Cmd} (hp : D.PartTy p) (h : partOk p = true) (h0 : prE p c = 0) : partOk (prQ p c) = true ∧ D.PartTy (prQ p c) := by
  obtain ⟨a, b, hl, ht, hc, ho, hlo, ha⟩ := ok_un h
  obtain ⟨k1, _, k2, k3⟩ := pr_zero h0
  have q1 := app_log k2
  have q2 := put_tab k3 (.inl rfl)
  have n1 := log_len hl
  have hL : (appL p.recs (newR c)).length = p.recs.length + 1 := by simp [appL]
  have hlast : (appL p.recs (newR c)).getD p.recs.length default = (newR c).to (IntKind.u64.wrap (p.recs.length : Nat)) := by simp [appL]
  have hold : ∀ k, k < p.recs.length → (appL p.recs (newR c)).getD k default = p.recs.getD k default := fun k hk => by simp [appL, List.getElem?_append_left hk]
  refine ⟨ok_mk a b q1 q2 hc (ord_app k3 rfl rfl k1 ho) (fun x hx => ?_) (fun x hx => ?_), ⟨?_, ?_, hp.cl, fun x hx => ?_, hp.co⟩⟩
  · rw [D.lost_iff]
    intro hh
    show x.offset < (appL p.recs (newR c)).length ∧ ((appL p.recs (newR c)).getD x.offset.toNat default).prod = x.id ∧ ((appL p.recs (newR c)).getD x.offset.toNat default).seq = x.seq
    rcases P.mem_putL'.1 hx with rfl | ⟨hx, _⟩
    · have e : (accP p c).offset = (p.recs.length : Nat) := rfl
      rw [e, Int.toNat_natCast, hlast, hL]
      exact ⟨by omega, rfl, rfl⟩
    · have h1 := D.lost_iff.1 (hlo x hx) hh
      have h2 := (hp.po x hx).1
      rw [hold x.offset.toNat (by omega), hL]
      exact ⟨by omega, h1.2⟩
  · have h1 := ha x hx
    show x.off ≤ ((appL p.recs (newR c)).length : Nat)
    omega
  · show (appL p.recs (newR c)).length ≤ _
    omega
  · have := tab_len q2
    show (P.putL p.prods (accP p c)).length ≤ _
    omega
  · rcases P.mem_putL'.1 hx with rfl | ⟨hx, _⟩
    · show 0 ≤ (p.recs.length : Int) ∧ (p.recs.length : Int) < 18446744073709551616
      omega
    · exact hp.po x hx
theorem cmQ_ok {p : Part} {c : Cmd} (hp : D.PartTy p) (h : partOk p = true) (h0 : cmE p c = 0) (hc0 : 0 ≤ c.off ∧ c.off < 18446744073709551616) : partOk (cmQ p c) = true ∧ D.PartTy (cmQ p c) := by
  obtain ⟨a, b, hl, ht, hc, ho, hlo, ha⟩ := ok_un h
  obtain ⟨_, k2, k3⟩ := cm_zero h0
  have q2 := put_tab k3 (.inr rfl)
  have n1 := log_len hl
  have q3 : isCons (putL p.cons ⟨c.name, c.off⟩) = true := put_cons k2
  have q4 : c.off ≤ (p.recs.length : Nat) := by
    have := (com_zero k2).2.2.1
    rw [wrap_u64 (by omega) (by omega)] at this
    exact this
  refine ⟨ok_mk a b hl q2 q3 (ord_put k3 ho) (fun x hx => ?_) (put_mem (x := ⟨c.name, c.off⟩) (P := fun x => x.off ≤ (p.recs.length : Nat)) q4 _ ha), ⟨hp.rl, ?_, ?_, fun x hx => ?_, put_mem (x := ⟨c.name, c.off⟩) (P := fun x => offOk x.off) hc0 _ hp.co⟩⟩
  · rw [D.lost_iff]
    intro hh
    rcases P.mem_putL'.1 hx with rfl | ⟨hx, _⟩
    · exact absurd hh (by simp [pasP, P.mkP])
    · exact D.lost_iff.1 (hlo x hx) hh
  · have := tab_len q2
    show (P.putL p.prods (pasP c)).length ≤ _
    omega
  · have := cons_len q3
    show (putL p.cons ⟨c.name, c.off⟩).length ≤ _
    omega
  · rcases P.mem_putL'.1 hx with rfl | ⟨hx, _⟩
    · show 0 ≤ (0 : Int) ∧ (0 : Int) < 18446744073709551616
      omega
    · exact hp.po x hx
theorem frQ_ok {p : Part} {b : Int} (hp : D.PartTy p) (h : partOk p = true) : partOk (frQ p b) = true ∧ D.PartTy (frQ p b) := ⟨h, ⟨hp.rl, hp.pl, hp.cl, hp.po, hp.co⟩⟩
theorem dQ_cases {p : Part} {c : Cmd} (h : partOk p = true) : dQ p c = p ∨ ((dX p c).err = 0 ∧ c.kind ≠ 2 ∧ c.kind ≠ 4 ∧ ((c.kind = 1 ∧ prE p c = 0 ∧ dQ p c = prQ p c) ∨ (c.kind = 3 ∧ cmE p c = 0 ∧ dQ p c = cmQ p c) ∨ ((c.kind = 5 ∨ c.kind = 6) ∧ frB p c = false ∧ dQ p c = frQ p (byOf c)))) := by
  unfold dQ dX doQ doX
  simp only [h]
  by_cases h1 : wellB c = false
  · simp [h1]
  · by_cases h2 : c.epoch = p.epoch
    · by_cases h3 : actE p c = 0
      · simp only [h1, h2, h3]
        simp
        unfold actQ actX
        unfold actE un9 at h3
        by_cases k1 : c.kind = 1
        · by_cases e0 : prE p c = 0
          · simp [k1, e0]
          · simp [k1, e0]
        · by_cases k3 : c.kind = 3
          · by_cases e0 : cmE p c = 0
            · simp [k3, e0]
            · simp [k3, e0]
          · by_cases k5 : c.kind = 5
            · cases f : frB p c <;> simp [k5, f]
            · by_cases k6 : c.kind = 6
              · cases f : frB p c <;> simp [k6, f]
              · simp [k1, k3, k5, k6]
      · simp [h3]
    · simp [h2]
theorem dQ_ok {p : Part} {c : Cmd} (hp : D.PartTy p) (h : partOk p = true) (hc : 0 ≤ c.off ∧ c.off < 18446744073709551616) : partOk (dQ p c) = true ∧ D.PartTy (dQ p c) := by
  rcases dQ_cases (c := c) h with e | ⟨_, _, _, ⟨_, h1, e⟩ | ⟨_, h1, e⟩ | ⟨_, h1, e⟩⟩
  · rw [e]; exact ⟨h, hp⟩
  · rw [e]; exact prQ_ok hp h h1
  · rw [e]; exact cmQ_ok hp h h1 hc
  · rw [e]; exact frQ_ok hp h
/-! alike to itself -/
end Go.Proofs.YtnbhdjadlbhknaaGreatDoor.R

/-! Shards' states: a state that may be stays one. -/
namespace Go.Proofs.YtnbhdjadlbhknaaGreatDoor.R
open Go.Ax
set_option maxRecDepth 1000000
theorem runP_succ (p : Part) (l : List Cmd) {i : Nat} (h : i < l.length) : runP p l (i + 1) = dQ (runP p l i) (l.getD i default) := by
  unfold runP
  rw [List.take_add_one, List.foldl_append, List.getElem?_eq_getElem h]
  simp [List.getElem?_eq_getElem h]
/-- commands as they may be handed in -/
structure CmsOk (l : List Cmd) : Prop where
  n : l.length ≤ 4611686018427387903
  o : ∀ c ∈ l, 0 ≤ c.off ∧ c.off < 18446744073709551616
theorem CmsOk.at {l : List Cmd} (h : CmsOk l) {i : Nat} (hi : i < l.length) : 0 ≤ (l.getD i default).off ∧ (l.getD i default).off < 18446744073709551616 := h.o _ (by simp [hi])
theorem runP_ok {p : Part} {l : List Cmd} (hp : D.PartTy p) (ho : partOk p = true) (hl : CmsOk l) : ∀ i, partOk (runP p l i) = true ∧ D.PartTy (runP p l i)
  | 0 => by simp [runP, ho, hp]
  | i + 1 => by
    obtain ⟨h1, h2⟩ := runP_ok hp ho hl i
    by_cases hi : i < l.length
    · rw [runP_succ p l hi]
      exact dQ_ok h2 h1 (hl.at hi)
    · have e : runP p l (i + 1) = runP p l i := by
        unfold runP
        rw [List.take_of_length_le (by omega), List.take_of_length_le (by omega)]
      rw [e]; exact ⟨h1, h2⟩
theorem run_do {p : Part} {l : List Cmd} (hp : D.PartTy p) (ho : partOk p = true) (hl : CmsOk l) {i : Nat} (hi : i < l.length) : DoR (runP p l i) (l.getD i default) (runP p l (i + 1)) (dX (runP p l i) (l.getD i default)) :=
  ⟨runP_succ p l hi, rfl, (runP_ok hp ho hl i).2.isIn, hl.at hi⟩
end Go.Proofs.YtnbhdjadlbhknaaGreatDoor.R

/-! Shards' states: what was done stays done: the conditions. -/
namespace Go.Proofs.YtnbhdjadlbhknaaGreatDoor.R
open Go.Ax
set_option maxRecDepth 1000000
end Go.Proofs.YtnbhdjadlbhknaaGreatDoor.R

/-! Shards' states, plain: what was done stays done. -/
namespace Go.Proofs.YtnbhdjadlbhknaaGreatDoor.R
open Go.Ax
set_option maxRecDepth 1000000
end Go.Proofs.YtnbhdjadlbhknaaGreatDoor.R

/-! Shards' states: what was done stays done. -/
namespace Go.Proofs.YtnbhdjadlbhknaaGreatDoor.R
open Go.Ax
set_option maxRecDepth 1000000
end Go.Proofs.YtnbhdjadlbhknaaGreatDoor.R

/-! Shards' states: the examples. -/
namespace Go.Proofs.YtnbhdjadlbhknaaGreatDoor.R
open Go.Ax
set_option maxRecDepth 1000000
structure NaOk (l : List Cmd) (e o : List Int) (d : List Bool) (f : Nat → Part) (x : Nat → Res) : Prop where
  a : ∀ k, k < 20 → DoR (f k) (l.getD k default) (f (k + 1)) (x k)
  a2 : ∀ k, k < 20 → (x k).err = e.getD k default
  a3 : ∀ k, k < 20 → (x k).off = o.getD k 0
  a4 : ∀ k, k < 20 → (x k).old = d.getD k false
  a5 : ∀ k, k < 20 → (x k).recs.length = if k = 5 then 2 else 0
theorem na_loop (l : List Cmd) (e o : List Int) (d : List Bool) (f : Nat → Part) (x : Nat → Res) (h : NaOk l e o d f x) (k : Nat) : LoopOk Tryz.prog 3 10 (loopAt Tryz.prog 3 10) ⟨naT l e o d k, naM f k, []⟩ (T.map (lout naX (naS l)) (.ret ())) := by
  refine loop_vcH (P := Tryz.prog) (f := 3) (k := 10) (ι := Nat) (μ := fun k => 20 - k) (o := fun _ => .ret ()) (ht := naR l f x) (stT := naT l e o d) (stM := naM f) (X := naX) (S := naS l) Tryz.mixed (fun _ => rfl) (fun k => ?_) k
  rw [vcNaL_eq l e o d f x k]
  unfold vcNaL
  by_cases hk : k < 20
  · have hz : decide ((k : Int) < 20) = true := by simp; omega
    have hw : IntKind.i64.wrap ((k : Int) + 1) = ((k + 1 : Nat) : Int) := by rw [wrap_i64 (by omega) (by omega)]; omega
    have h1 := h.a k hk
    have h2 := h.a2 k hk
    have h3 := h.a3 k hk
    have h4 := h.a4 k hk
    have h5 := h.a5 k hk
    rw [Int.toNat_natCast]
    simp only [hz, hw]
    generalize l.getD k default = c at *
    generalize e.getD k default = e1 at *
    generalize o.getD k 0 = o1 at *
    generalize d.getD k false = d1 at *
    generalize f k = p at *
    generalize hq : f (k + 1) = q at *
    generalize x k = y at *
    by_cases k5 : k = 5
    · subst k5
      simp at h5
      simp [h1, h2, h3, h4, h5]
      exact ⟨6, by omega, by omega, by simp [hq]⟩
    · have k5' : ¬ ((k : Int) = 5) := by omega
      rw [if_neg k5] at h5
      simp [h1, h2, h3, h4, h5, k5', hw]
      exact ⟨k + 1, by omega, by omega, by simp [hq]⟩
  · have hz : decide ((k : Int) < 20) = false := by simp; omega
    simp only [hz]
    simp
theorem part0 : D.PartTy p0 := ⟨by decide, by decide, by decide, fun x hx => (by cases hx), fun x hx => (by cases hx)⟩
theorem nl_ok : CmsOk nL := ⟨by decide, by decide⟩
theorem lt20 {P : Nat → Prop} (h0 : P 0) (h1 : P 1) (h2 : P 2) (h3 : P 3) (h4 : P 4) (h5 : P 5) (h6 : P 6) (h7 : P 7) (h8 : P 8) (h9 : P 9) (h10 : P 10) (h11 : P 11) (h12 : P 12) (h13 : P 13) (h14 : P 14) (h15 : P 15) (h16 : P 16) (h17 : P 17) (h18 : P 18) (h19 : P 19) : ∀ k, k < 20 → P k
  | 0, _ => h0
  | 1, _ => h1
  | 2, _ => h2
  | 3, _ => h3
  | 4, _ => h4
  | 5, _ => h5
  | 6, _ => h6
  | 7, _ => h7
  | 8, _ => h8
  | 9, _ => h9
  | 10, _ => h10
  | 11, _ => h11
  | 12, _ => h12
  | 13, _ => h13
  | 14, _ => h14
  | 15, _ => h15
  | 16, _ => h16
  | 17, _ => h17
  | 18, _ => h18
  | 19, _ => h19
  | k + 20, h => by omega
theorem lt10 {P : Nat → Prop} (h0 : P 0) (h1 : P 1) (h2 : P 2) (h3 : P 3) (h4 : P 4) (h5 : P 5) (h6 : P 6) (h7 : P 7) (h8 : P 8) (h9 : P 9) : ∀ k, k < 10 → P k
  | 0, _ => h0
  | 1, _ => h1
  | 2, _ => h2
  | 3, _ => h3
  | 4, _ => h4
  | 5, _ => h5
  | 6, _ => h6
  | 7, _ => h7
  | 8, _ => h8
  | 9, _ => h9
  | k + 10, h => by omega
def nOk (k : Nat) : Bool := let y := dX (runP p0 nL k) (nL.getD k default); y.err == nE.getD k default && (y.off == nO.getD k 0 && (y.old == nD.getD k false && y.recs.length == (if k = 5 then 2 else 0)))
theorem n_ok : ∀ k, k < 20 → nOk k = true := lt20 (by kernel_rfl) (by kernel_rfl) (by kernel_rfl) (by kernel_rfl) (by kernel_rfl) (by kernel_rfl) (by kernel_rfl) (by kernel_rfl) (by kernel_rfl) (by kernel_rfl) (by kernel_rfl) (by kernel_rfl) (by kernel_rfl) (by kernel_rfl) (by kernel_rfl) (by kernel_rfl) (by kernel_rfl) (by kernel_rfl) (by kernel_rfl) (by kernel_rfl)
theorem na_ok : NaOk nL nE nO nD (runP p0 nL) (fun k => dX (runP p0 nL k) (nL.getD k default)) := by
  have key : ∀ k, k < 20 → _ := fun k hk => by
    have := n_ok k hk
    simp only [nOk, Bool.and_eq_true, beq_iff_eq] at this
    exact this
  refine ⟨fun k hk => run_do part0 (by kernel_rfl) nl_ok (show k < nL.length from hk), fun k hk => (key k hk).1, fun k hk => (key k hk).2.1, fun k hk => (key k hk).2.2.1, fun k hk => (key k hk).2.2.2⟩
theorem nd20 : DoR default (nL.getD 0 default) default ⟨165, 0, false, []⟩ := ⟨by kernel_rfl, by kernel_rfl, ⟨by decide, by decide, by decide, by decide⟩, by decide⟩
theorem nd21 : DoR nB nC nB ⟨163, 0, false, []⟩ := ⟨by kernel_rfl, by kernel_rfl, ⟨by decide, by decide, by decide, by decide⟩, by decide⟩
theorem names_c : (boolR true).Sat (ACall' Tryz.prog 3 [] []) := by
  refine ctr_vc (ht := naH nL nE nO nD (runP p0 nL)) Tryz.mixed rfl ?_
  rw [vcNa_eq nL nE nO nD (runP p0 nL)]
  unfold vcNa
  have lp := na_loop _ _ _ _ _ _ na_ok 0
  have eb : ({ data := #[] } : ByteArray) = ByteArray.empty := rfl
  have ek : ({ data := #[107] } : ByteArray) = kS := rfl
  have ej : ({ data := #[106] } : ByteArray) = jS := rfl
  have e9 : ({ data := #[98] } : ByteArray) = bS := rfl
  have h1 := nd20
  have h2 := nd21
  have e0 : runP p0 nL 0 = p0 := rfl
  simp only [eb, ek, ej, e9, lp, h1, h2]
  simp
  refine ⟨⟨?_, ?_, ?_, ?_⟩, rfl, rfl, rfl, rfl, rfl, rfl, rfl⟩
  · unfold contLe
    refine lt20 ?_ ?_ ?_ ?_ ?_ ?_ ?_ ?_ ?_ ?_ ?_ ?_ ?_ ?_ ?_ ?_ ?_ ?_ ?_ ?_
    all_goals refine lt10 ?_ ?_ ?_ ?_ ?_ ?_ ?_ ?_ ?_ ?_
    all_goals first | exact rfl | exact ⟨rfl, rfl, fun _ _ _ _ => rfl⟩
  · unfold contLe
    refine lt20 ?_ ?_ ?_ ?_ ?_ ?_ ?_ ?_ ?_ ?_ ?_ ?_ ?_ ?_ ?_ ?_ ?_ ?_ ?_ ?_
    all_goals (intro j hj; obtain rfl : j = 0 := by omega)
    all_goals exact rfl
  · unfold contLe
    refine lt20 ?_ ?_ ?_ ?_ ?_ ?_ ?_ ?_ ?_ ?_ ?_ ?_ ?_ ?_ ?_ ?_ ?_ ?_ ?_ ?_
    all_goals (intro j hj; obtain rfl : j = 0 := by omega)
    all_goals exact rfl
  · unfold contLe
    refine lt20 ?_ ?_ ?_ ?_ ?_ ?_ ?_ ?_ ?_ ?_ ?_ ?_ ?_ ?_ ?_ ?_ ?_ ?_ ?_ ?_
    all_goals (intro j hj; obtain rfl : j = 0 := by omega)
    all_goals exact rfl
end Go.Proofs.YtnbhdjadlbhknaaGreatDoor.R

/-! From the statements to the laws: the data. -/
namespace Go.Proofs.YtnbhdjadlbhknaaGreatDoor
open Go.Ax Go.Shelf Go.RowKit Go.ChangeShapes Go.WideShapes Go.ChangeAt
set_option maxRecDepth 1000000
theorem Tryz.own : ownKnob Tryz.prog.godebug = Option.none := by kernel_rfl
theorem Tryz.laidOut : laidOutB Tryz.prog = true := by kernel_rfl
theorem Tryz.mapsRowed : mapsRowed Tryz.prog = true := by kernel_rfl
theorem Tryz.slicesOk : slicesOk Tryz.prog = true := by kernel_rfl
theorem underBool : Tryz.prog.underlying 4 = some .bool := by kernel_rfl
end Go.Proofs.YtnbhdjadlbhknaaGreatDoor

/-! From the statements to the laws: records, consumers, producers, states. -/
namespace Go.Proofs.YtnbhdjadlbhknaaGreatDoor
open Go.Ax Go.Shelf Go.RowKit Go.ChangeShapes Go.WideShapes Go.ChangeAt
set_option maxRecDepth 1000000
end Go.Proofs.YtnbhdjadlbhknaaGreatDoor

/-! From the statements to the laws: commands; the handle. -/
namespace Go.Proofs.YtnbhdjadlbhknaaGreatDoor
open Go.Ax Go.Shelf Go.RowKit Go.ChangeShapes Go.WideShapes Go.ChangeAt
set_option maxRecDepth 1000000
/-! the handle -/
theorem hd_var : Tryz.prog.globalNamed "errors.errorType" = some 0 := by kernel_rfl
theorem hd_row : (Tryz.prog.cutTypes.find? (·.1 == "internal/reflectlite.rtype")).map (·.2) = some 191 := by kernel_rfl
theorem hd_one : ((List.range Tryz.prog.types.size).filter fun t => Tryz.prog.rowNamed t [101, 114, 114, 111, 114]) = [74] := by kernel_rfl
theorem gl_of {laid : List (String × DataW Unit)} {W : World} (hf : (laid.filter fun x => x.2.handleName?.isSome) = [("errors.errorType", Rows.laid_errors_errorType)]) (h : laidMetH Tryz.prog laid W) : GlOk W := by
  unfold laidMetH at h
  rw [hf] at h
  obtain ⟨name, u, ty, e1, e2, e3, e4, e5⟩ := h.2 _ (List.mem_singleton.2 rfl)
  have en : name = [101, 114, 114, 111, 114] := (Option.some.inj e1).symm
  subst en
  obtain rfl := Option.some.inj (hd_row.symm.trans e2)
  have hm : ty ∈ (List.range Tryz.prog.types.size).filter fun t => Tryz.prog.rowNamed t [101, 114, 114, 111, 114] := List.mem_filter.2 ⟨List.mem_range.2 e3, e4⟩
  rw [hd_one] at hm
  obtain rfl := List.mem_singleton.1 hm
  have hc := World.var?_cell hd_var e5 0
  intro p hp
  obtain rfl := List.mem_singleton.1 hp
  exact ⟨by kernel_rfl, hc⟩
/-- a world whose variable holds the handle -/
noncomputable def hdWorld (os : Os) : World :=
  { World.holding Tryz.prog os ⟨#[], #[], []⟩ with heap := (World.holding Tryz.prog os ⟨#[], #[], []⟩).heap.modify 0 fun
      | .cells _ t frozen => .cells #[.iface 191 (.agg #[typeHandle Tryz.prog 74])] t frozen
      | o => o }
theorem laidMet_lay {P : Program} {w0 : World} {laid : List (String × DataW Unit)} (args : Array Value) (hf : w0.layFits P laid [] = true) (hi : w0.layIfaces P laid (w0.layVars P laid) = true) :
    laidMet P laid ((w0.layVars P laid).forCall (fun _ _ => 0) ⟨#[], args, []⟩).memory := by
  have e1 : (laid.filter fun x => (laid.map (·.1)).contains x.1) = laid := List.filter_eq_self.2 fun x hx => List.contains_iff_mem.2 (List.mem_map.2 ⟨x, hx, rfl⟩)
  have e2 : (laid.filter fun x => !(laid.map (·.1)).contains x.1) = [] := List.filter_eq_nil_iff.2 fun x hx => by rw [List.contains_iff_mem.2 (List.mem_map.2 ⟨x, hx, rfl⟩)]; simp
  have h : laidMet P laid (w0.layVars P laid) := laidMet_layVars (w0 := w0) (laid.map (·.1)) [] (by rw [e1]) (by rw [e1]; exact hf) (by rw [e1]; exact hi) (by rw [e2]; exact LaidIn.none)
  exact h.of_heap (by simp [World.memory, World.forCall, Input.heap])
end Go.Proofs.YtnbhdjadlbhknaaGreatDoor

/-! Shards' states: from the statement to PartfsmNames. -/
namespace Go.Proofs.YtnbhdjadlbhknaaGreatDoor.R
open Go.Ax Go.Shelf Go.RowKit Go.ChangeShapes Go.WideShapes Go.ChangeAt
set_option maxRecDepth 1000000
def names_laidL : List (String × DataW Unit) := Rows.partfsmNamesRow.laid
noncomputable def names_layW (os : Os) : World := World.layVars Tryz.prog (hdWorld os) (names_laidL.filter fun x => x.2.handleName?.isNone)
theorem names_lay_met (os : Os) (args : Array Value) : laidMetH Tryz.prog names_laidL ((names_layW os).forCall (fun _ _ => 0) ⟨#[], args, []⟩).memory :=
  laidMetH_of_parts (laidMet_lay args (by kernel_rfl) (by kernel_rfl)) (by kernel_rfl)
theorem names_lifted (os : Os) (started : os.Started) (K : Type) (enc : TypeId × Value → K) :
    ReturnsInHanded {} Tryz.checked os 3 .any (fun w args => (Rows.partfsmNamesSpec.pre enc Tryz.prog Tryz.f3 [] false w args ∧ laidMetH Tryz.prog names_laidL w) ∧ sizedMet enc Tryz.prog Tryz.f3 (OpenSpec.ofChange Rows.partfsmNamesSpec) false w args)
      (Rows.partfsmNamesSpec.post enc Tryz.prog Tryz.f3 false true false false) := by
  refine returnsInHanded_of_change_and (C := Tryz.checked) (X := fun w _ => laidMetH Tryz.prog names_laidL w) (fun _ _ _ hh h => h.of_heap hh) Tryz.own started (by kernel_rfl) Tryz.func3
    (ChangeSpec.witness_at (enc := enc) (C := Tryz.checked) (os := os) (X := fun w _ => laidMetH Tryz.prog names_laidL w) false (names_layW os) #[] 8 rfl (by kernel_rfl) (by kernel_rfl) (by kernel_rfl) (by kernel_rfl) (by kernel_rfl) (names_lay_met os _)) ?_
  intro W base args ds gs before hval0 hW hcnd hsz hL _
  have hps : Tryz.f3.params.toList = [] := by kernel_rfl
  obtain ⟨p, q, hA, hV, hbef, hfz, hnd⟩ := id hW
  rw [hps] at hA
  obtain ⟨h1, rfl, _⟩ := trodAll_nil hA
  have h2 : args = #[] := by cases args; simp_all
  subst h2
  refine open_calls (call_of names_c) (t := 4) (ds := []) rfl (by kernel_rfl) underBool rfl rfl Tryz.laidOut Tryz.mapsRowed Tryz.slicesOk (by rw [hps]; intro t ht; simp at ht) hW (gl_of (by kernel_rfl) hL)
theorem names_holds : Rows.PartfsmNamesSaid :=
  OpenClaim.holds_of_wide 3 Tryz.f3 rfl rfl rfl rfl rfl rfl rfl ⟨rfl, rfl, rfl, rfl, rfl⟩ rfl rfl rfl rfl rfl (by kernel_rfl) Tryz.func3 (by kernel_rfl)
    (of_decide_eq_true (by kernel_rfl)) (by unfold Func.isWrapper; first | (rw [if_pos (by decide +kernel)]; kernel_rfl) | (rw [if_neg (by decide +kernel)]; exact ⟨rfl, rfl⟩))
    (fun os started H enc _ => names_lifted os started H enc)
theorem partfsmNames_said : Rows.PartfsmNamesCardSaid :=
  Claim7.holds_tied_plain_at .later [] [.data, .handle, .pinned] true (true, "4008c0ec14d4e8318941b98147842fa4797ed9bf7edcfa700debfb0742dcc49e") true
    names_holds (fun _ h => by cases h) (by kernel_rfl) (fun _ h => by cases h) partfsmNames_row_tie rfl ⟨rfl, rfl⟩ (by kernel_rfl) rfl
    (fun f fn hf hfn => by
      obtain rfl : f = 3 := Option.some.inj ((show Tryz.prog.funcNamed "gazette/gazettelaw16.PartfsmNames" = some 3 by kernel_rfl).symm.trans hf) |>.symm
      obtain rfl : fn = Tryz.f3 := (Option.some.inj (Tryz.func3.symm.trans hfn)).symm
      exact ⟨by kernel_rfl, fun j t ht => by
        rw [show Tryz.f3.params = #[] by kernel_rfl] at ht
        simp at ht⟩)
    (by kernel_rfl)
end Go.Proofs.YtnbhdjadlbhknaaGreatDoor.R
namespace Go.Proofs.YtnbhdjadlbhknaaGreatDoor
theorem names_said : Rows.PartfsmNamesCardSaid := R.partfsmNames_said
end Go.Proofs.YtnbhdjadlbhknaaGreatDoor
