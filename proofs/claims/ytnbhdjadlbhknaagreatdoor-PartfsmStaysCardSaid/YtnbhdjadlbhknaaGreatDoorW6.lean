/- PROVED: PartfsmStays, a state that may be stays one, and behind a fetch, a read and every error it is what it was, for every state and every list of commands. CONDITIONS: as the given card says. -/
import Derived.Test.YtnbhdjadlbhknaaGreatDoorRows
import Derived.Test.YtnbhdjadlbhknaaGreatDoorTie
import Derived.Test.YtnbhdjadlbhknaaGreatDoorCards
import Derived.OpenShut
import Derived.Lay
import Derived.Handed
import Derived.SevenTiedAt
import Derived.LaidHandle
import Derived.Test.YtnbhdjadlbhknaaGreatDoorE10
import Derived.Test.YtnbhdjadlbhknaaGreatDoorW3
import Derived.Test.YtnbhdjadlbhknaaGreatDoorW4
import Derived.Test.YtnbhdjadlbhknaaGreatDoorW5
set_option linter.unusedVariables false
set_option linter.unusedSimpArgs false
set_option linter.unusedSectionVars false
/-! Lineage, plain: what a state is; what is kept of one may be. -/
namespace Go.Proofs.YtnbhdjadlbhknaaGreatDoor.D
open Go.Ax
set_option maxRecDepth 1000000
theorem snoc_ind {α : Type} {P : List α → Prop} (h0 : P []) (h1 : ∀ l x, P l → P (l ++ [x])) (l : List α) : P l := by
  rw [← List.reverse_reverse l]
  induction l.reverse with
  | nil => exact h0
  | cons x r ih => rw [List.reverse_cons]; exact h1 _ _ ih
theorem sel_put (s : Kn) (a b x : Int) : Kn.sel (Kn.put s a b) x = if a = x then b else Kn.sel s x := by
  unfold Kn.sel Kn.put updHas updC selI
  by_cases h : a = x
  · simp [h]
  · simp [h]
theorem knR_app (l : List Rec) (x : Rec) : knR (l ++ [x]) = (knR l).put x.prod x.seq := by simp [knR]
/-- a number that is last, or none -/
theorem knR_sel (l : List Rec) (a : Int) : (Kn.sel (knR l) a = 0 ∧ ∀ x ∈ l, x.prod ≠ a) ∨ ∃ x ∈ l, x.prod = a ∧ Kn.sel (knR l) a = x.seq := by
  refine snoc_ind (P := fun l => (Kn.sel (knR l) a = 0 ∧ ∀ x ∈ l, x.prod ≠ a) ∨ ∃ x ∈ l, x.prod = a ∧ Kn.sel (knR l) a = x.seq) ?_ ?_ l
  · exact .inl ⟨rfl, fun x hx => by cases hx⟩
  · intro l x ih
    rw [knR_app, sel_put]
    by_cases h : x.prod = a
    · rw [if_pos h]; exact .inr ⟨x, by simp, h, rfl⟩
    · rw [if_neg h]
      rcases ih with ⟨h1, h2⟩ | ⟨y, h1, h2, h3⟩
      · refine .inl ⟨h1, fun y hy => ?_⟩
        rcases List.mem_append.1 hy with hy | hy
        · exact h2 y hy
        · simp at hy; subst hy; exact h
      · exact .inr ⟨y, by simp [h1], h2, h3⟩
def up1 (x y : Rec) : Prop := x.prod = y.prod → x.seq < y.seq
def recOk (g : Rng) (K : Kn) (x : Rec) : Prop := hasK g x.key = true ∧ 0 < x.seq ∧ x.seq ≤ Kn.sel K x.prod
def ordL (g : Rng) (K : Kn) (l : List Rec) : Prop := (∀ x ∈ l, recOk g K x) ∧ l.Pairwise up1
theorem orFrom_all (p : Part) : ∀ n k, p.recs.length - k = n → (orFrom p k = true ↔ ∀ j, k ≤ j → j < p.recs.length → okO p j = true) := by
  intro n
  induction n with
  | zero =>
    intro k hk
    rw [orFrom_end (by omega)]
    exact ⟨fun _ j h1 h2 => by omega, fun _ => rfl⟩
  | succ n ih =>
    intro k hk
    rw [orFrom_step (by omega), Bool.and_eq_true, ih (k + 1) (by omega)]
    constructor
    · rintro ⟨h1, h2⟩ j h3 h4
      rcases Nat.eq_or_lt_of_le h3 with rfl | h5
      · exact h1
      · exact h2 j h5 h4
    · intro h
      exact ⟨h k (Nat.le_refl _) (by omega), fun j h1 h2 => h j (by omega) h2⟩
theorem okO_iff {p : Part} {k : Nat} (h : k < p.recs.length) : okO p k = true ↔ hasK p.rng p.recs[k].key = true ∧ Kn.sel (knR (p.recs.take k)) p.recs[k].prod < p.recs[k].seq ∧ p.recs[k].seq ≤ Kn.sel (knP p.prods) p.recs[k].prod := by
  unfold okO
  simp [List.getElem?_eq_getElem h]
theorem knR_le {g : Rng} {K : Kn} : ∀ {l : List Rec}, ordL g K l → ∀ x ∈ l, x.seq ≤ Kn.sel (knR l) x.prod := by
  intro l
  refine snoc_ind (P := fun l => ordL g K l → ∀ x ∈ l, x.seq ≤ Kn.sel (knR l) x.prod) ?_ ?_ l
  · intro _ x hx; cases hx
  · intro l y ih h x hx
    rw [knR_app, sel_put]
    have h2 : ordL g K l := ⟨fun z hz => h.1 z (by simp [hz]), (List.pairwise_append.1 h.2).1⟩
    have h3 := (List.pairwise_append.1 h.2).2.2
    rcases List.mem_append.1 hx with hx | hx
    · by_cases e : y.prod = x.prod
      · rw [if_pos e]
        have := h3 x hx y (by simp) e.symm
        omega
      · rw [if_neg e]; exact ih h2 x hx
    · simp at hx; subst hx; rw [if_pos rfl]; exact Int.le_refl _
theorem ord_take {p : Part} (h : ∀ j, j < p.recs.length → okO p j = true) : ∀ k, k ≤ p.recs.length → ordL p.rng (knP p.prods) (p.recs.take k) := by
  intro k
  induction k with
  | zero => intro _; exact ⟨fun x hx => by simp at hx, by simp⟩
  | succ k ih =>
    intro hk
    have ih := ih (by omega)
    obtain ⟨o1, o2, o3⟩ := (okO_iff (by omega)).1 (h k (by omega))
    rw [List.take_add_one, List.getElem?_eq_getElem (by omega)]
    have hs : ∀ x ∈ p.recs.take k, x.prod = p.recs[k].prod → x.seq < p.recs[k].seq := fun x hx e => by
      have := knR_le ih x hx
      rw [e] at this
      omega
    have h0 : 0 < p.recs[k].seq := by
      rcases knR_sel (p.recs.take k) p.recs[k].prod with ⟨q, _⟩ | ⟨x, hx, hx2, q⟩
      · omega
      · have := (ih.1 x hx).2.1
        omega
    refine ⟨fun x hx => ?_, ?_⟩
    · rcases List.mem_append.1 hx with hx | hx
      · exact ih.1 x hx
      · simp at hx; subst hx; exact ⟨o1, h0, o3⟩
    · refine List.pairwise_append.2 ⟨ih.2, by simp, fun x hx y hy => ?_⟩
      simp at hy; subst hy
      exact hs x hx
theorem or_iff (p : Part) : orFrom p 0 = true ↔ ordL p.rng (knP p.prods) p.recs := by
  rw [orFrom_all p _ 0 rfl]
  constructor
  · intro h
    have := ord_take (fun j hj => h j (Nat.zero_le _) hj) p.recs.length (Nat.le_refl _)
    rwa [List.take_length] at this
  · intro h j _ hj
    have hx := h.1 p.recs[j] (List.getElem_mem hj)
    refine (okO_iff hj).2 ⟨hx.1, ?_, hx.2.2⟩
    rcases knR_sel (p.recs.take j) p.recs[j].prod with ⟨q, _⟩ | ⟨x, h1, h2, q⟩
    · have := hx.2.1; omega
    · rw [q]
      have hp := h.2
      rw [← List.take_append_drop j p.recs] at hp
      refine (List.pairwise_append.1 hp).2.2 x h1 _ ?_ h2
      rw [List.mem_iff_getElem]
      exact ⟨0, by simp; omega, by simp⟩
/-! what is kept -/
end Go.Proofs.YtnbhdjadlbhknaaGreatDoor.D

/-! Lineage, plain: what is kept of a state may be a state. -/
namespace Go.Proofs.YtnbhdjadlbhknaaGreatDoor.D
open Go.Ax
set_option maxRecDepth 1000000
theorem logFrom_all (l : List Rec) : logFrom l 0 = true ↔ ∀ k, k < l.length → okR (l.getD k default) k = true := by
  unfold logFrom
  rw [List.all_eq_true]
  constructor
  · intro h k hk; exact h k (by simp; omega)
  · intro h k hk
    simp at hk
    exact h k (by omega)
/-! the table -/
/-! consumers -/
theorem map_len (l : List Con) (to : List Int) (h : to.length ≠ 0) : (mapU l to l.length).length = l.length := by
  simp [mapU, h]
theorem map_at {l : List Con} {to : List Int} (h : to.length ≠ 0) {k : Nat} (hk : k < l.length) : (mapU l to l.length).getD k default = movC to (l.getD k default) := by
  simp [mapU, h, hk]
theorem cons_iff (l : List Con) : coFrom l 0 = true ↔ ∀ k, k < l.length → coOk l k = true := by
  unfold coFrom
  rw [List.all_eq_true]
  constructor
  · intro h k hk; exact h k (by simp; omega)
  · intro h k hk
    simp at hk
    exact h k (by omega)
theorem map_cons {l : List Con} {to : List Int} (ht : to.length ≠ 0) (h : isCons l = true) : isCons (mapU l to l.length) = true := by
  simp only [isCons, Bool.and_eq_true, decide_eq_true_eq] at h ⊢
  rw [map_len l to ht]
  refine ⟨(cons_iff _).2 fun k hk => ?_, h.2⟩
  rw [map_len l to ht] at hk
  have h1 := (cons_iff _).1 h.1 k hk
  unfold coOk at *
  rw [map_at ht hk]
  by_cases h0 : 0 < k
  · rw [map_at ht (show k - 1 < l.length by omega)]
    exact h1
  · simp only [h0, decide_false, Bool.false_and] at h1 ⊢
    exact h1
theorem lost_iff {p : Part} {x : P.Producer} : lostB p x = false ↔ (x.here = true → x.offset < p.recs.length ∧ (p.recs.getD x.offset.toNat default).prod = x.id ∧ (p.recs.getD x.offset.toNat default).seq = x.seq) := by
  unfold lostB
  generalize p.recs.getD x.offset.toNat default = y
  cases hh : x.here
  · simp
  · simp only [Bool.true_and, Bool.or_eq_false_iff, decide_eq_false_iff_not, bne_eq_false_iff_eq, forall_const]
    constructor
    · rintro ⟨a, b, c⟩; exact ⟨by omega, b, c⟩
    · rintro ⟨a, b, c⟩; exact ⟨by omega, b, c⟩
theorem lost_all {p : Part} : p.prods.any (lostB p) = false ↔ ∀ x ∈ p.prods, lostB p x = false := by
  rw [List.any_eq_false]
  constructor
  · intro h x hx; simpa using h x hx
  · intro h x hx; simp [h x hx]
end Go.Proofs.YtnbhdjadlbhknaaGreatDoor.D

/-! Shards' states, plain: what a command makes of a state that may be may be. -/
namespace Go.Proofs.YtnbhdjadlbhknaaGreatDoor.R
open Go.Ax
set_option maxRecDepth 1000000
theorem take_zero {l : List P.Producer} {x : P.Producer} : P.takeE l x = 0 ↔ P.isTable l = true ∧ P.judgeV l x.id x.seq = 1 ∧ (P.findI l x.id = true ∨ ¬ l.length = 256) := by
  unfold P.takeE
  by_cases ht : P.isTable l = true
  · by_cases h4 : P.judgeV l x.id x.seq = 4
    · simp [ht, h4]
    · by_cases h5 : P.judgeV l x.id x.seq = 1
      · cases hf : P.findI l x.id
        · by_cases hn : l.length = 256
          · simp [ht, h5, hn]
          · simp [ht, h5, hn]
        · simp [ht, h5]
      · simp [ht, h4, h5]
  · simp [ht]
theorem oth_lt {l : List P.Producer} {x : P.Producer} (h : P.findI l x.id = true) : (P.oth l x).length < l.length := by
  have ⟨h1, h2⟩ := P.find_of h
  unfold P.oth
  rw [List.length_filter_lt_length_iff_exists]
  exact ⟨_, h1, by simp [P.keep, h2]⟩
theorem oth_le (l : List P.Producer) (x : P.Producer) : (P.oth l x).length ≤ l.length := List.length_filter_le _ _
theorem put_tab {l : List P.Producer} {x : P.Producer} (h : P.takeE l x = 0) (g : x.here = true ∨ x.offset = 0) : P.isTable (P.putL l x) = true := by
  have ⟨h1, h2, h3⟩ := take_zero.1 h
  have ⟨h4, r, n⟩ := (P.table_iff l).1 h1
  rw [P.table_iff]
  refine ⟨fun z hz => ?_, P.putL_rising r, ?_⟩
  · rcases P.mem_putL'.1 hz with rfl | ⟨hz, _⟩
    · have hb := ((P.judge_new l z.id z.seq).1 h2).1
      simp [P.badN] at hb
      exact ⟨hb.1, hb.2.1, hb.2.2, g⟩
    · exact h4 z hz
  · rw [P.putL_len]
    rcases h3 with h3 | h3
    · have := oth_lt h3; omega
    · have := oth_le l x; omega
/-! the highest number of each producer -/
theorem knP_app (l : List P.Producer) (x : P.Producer) : knP (l ++ [x]) = (knP l).put x.id x.seq := by simp [knP]
theorem knP_sel (l : List P.Producer) (a : Int) : (Kn.sel (knP l) a = 0 ∧ ∀ x ∈ l, x.id ≠ a) ∨ ∃ x ∈ l, x.id = a ∧ Kn.sel (knP l) a = x.seq := by
  refine D.snoc_ind (P := fun l => (Kn.sel (knP l) a = 0 ∧ ∀ x ∈ l, x.id ≠ a) ∨ ∃ x ∈ l, x.id = a ∧ Kn.sel (knP l) a = x.seq) ?_ ?_ l
  · exact .inl ⟨rfl, fun x hx => by cases hx⟩
  · intro l x ih
    rw [knP_app, D.sel_put]
    by_cases h : x.id = a
    · rw [if_pos h]; exact .inr ⟨x, by simp, h, rfl⟩
    · rw [if_neg h]
      rcases ih with ⟨h1, h2⟩ | ⟨y, h1, h2, h3⟩
      · refine .inl ⟨h1, fun y hy => ?_⟩
        rcases List.mem_append.1 hy with hy | hy
        · exact h2 y hy
        · simp at hy; subst hy; exact h
      · exact .inr ⟨y, by simp [h1], h2, h3⟩
theorem knP_mem {l : List P.Producer} (h : P.rising l) {x : P.Producer} (hx : x ∈ l) : Kn.sel (knP l) x.id = x.seq := by
  rcases knP_sel l x.id with ⟨_, h2⟩ | ⟨y, h1, h2, h3⟩
  · exact absurd rfl (h2 x hx)
  · rw [h3, P.pw_unique ((P.rising_pw l).1 h) h1 hx h2]
theorem knP_put {l : List P.Producer} (h : P.rising l) (x : P.Producer) (a : Int) : Kn.sel (knP (P.putL l x)) a = if a = x.id then x.seq else Kn.sel (knP l) a := by
  have hr : P.rising (P.putL l x) := P.putL_rising h
  by_cases e : a = x.id
  · subst e
    rw [if_pos rfl]
    exact knP_mem hr (P.mem_putL'.2 (.inl rfl))
  · rw [if_neg e]
    rcases knP_sel (P.putL l x) a with ⟨h1, h2⟩ | ⟨y, h1, h2, h3⟩
    · rw [h1]
      rcases knP_sel l a with ⟨h4, _⟩ | ⟨z, h4, h5, _⟩
      · exact h4.symm
      · exact absurd h5 (h2 z (P.mem_putL'.2 (.inr ⟨h4, by omega⟩)))
    · rw [h3]
      rcases P.mem_putL'.1 h1 with rfl | ⟨h4, _⟩
      · exact absurd h2.symm e
      · rw [← h2]; exact (knP_mem h h4).symm
theorem knP_new {l : List P.Producer} (h : P.rising l) {id seq : Int} (hj : P.judgeV l id seq = 1) : Kn.sel (knP l) id < seq ∧ 1 ≤ seq := by
  have ⟨h1, h2⟩ := (P.judge_fresh h id seq).1 hj
  simp [P.badN] at h1
  refine ⟨?_, h1.2.1⟩
  rcases knP_sel l id with ⟨h3, _⟩ | ⟨y, h3, h4, h5⟩
  · omega
  · have := h2 y h3 h4; omega
theorem knP_le {l : List P.Producer} {x : P.Producer} (h : P.takeE l x = 0) (a : Int) : Kn.sel (knP l) a ≤ Kn.sel (knP (P.putL l x)) a := by
  have ⟨h1, h2, _⟩ := take_zero.1 h
  have r := P.table_rising h1
  rw [knP_put r]
  by_cases e : a = x.id
  · rw [if_pos e, e]
    have := knP_new r h2
    omega
  · rw [if_neg e]; exact Int.le_refl _
theorem ord_put {g : Rng} {l : List P.Producer} {x : P.Producer} {r : List Rec} (h : P.takeE l x = 0) (ho : D.ordL g (knP l) r) : D.ordL g (knP (P.putL l x)) r :=
  ⟨fun y hy => ⟨(ho.1 y hy).1, (ho.1 y hy).2.1, Int.le_trans (ho.1 y hy).2.2 (knP_le h y.prod)⟩, ho.2⟩
theorem ord_app {g : Rng} {l : List P.Producer} {x : P.Producer} {r : List Rec} {y : Rec} (h : P.takeE l x = 0) (hi : y.prod = x.id) (hs : y.seq = x.seq) (hk : hasK g y.key = true) (ho : D.ordL g (knP l) r) : D.ordL g (knP (P.putL l x)) (r ++ [y]) := by
  have ⟨h1, h2, _⟩ := take_zero.1 h
  have hr := P.table_rising h1
  have hn := knP_new hr h2
  have h3 := ord_put h ho
  constructor
  · intro z hz
    rcases List.mem_append.1 hz with hz | hz
    · exact h3.1 z hz
    · simp at hz
      subst hz
      refine ⟨hk, by omega, ?_⟩
      rw [knP_put hr, if_pos hi]; omega
  · rw [List.pairwise_append]
    refine ⟨ho.2, by simp, fun a ha b hb => ?_⟩
    simp at hb
    subst hb
    intro e
    have := (ho.1 a ha).2.2
    rw [e, hi] at this
    omega
/-! consumers -/
theorem putL_same : ∀ {l : List Con} {x : Con}, l.Pairwise (fun a b => lt a.name b.name = true) → inC l x.name = true → (putL l x).length = l.length
  | [], x, _, h => by simp [inC] at h
  | y :: t, x, hp, h => by
    rw [putL_cons]
    rw [List.pairwise_cons] at hp
    cases h1 : lt y.name x.name
    · by_cases h2 : y.name.data = x.name.data
      · simp [h2]
      · exfalso
        simp only [inC, List.any_cons, Bool.or_eq_true] at h
        rcases h with h | h
        · simp [eqN] at h
          exact h2 h
        · rw [List.any_eq_true] at h
          obtain ⟨z, hz, e⟩ := h
          have h3 := hp.1 z hz
          simp [eqN] at e
          have e2 : z.name = x.name := ByteArray.ext e
          rw [e2, h1] at h3; cases h3
    · simp only [if_true, List.length_cons]
      have h2 : inC t x.name = true := by
        simp only [inC, List.any_cons, Bool.or_eq_true] at h
        rcases h with h | h
        · simp [eqN] at h
          have e2 : y.name = x.name := ByteArray.ext h
          rw [e2, D.lt_irr] at h1; cases h1
        · exact h
      rw [putL_same hp.2 h2]
theorem cons_name {l : List Con} (h : isCons l = true) : ∀ z ∈ l, nameOk z.name = true := by
  intro z hz
  obtain ⟨k, hk, rfl⟩ := List.mem_iff_getElem.1 hz
  simp only [isCons, Bool.and_eq_true] at h
  have := (D.cons_iff l).1 h.1 k hk
  simp [coOk, hk] at this
  exact this.1
theorem cons_of {l : List Con} (h1 : ∀ z ∈ l, nameOk z.name = true) (h2 : risC l) (h3 : l.length ≤ 64) : isCons l = true := by
  simp only [isCons, Bool.and_eq_true, decide_eq_true_eq, h3, and_true]
  rw [D.cons_iff]
  intro k hk
  have a := h1 l[k] (List.getElem_mem hk)
  simp only [coOk, Bool.and_eq_true]
  refine ⟨by simpa [hk] using a, ?_⟩
  by_cases h0 : 0 < k
  · have := h2 (k - 1) k (by omega) hk
    rw [this]; simp
  · simp [h0]
theorem com_zero {l : List Con} {x : Con} {e : Int} (h : comE l x e = 0) : isCons l = true ∧ nameOk x.name = true ∧ x.off ≤ e ∧ (inC l x.name = true ∨ l.length ≠ 64) := by
  unfold comE at h
  cases h1 : isCons l
  · simp [h1] at h
  · cases h2 : nameOk x.name
    · simp [h1, h2] at h
    · by_cases h3 : e < x.off
      · simp [h1, h2, h3] at h
      · cases h4 : inC l x.name
        · by_cases h5 : l.length = 64
          · simp [h1, h2, h3, h4, h5] at h
          · exact ⟨rfl, rfl, by omega, .inr h5⟩
        · exact ⟨rfl, rfl, by omega, .inl rfl⟩
theorem put_cons {l : List Con} {x : Con} {e : Int} (h : comE l x e = 0) : isCons (putL l x) = true := by
  obtain ⟨h1, h2, _, h4⟩ := com_zero h
  refine cons_of (put_mem h2 l (cons_name h1)) (put_ris (cons_ris h1)) ?_
  have h5 := cons_len h1
  rcases h4 with h4 | h4
  · rw [putL_same ((risC_pw l).1 (cons_ris h1)) h4]; exact h5
  · have := put_len l x; omega
/-! what a command makes of a state -/
theorem ok_mk {p : Part} (a : chkK p.rng = 0) (b : p.epoch ≠ 0) (c : isLog p.recs = true) (d : P.isTable p.prods = true) (e : isCons p.cons = true) (f : D.ordL p.rng (knP p.prods) p.recs) (g : ∀ x ∈ p.prods, lostB p x = false) (i : ∀ x ∈ p.cons, x.off ≤ (p.recs.length : Nat)) : partOk p = true := by
  have f' := (D.or_iff p).2 f
  have g' := D.lost_all.2 g
  have i' : p.cons.any (aheadB p.recs.length) = false := by
    rw [List.any_eq_false]
    intro x hx
    have := i x hx
    simp [aheadB]; exact this
  simp [partOk, a, b, c, d, e, f', g', i']
theorem ok_un {p : Part} (h : partOk p = true) : chkK p.rng = 0 ∧ p.epoch ≠ 0 ∧ isLog p.recs = true ∧ P.isTable p.prods = true ∧ isCons p.cons = true ∧ D.ordL p.rng (knP p.prods) p.recs ∧ (∀ x ∈ p.prods, lostB p x = false) ∧ ∀ x ∈ p.cons, x.off ≤ (p.recs.length : Nat) := by
  obtain ⟨a, b, c, d, e, f, g, i⟩ := D.ok_parts h
  refine ⟨a, b, c, d, e, (D.or_iff p).1 f, D.lost_all.1 g, fun x hx => ?_⟩
  rw [List.any_eq_false] at i
  have := i x hx
  simp [aheadB] at this; exact this
theorem app_zero {l : List Rec} {x : Rec} (h : appE l x = 0) : isLog l = true ∧ x.key.size ≤ 32 ∧ x.val.length ≤ 256 ∧ l.length ≠ 4096 := by
  unfold appE at h
  cases h1 : isLog l
  · simp [h1] at h
  · by_cases h2 : 32 < x.key.size
    · simp [h1, h2] at h
    · by_cases h3 : 256 < x.val.length
      · simp [h1, h2, h3] at h
      · by_cases h4 : l.length = 4096
        · simp [h1, h2, h3, h4] at h
        · exact ⟨rfl, by omega, by omega, h4⟩
theorem app_log {l : List Rec} {x : Rec} (h : appE l x = 0) : isLog (appL l x) = true := by
  obtain ⟨h1, h2, h3, h4⟩ := app_zero h
  have hl := log_len h1
  simp only [isLog, Bool.and_eq_true, decide_eq_true_eq] at h1 ⊢
  have hL : (appL l x).length = l.length + 1 := by simp [appL]
  refine ⟨(D.logFrom_all _).2 fun k hk => ?_, by omega⟩
  by_cases e : k < l.length
  · have := (D.logFrom_all _).1 h1.1 k e
    simpa [appL, List.getElem?_append_left e] using this
  · obtain rfl : k = l.length := by omega
    have : (appL l x).getD l.length default = x.to (IntKind.u64.wrap (l.length : Nat)) := by simp [appL]
    rw [this]
    simp [okR, Rec.to, h2, h3]
theorem pr_zero {p : Part} {c : Cmd} (h : prE p c = 0) : hasK p.rng c.key = true ∧ p.frozen = 0 ∧ appE p.recs (newR c) = 0 ∧ P.takeE p.prods (accP p c) = 0 := by
  unfold prE at h
  cases h1 : hasK p.rng c.key
  · simp [h1] at h
  · by_cases h2 : P.judgeV p.prods c.prod c.seq = 2
    · simp [h1, h2] at h
    · by_cases h3 : P.judgeV p.prods c.prod c.seq = 3
      · simp [h1, h3] at h
      · by_cases h4 : p.frozen = 0
        · by_cases h5 : appE p.recs (newR c) = 0
          · simp [h1, h2, h3, h4, h5] at h
            exact ⟨rfl, h4, h5, h⟩
          · simp [h1, h2, h3, h4, h5] at h
        · simp [h1, h2, h3, h4] at h
theorem cm_zero {p : Part} {c : Cmd} (h : cmE p c = 0) : p.frozen = 0 ∧ comE' p c = 0 ∧ P.takeE p.prods (pasP c) = 0 := by
  unfold cmE at h
  by_cases h2 : P.judgeV p.prods c.prod c.seq = 1
  · by_cases h4 : p.frozen = 0
    · by_cases h5 : comE' p c = 0
      · simp [h2, h4, h5] at h
        exact ⟨h4, h5, h⟩
      · simp [h2, h4, h5] at h
    · simp [h2, h4] at h
  · simp [h2] at h
theorem tab_len {l : List P.Producer} (h : P.isTable l = true) : l.length ≤ 256 := by
  simp [P.isTable] at h
  exact h.2
theorem prQ_ok {p : Part} {c : Cmd} (hp : D.PartTy p) (h : partOk p = true) (h0 : prE p c = 0) : partOk (prQ p c) = true ∧ D.PartTy (prQ p c) := by
  obtain ⟨a, b, hl, ht, hc, ho, hlo, ha⟩ := ok_un h
  obtain ⟨k1, _, k2, k3⟩ := pr_zero h0
  have q1 := app_log k2
  have q2 := put_tab k3 (.inl rfl)
  have n1 := log_len hl
  have hL : (appL p.recs (newR c)).length = p.recs.length + 1 := by simp [appL]
  have hlast : (appL p.recs (newR c)).getD p.recs.length default = (newR c).to (IntKind.u64.wrap (p.recs.length : Nat)) := by simp [appL]
  have hold : ∀ k, k < p.recs.length → (appL p.recs (newR c)).getD k default = p.recs.getD k default := fun k hk => by simp [appL, List.getElem?_append_left hk]
  refine ⟨ok_mk a b q1 q2 hc (ord_app k3 rfl rfl k1 ho) (fun x hx => ?_) (fun x hx => ?_), ⟨?_, ?_, hp.cl, fun x hx => ?_, hp.co⟩⟩
  · rw [D.lost_iff]
    intro hh
    show x.offset < (appL p.recs (newR c)).length ∧ ((appL p.recs (newR c)).getD x.offset.toNat default).prod = x.id ∧ ((appL p.recs (newR c)).getD x.offset.toNat default).seq = x.seq
    rcases P.mem_putL'.1 hx with rfl | ⟨hx, _⟩
    · have e : (accP p c).offset = (p.recs.length : Nat) := rfl
      rw [e, Int.toNat_natCast, hlast, hL]
      exact ⟨by omega, rfl, rfl⟩
    · have h1 := D.lost_iff.1 (hlo x hx) hh
      have h2 := (hp.po x hx).1
      rw [hold x.offset.toNat (by omega), hL]
      exact ⟨by omega, h1.2⟩
  · have h1 := ha x hx
    show x.off ≤ ((appL p.recs (newR c)).length : Nat)
    omega
  · show (appL p.recs (newR c)).length ≤ _
    omega
  · have := tab_len q2
    show (P.putL p.prods (accP p c)).length ≤ _
    omega
  · rcases P.mem_putL'.1 hx with rfl | ⟨hx, _⟩
    · show 0 ≤ (p.recs.length : Int) ∧ (p.recs.length : Int) < 18446744073709551616
      omega
    · exact hp.po x hx
theorem cmQ_ok {p : Part} {c : Cmd} (hp : D.PartTy p) (h : partOk p = true) (h0 : cmE p c = 0) (hc0 : 0 ≤ c.off ∧ c.off < 18446744073709551616) : partOk (cmQ p c) = true ∧ D.PartTy (cmQ p c) := by
  obtain ⟨a, b, hl, ht, hc, ho, hlo, ha⟩ := ok_un h
  obtain ⟨_, k2, k3⟩ := cm_zero h0
  have q2 := put_tab k3 (.inr rfl)
  have n1 := log_len hl
  have q3 : isCons (putL p.cons ⟨c.name, c.off⟩) = true := put_cons k2
  have q4 : c.off ≤ (p.recs.length : Nat) := by
    have := (com_zero k2).2.2.1
    rw [wrap_u64 (by omega) (by omega)] at this
    exact this
  refine ⟨ok_mk a b hl q2 q3 (ord_put k3 ho) (fun x hx => ?_) (put_mem (x := ⟨c.name, c.off⟩) (P := fun x => x.off ≤ (p.recs.length : Nat)) q4 _ ha), ⟨hp.rl, ?_, ?_, fun x hx => ?_, put_mem (x := ⟨c.name, c.off⟩) (P := fun x => offOk x.off) hc0 _ hp.co⟩⟩
  · rw [D.lost_iff]
    intro hh
    rcases P.mem_putL'.1 hx with rfl | ⟨hx, _⟩
    · exact absurd hh (by simp [pasP, P.mkP])
    · exact D.lost_iff.1 (hlo x hx) hh
  · have := tab_len q2
    show (P.putL p.prods (pasP c)).length ≤ _
    omega
  · have := cons_len q3
    show (putL p.cons ⟨c.name, c.off⟩).length ≤ _
    omega
  · rcases P.mem_putL'.1 hx with rfl | ⟨hx, _⟩
    · show 0 ≤ (0 : Int) ∧ (0 : Int) < 18446744073709551616
      omega
    · exact hp.po x hx
theorem frQ_ok {p : Part} {b : Int} (hp : D.PartTy p) (h : partOk p = true) : partOk (frQ p b) = true ∧ D.PartTy (frQ p b) := ⟨h, ⟨hp.rl, hp.pl, hp.cl, hp.po, hp.co⟩⟩
theorem dQ_cases {p : Part} {c : Cmd} (h : partOk p = true) : dQ p c = p ∨ ((dX p c).err = 0 ∧ c.kind ≠ 2 ∧ c.kind ≠ 4 ∧ ((c.kind = 1 ∧ prE p c = 0 ∧ dQ p c = prQ p c) ∨ (c.kind = 3 ∧ cmE p c = 0 ∧ dQ p c = cmQ p c) ∨ ((c.kind = 5 ∨ c.kind = 6) ∧ frB p c = false ∧ dQ p c = frQ p (byOf c)))) := by
  unfold dQ dX doQ doX
  simp only [h]
  by_cases h1 : wellB c = false
  · simp [h1]
  · by_cases h2 : c.epoch = p.epoch
    · by_cases h3 : actE p c = 0
      · simp only [h1, h2, h3]
        simp
        unfold actQ actX
        unfold actE un9 at h3
        by_cases k1 : c.kind = 1
        · by_cases e0 : prE p c = 0
          · simp [k1, e0]
          · simp [k1, e0]
        · by_cases k3 : c.kind = 3
          · by_cases e0 : cmE p c = 0
            · simp [k3, e0]
            · simp [k3, e0]
          · by_cases k5 : c.kind = 5
            · cases f : frB p c <;> simp [k5, f]
            · by_cases k6 : c.kind = 6
              · cases f : frB p c <;> simp [k6, f]
              · simp [k1, k3, k5, k6]
      · simp [h3]
    · simp [h2]
theorem dQ_ok {p : Part} {c : Cmd} (hp : D.PartTy p) (h : partOk p = true) (hc : 0 ≤ c.off ∧ c.off < 18446744073709551616) : partOk (dQ p c) = true ∧ D.PartTy (dQ p c) := by
  rcases dQ_cases (c := c) h with e | ⟨_, _, _, ⟨_, h1, e⟩ | ⟨_, h1, e⟩ | ⟨_, h1, e⟩⟩
  · rw [e]; exact ⟨h, hp⟩
  · rw [e]; exact prQ_ok hp h h1
  · rw [e]; exact cmQ_ok hp h h1 hc
  · rw [e]; exact frQ_ok hp h
/-! alike to itself -/
theorem same_refl (p : Part) : samePt p p = true := by
  have h1 : sameRs p.recs p.recs = true := by
    simp [sameRs, sameF, eqRc]
  have h2 : P.sameP p.prods p.prods = true := by
    unfold P.sameP P.sameFrom; simp [P.eqP]
  have h3 : sameCs p.cons p.cons = true := by
    simp [sameCs, sameG, eqCc]
  simp [samePt, h1, h2, h3]
theorem dQ_same {p : Part} {c : Cmd} (h : partOk p = true) : samePt p (dQ p c) = true ∨ ((dX p c).err = 0 ∧ c.kind ≠ 2 ∧ c.kind ≠ 4) := by
  rcases dQ_cases (c := c) h with e | ⟨a, b, d, _⟩
  · rw [e]; exact .inl (same_refl p)
  · exact .inr ⟨a, b, d⟩
end Go.Proofs.YtnbhdjadlbhknaaGreatDoor.R

/-! Shards' states: a state that may be stays one. -/
namespace Go.Proofs.YtnbhdjadlbhknaaGreatDoor.R
open Go.Ax
set_option maxRecDepth 1000000
structure StOk (l : List Cmd) (f : Nat → Part) (x : Nat → Res) : Prop where
  n : l.length ≤ 9223372036854775806
  p : ∀ i, PartIn (f i)
  ok : ∀ i, partOk (f i) = true
  d : ∀ i, i < l.length → DoR (f i) (l.getD i default) (f (i + 1)) (x i)
  s : ∀ i, i < l.length → samePt (f i) (f (i + 1)) = true ∨ ((x i).err = 0 ∧ (l.getD i default).kind ≠ 2 ∧ (l.getD i default).kind ≠ 4)
theorem st_loop (l : List Cmd) (f : Nat → Part) (x : Nat → Res) (h : StOk l f x) (i : Nat) : LoopOk Tryz.prog 5 5 (loopAt Tryz.prog 5 5) ⟨stT l i, stM f i, []⟩ (T.map (lout stX stS) (.ret ())) := by
  refine loop_vcH (o := fun _ => .ret ()) (ht := stH l f x) (stT := stT l) (stM := stM f) Tryz.mixed (fun _ => rfl) (fun i => (vcStL_eq l f x i).mpr ?_) i
  unfold vcStL
  have hn := h.n
  by_cases hi : i < l.length
  · have hz : decide ((i : Int) < l.length) = true := by simp; omega
    have hw : IntKind.i64.wrap ((i : Int) + 1) = ((i + 1 : Nat) : Int) := by rw [wrap_i64 (by omega) (by omega)]; omega
    have h1 := h.p i
    have h2 := h.p (i + 1)
    have h3 := h.ok (i + 1)
    have h4 := h.d i hi
    have h5 := h.s i hi
    rw [Int.toNat_natCast]
    simp only [hz, hw]
    generalize l.getD i default = c at *
    generalize f i = p at *
    generalize hq : f (i + 1) = q at *
    generalize x i = y at *
    rcases h5 with h5 | ⟨h6, h7, h8⟩
    · simp [h1, h2, h3, h4, h5, hw]

      exact ⟨i + 1, by omega, by omega, by simp [hq]⟩
    · cases h5 : samePt p q
      · simp [h1, h2, h3, h4, h5, h6, h7, h8, hw]
        exact ⟨i + 1, by omega, by omega, by simp [hq]⟩
      · simp [h1, h2, h3, h4, h5, hw]
        exact ⟨i + 1, by omega, by omega, by simp [hq]⟩
  · have hz : decide ((i : Int) < l.length) = false := by simp; omega
    simp only [hz]
    simp
theorem runP_succ (p : Part) (l : List Cmd) {i : Nat} (h : i < l.length) : runP p l (i + 1) = dQ (runP p l i) (l.getD i default) := by
  unfold runP
  rw [List.take_add_one, List.foldl_append, List.getElem?_eq_getElem h]
  simp [List.getElem?_eq_getElem h]
/-- commands as they may be handed in -/
structure CmsOk (l : List Cmd) : Prop where
  n : l.length ≤ 4611686018427387903
  o : ∀ c ∈ l, 0 ≤ c.off ∧ c.off < 18446744073709551616
theorem CmsOk.at {l : List Cmd} (h : CmsOk l) {i : Nat} (hi : i < l.length) : 0 ≤ (l.getD i default).off ∧ (l.getD i default).off < 18446744073709551616 := h.o _ (by simp [hi])
theorem runP_ok {p : Part} {l : List Cmd} (hp : D.PartTy p) (ho : partOk p = true) (hl : CmsOk l) : ∀ i, partOk (runP p l i) = true ∧ D.PartTy (runP p l i)
  | 0 => by simp [runP, ho, hp]
  | i + 1 => by
    obtain ⟨h1, h2⟩ := runP_ok hp ho hl i
    by_cases hi : i < l.length
    · rw [runP_succ p l hi]
      exact dQ_ok h2 h1 (hl.at hi)
    · have e : runP p l (i + 1) = runP p l i := by
        unfold runP
        rw [List.take_of_length_le (by omega), List.take_of_length_le (by omega)]
      rw [e]; exact ⟨h1, h2⟩
theorem run_do {p : Part} {l : List Cmd} (hp : D.PartTy p) (ho : partOk p = true) (hl : CmsOk l) {i : Nat} (hi : i < l.length) : DoR (runP p l i) (l.getD i default) (runP p l (i + 1)) (dX (runP p l i) (l.getD i default)) :=
  ⟨runP_succ p l hi, rfl, (runP_ok hp ho hl i).2.isIn, hl.at hi⟩
theorem st_ok {p : Part} {l : List Cmd} (hp : D.PartTy p) (ho : partOk p = true) (hl : CmsOk l) : StOk l (runP p l) (fun i => dX (runP p l i) (l.getD i default)) := by
  have hn := hl.n
  refine ⟨by omega, fun i => (runP_ok hp ho hl i).2.isIn, fun i => (runP_ok hp ho hl i).1, fun i hi => run_do hp ho hl hi, fun i hi => ?_⟩
  rw [runP_succ p l hi]
  exact dQ_same (runP_ok hp ho hl i).1
theorem stays_c (p : Part) (l : List Cmd) (hp : D.PartTy p) (hl : CmsOk l) : (boolR true).Sat (ACall' Tryz.prog 5 [.agg (encPt true p), encCms true l] []) := by
  refine ctr_vc (ht := stHd p l (runP p l)) Tryz.mixed rfl ?_
  rw [vcSt_eq p l (runP p l)]
  unfold vcSt
  have hi := hp.isIn
  cases ho : partOk p
  · simp [hi]
  · have lp := st_loop l (runP p l) (fun i => dX (runP p l i) (l.getD i default)) (st_ok hp ho hl) 0
    have e0 : runP p l 0 = p := by simp [runP]
    simp [hi, e0]
    unfold stM at lp
    rw [e0] at lp
    exact lp
end Go.Proofs.YtnbhdjadlbhknaaGreatDoor.R

/-! From the statements to the laws: the data. -/
namespace Go.Proofs.YtnbhdjadlbhknaaGreatDoor
open Go.Ax Go.Shelf Go.RowKit Go.ChangeShapes Go.WideShapes Go.ChangeAt
set_option maxRecDepth 1000000
def toI {K : Type} : DataW K → Int
  | .lit (.int _ a) => a
  | _ => 0
def toS {K : Type} : DataW K → ByteArray
  | .lit (.string l) => ⟨l.toArray⟩
  | _ => ByteArray.empty
def toB {K : Type} : DataW K → Bool
  | .lit (.bool b) => b
  | _ => false
theorem encI_ok {K : Type} {k : IntKind} {d : DataW K} (h : (Sh.int k).wf d) : (Sh.int k).enc d = [.y (.int k (toI d))] := by
  obtain ⟨k', n, rfl, _⟩ := h
  rfl
theorem encS_ok {K : Type} {d : DataW K} (h : Sh.str.wf d) : Sh.str.enc d = [.y (.string (toS d))] := by
  obtain ⟨l, rfl, _⟩ := h
  rfl
theorem encO_ok {K : Type} {d : DataW K} (h : Sh.bool.wf d) : Sh.bool.enc d = [.y (.bool (toB d))] := by
  obtain ⟨l, rfl⟩ := h
  rfl
theorem enc_st {K : Type} (fs : List Sh) (ds : List (DataW K)) : (Sh.st fs).enc (.agg ds) = Sh.encL fs ds := by simp only [Sh.enc]
theorem enc_cons {K : Type} (s : Sh) (r : List Sh) (d : DataW K) (ds : List (DataW K)) : Sh.encL (s :: r) (d :: ds) = s.enc d ++ Sh.encL r ds := by simp only [Sh.encL]
theorem enc_nil {K : Type} (l : List (DataW K)) : Sh.encL [] l = [] := by simp only [Sh.encL]
theorem relA {P : Program} {W : World} {r : Reach} {base : Nat} {t : TypeId} {v : Value} {fs : Array Field} {l : List AV} {H : HH} {E : Env} (hu : P.underlying t = some (.struct fs)) (hv : Value.okWide P W r base t v) (h : RelL l H E v.cells.toList) : Rel (.agg l) H E v := by
  obtain ⟨cs, rfl, _⟩ := okWide_struct hu hv
  exact ⟨cs, rfl, h⟩
theorem Tryz.own : ownKnob Tryz.prog.godebug = Option.none := by kernel_rfl
theorem Tryz.laidOut : laidOutB Tryz.prog = true := by kernel_rfl
theorem Tryz.mapsRowed : mapsRowed Tryz.prog = true := by kernel_rfl
theorem Tryz.slicesOk : slicesOk Tryz.prog = true := by kernel_rfl
theorem underBool : Tryz.prog.underlying 4 = some .bool := by kernel_rfl
def structTypes (P : Program) (t : TypeId) : Option (List TypeId) := match P.underlying t with | some (.struct fs) => some (fs.toList.map (·.type)) | _ => Option.none
theorem structTypes_ok {P : Program} {t : TypeId} {l : List TypeId} (h : structTypes P t = some l) : ∃ fs, P.underlying t = some (.struct fs) ∧ fs.toList.map (·.type) = l := by
  unfold structTypes at h
  split at h
  · rename_i fs hu
    exact ⟨fs, hu, Option.some.inj h⟩
  · cases h
end Go.Proofs.YtnbhdjadlbhknaaGreatDoor

/-! From the statements to the laws: records, consumers, producers, states. -/
namespace Go.Proofs.YtnbhdjadlbhknaaGreatDoor
open Go.Ax Go.Shelf Go.RowKit Go.ChangeShapes Go.WideShapes Go.ChangeAt
set_option maxRecDepth 1000000
def shRec : Sh := .st [.int .u64, .str, .sl (.int .u8), .int .u64, .int .u64]
def toRec {K : Type} : DataW K → Rec
  | .agg [a, b, c, d, e] => ⟨toI a, toS b, listOf toI c, toI d, toI e⟩
  | _ => default
theorem relB {K : Type} {d : DataW K} (hd : (Sh.sl (.int .u8)).wf d) {H : HH} {E : Env} {v : Value} (h : Rel (slAV (.int .u8) d) H E v) : Rel (encBs true (listOf toI d)) H E v := conv_sl (encA := encB) (fun x hx => encI_ok hx) hd h
theorem rec_enc {K : Type} {d : DataW K} (hd : shRec.wf d) : ∃ a b c e f, d = .agg [a, b, c, e, f] ∧ (Sh.sl (.int .u8)).wf c ∧ shRec.enc d = [.y (.int .u64 (toI a)), .y (.string (toS b)), slAV (.int .u8) c, .y (.int .u64 (toI e)), .y (.int .u64 (toI f))] := by
  obtain ⟨ds, rfl, d1, r1, rfl, w1, d2, r2, rfl, w2, d3, r3, rfl, w3, d4, r4, rfl, w4, d5, r5, rfl, w5, rfl⟩ := hd
  refine ⟨d1, d2, d3, d4, d5, rfl, w3, ?_⟩
  simp only [shRec, enc_st, enc_cons, enc_nil, encI_ok w1, encS_ok w2, slAV_eq, encI_ok w4, encI_ok w5]
  rfl
theorem rec_conv {K : Type} {d : DataW K} (hd : shRec.wf d) (j : Nat) (hj : j < 5) (H : HH) (E : Env) (v : Value) (h : Rel (Ax.get (shRec.enc d) j) H E v) : Rel (Ax.get (encR (toRec d)) j) H E v := by
  obtain ⟨a, b, c, e, f, rfl, wc, he⟩ := rec_enc hd
  rw [he] at h
  match j, hj with
  | 0, _ => exact h
  | 1, _ => exact h
  | 2, _ => exact relB wc h
  | 3, _ => exact h
  | 4, _ => exact h
theorem relRs {K : Type} {d : DataW K} (hd : (Sh.sl shRec).wf d) {H : HH} {E : Env} {v : Value} (h : Rel (slAV shRec d) H E v) : Rel (encRs true (listOf toRec d)) H E v :=
  conv_slR (encA := encR) (fun x hx j hj H E v => rec_conv hx j hj H E v) hd h
theorem undRs : Tryz.prog.underlying 26 = some (.slice 54) := by kernel_rfl
theorem bytesR : Tryz.prog.bytesOf 54 = 64 := by kernel_rfl
theorem rs_sized {K : Type} {d : DataW K} (hw : (d.weights Tryz.prog 26).all (· ≤ reachBytes) = true) : (listOf toRec d).length * 64 ≤ 140737488351232 := by
  have := weights_slice toRec undRs hw
  rwa [bytesR] at this
def shCon : Sh := .st [.str, .int .u64]
def toC {K : Type} : DataW K → Con
  | .agg [a, b] => ⟨toS a, toI b⟩
  | _ => default
theorem off_of {K : Type} {d : DataW K} (h : (Sh.int .u64).wf d) : offOk (toI d) := by
  obtain ⟨k, n, rfl, w⟩ := h
  have := bounds_u64 w
  exact ⟨by show 0 ≤ n; omega, by show n < _; omega⟩
theorem toC_ok {K : Type} {d : DataW K} (h : shCon.wf d) : shCon.enc d = encC (toC d) ∧ offOk (toC d).off := by
  obtain ⟨ds, rfl, d1, r1, rfl, w1, d2, r2, rfl, w2, rfl⟩ := h
  refine ⟨?_, off_of w2⟩
  simp only [shCon, enc_st, enc_cons, enc_nil, encS_ok w1, encI_ok w2]
  rfl
theorem wf_cons {K : Type} {d : DataW K} (h : (Sh.sl shCon).wf d) : wfC (listOf toC d) := by
  rcases h with rfl | ⟨xs, r, rfl, hx⟩
  · intro y hy; cases hy
  · intro y hy
    obtain ⟨x, hx', rfl⟩ := List.mem_map.1 hy
    exact (toC_ok (hx x hx')).2
theorem relCs {K : Type} {d : DataW K} (hd : (Sh.sl shCon).wf d) {H : HH} {E : Env} {v : Value} (h : Rel (slAV shCon d) H E v) : Rel (encCs true (listOf toC d)) H E v := conv_sl (fun x hx => (toC_ok hx).1) hd h
theorem undCs : Tryz.prog.underlying 28 = some (.slice 83) := by kernel_rfl
theorem bytesC : Tryz.prog.bytesOf 83 = 24 := by kernel_rfl
def shPro : Sh := .st [.int .u64, .int .u64, .bool, .int .u64]
def toPro {K : Type} : DataW K → P.Producer
  | .agg [a, b, c, e] => ⟨toI a, toI b, toB c, toI e⟩
  | _ => default
theorem toPro_ok {K : Type} {d : DataW K} (h : shPro.wf d) : shPro.enc d = P.encP (toPro d) ∧ offOk (toPro d).offset := by
  obtain ⟨ds, rfl, d1, r1, rfl, w1, d2, r2, rfl, w2, d3, r3, rfl, w3, d4, r4, rfl, w4, rfl⟩ := h
  refine ⟨?_, off_of w4⟩
  simp only [shPro, enc_st, enc_cons, enc_nil, encI_ok w1, encI_ok w2, encO_ok w3, encI_ok w4]
  rfl
theorem wf_prods {K : Type} {d : DataW K} (h : (Sh.sl shPro).wf d) : ∀ x ∈ listOf toPro d, 0 ≤ x.offset ∧ x.offset < 18446744073709551616 := by
  rcases h with rfl | ⟨xs, r, rfl, hx⟩
  · intro y hy; cases hy
  · intro y hy
    obtain ⟨x, hx', rfl⟩ := List.mem_map.1 hy
    exact (toPro_ok (hx x hx')).2
theorem relPs {K : Type} {d : DataW K} (hd : (Sh.sl shPro).wf d) {H : HH} {E : Env} {v : Value} (h : Rel (slAV shPro d) H E v) : Rel (P.encPs true (listOf toPro d)) H E v := conv_sl (fun x hx => (toPro_ok hx).1) hd h
theorem undPs : Tryz.prog.underlying 27 = some (.slice 80) := by kernel_rfl
theorem bytesP : Tryz.prog.bytesOf 80 = 32 := by kernel_rfl
def shRng : Sh := .st [.str, .str]
def toRng {K : Type} : DataW K → Rng
  | .agg [a, b] => ⟨toS a, toS b⟩
  | _ => default
theorem toRng_ok {K : Type} {d : DataW K} (h : shRng.wf d) : shRng.enc d = encG (toRng d) := by
  obtain ⟨ds, rfl, d1, r1, rfl, w1, d2, r2, rfl, w2, rfl⟩ := h
  simp only [shRng, enc_st, enc_cons, enc_nil, encS_ok w1, encS_ok w2]
  rfl
def shPart : Sh := .st [shRng, .int .u64, .int .u64, .sl shRec, .sl shPro, .sl shCon]
def toPart {K : Type} : DataW K → Part
  | .agg [a, b, c, e, f, g] => ⟨toRng a, toI b, toI c, listOf toRec e, listOf toPro f, listOf toC g⟩
  | _ => default
theorem relPart {K : Type} {d : DataW K} (hd : shPart.wf d) {H : HH} {E : Env} {vs : List Value} (h : RelL (shPart.enc d) H E vs) : RelL (encPt true (toPart d)) H E vs := by
  obtain ⟨ds, rfl, d1, r1, rfl, w1, d2, r2, rfl, w2, d3, r3, rfl, w3, d4, r4, rfl, w4, d5, r5, rfl, w5, d6, r6, rfl, w6, rfl⟩ := hd
  have e : shPart.enc (DataW.agg [d1, d2, d3, d4, d5, d6]) = [.y (.string (toRng d1).lo), .y (.string (toRng d1).hi), .y (.int .u64 (toI d2)), .y (.int .u64 (toI d3)), slAV shRec d4, slAV shPro d5, slAV shCon d6] := by
    simp only [shPart, enc_st, enc_cons, enc_nil, slAV_eq, toRng_ok w1, encI_ok w2, encI_ok w3]
    rfl
  rw [e] at h
  obtain ⟨v1, x1, rfl, h1, v2, x2, rfl, h2, v3, x3, rfl, h3, v4, x4, rfl, h4, v5, x5, rfl, h5, v6, x6, rfl, h6, v7, x7, rfl, h7, rfl⟩ := h
  exact ⟨_, _, rfl, h1, _, _, rfl, h2, _, _, rfl, h3, _, _, rfl, h4, _, _, rfl, relRs w4 h5, _, _, rfl, relPs w5 h6, _, _, rfl, relCs w6 h7, rfl⟩
theorem undPart : ∃ fs, Tryz.prog.underlying 30 = some (.struct fs) ∧ fs.toList.map (·.type) = [24, 25, 25, 26, 27, 28] := structTypes_ok (by kernel_rfl)
structure PartSz (p : Part) : Prop where
  rl : p.recs.length * 64 ≤ 140737488351232
  pl : p.prods.length * 32 ≤ 140737488351232
  cl : p.cons.length * 24 ≤ 140737488351232
  po : ∀ x ∈ p.prods, 0 ≤ x.offset ∧ x.offset < 18446744073709551616
  co : wfC p.cons
theorem part_sz {K : Type} {d : DataW K} (hd : shPart.wf d) (hw : (d.weights Tryz.prog 30).all (· ≤ reachBytes) = true) : PartSz (toPart d) := by
  obtain ⟨ds, rfl, d1, r1, rfl, w1, d2, r2, rfl, w2, d3, r3, rfl, w3, d4, r4, rfl, w4, d5, r5, rfl, w5, d6, r6, rfl, w6, rfl⟩ := hd
  obtain ⟨fs, hf, ht⟩ := undPart
  have h := weights_struct hf hw
  rw [ht] at h
  obtain ⟨h1, h⟩ := weights_cons h
  obtain ⟨h2, h⟩ := weights_cons h
  obtain ⟨h3, h⟩ := weights_cons h
  obtain ⟨h4, h⟩ := weights_cons h
  obtain ⟨h5, h⟩ := weights_cons h
  obtain ⟨h6, h⟩ := weights_cons h
  have k5 := weights_slice toPro undPs h5
  have k6 := weights_slice toC undCs h6
  rw [bytesP] at k5
  rw [bytesC] at k6
  exact ⟨rs_sized h4, k5, k6, wf_prods w5, wf_cons w6⟩
end Go.Proofs.YtnbhdjadlbhknaaGreatDoor

/-! From the statements to the laws: commands; the handle. -/
namespace Go.Proofs.YtnbhdjadlbhknaaGreatDoor
open Go.Ax Go.Shelf Go.RowKit Go.ChangeShapes Go.WideShapes Go.ChangeAt
set_option maxRecDepth 1000000
def shCm : Sh := .st [.int .i64, .int .u64, .int .u64, .int .u64, .str, .sl (.int .u8), .int .u64, .int .i64, .str, .int .u64]
def toCm {K : Type} : DataW K → R.Cmd
  | .agg [a, b, c, d, e, f, g, h, i, j] => ⟨toI a, toI b, toI c, toI d, toS e, listOf toI f, toI g, toI h, toS i, toI j⟩
  | _ => default
theorem cm_enc {K : Type} {d : DataW K} (hd : shCm.wf d) : ∃ a1 a2 a3 a4 a5 a6 a7 a8 a9 a10, d = .agg [a1, a2, a3, a4, a5, a6, a7, a8, a9, a10] ∧ (Sh.sl (.int .u8)).wf a6 ∧ (Sh.int .u64).wf a7 ∧ shCm.enc d = [.y (.int .i64 (toI a1)), .y (.int .u64 (toI a2)), .y (.int .u64 (toI a3)), .y (.int .u64 (toI a4)), .y (.string (toS a5)), slAV (.int .u8) a6, .y (.int .u64 (toI a7)), .y (.int .i64 (toI a8)), .y (.string (toS a9)), .y (.int .u64 (toI a10))] := by
  obtain ⟨ds, rfl, d1, r1, rfl, w1, d2, r2, rfl, w2, d3, r3, rfl, w3, d4, r4, rfl, w4, d5, r5, rfl, w5, d6, r6, rfl, w6, d7, r7, rfl, w7, d8, r8, rfl, w8, d9, r9, rfl, w9, d10, r10, rfl, w10, rfl⟩ := hd
  refine ⟨d1, d2, d3, d4, d5, d6, d7, d8, d9, d10, rfl, w6, w7, ?_⟩
  simp only [shCm, enc_st, enc_cons, enc_nil, encI_ok w1, encI_ok w2, encI_ok w3, encI_ok w4, encS_ok w5, slAV_eq, encI_ok w7, encI_ok w8, encS_ok w9, encI_ok w10]
  rfl
theorem cm_conv {K : Type} {d : DataW K} (hd : shCm.wf d) (j : Nat) (hj : j < 10) (H : HH) (E : Env) (v : Value) (h : Rel (Ax.get (shCm.enc d) j) H E v) : Rel (Ax.get (R.encCm (toCm d)) j) H E v := by
  obtain ⟨a1, a2, a3, a4, a5, a6, a7, a8, a9, a10, rfl, wc, _, he⟩ := cm_enc hd
  rw [he] at h
  match j, hj with
  | 0, _ => exact h
  | 1, _ => exact h
  | 2, _ => exact h
  | 3, _ => exact h
  | 4, _ => exact h
  | 5, _ => exact relB wc h
  | 6, _ => exact h
  | 7, _ => exact h
  | 8, _ => exact h
  | 9, _ => exact h
theorem relCms {K : Type} {d : DataW K} (hd : (Sh.sl shCm).wf d) {H : HH} {E : Env} {v : Value} (h : Rel (slAV shCm d) H E v) : Rel (.ys true 10 (listOf toCm d).length (cellsOf' R.encCm (listOf toCm d))) H E v :=
  conv_slR (encA := R.encCm) (fun x hx j hj H E v => cm_conv hx j hj H E v) hd h
theorem undCms : Tryz.prog.underlying 39 = some (.slice 37) := by kernel_rfl
theorem bytesCm : Tryz.prog.bytesOf 37 = 112 := by kernel_rfl
theorem cms_sized {K : Type} {d : DataW K} (hw : (d.weights Tryz.prog 39).all (· ≤ reachBytes) = true) : (listOf toCm d).length * 112 ≤ 140737488351232 := by
  have := weights_slice toCm undCms hw
  rwa [bytesCm] at this
theorem cm_off {K : Type} {d : DataW K} (hd : shCm.wf d) : offOk (toCm d).off := by
  obtain ⟨a1, a2, a3, a4, a5, a6, a7, a8, a9, a10, rfl, _, w, _⟩ := cm_enc hd
  exact off_of w
theorem wf_cms {K : Type} {d : DataW K} (h : (Sh.sl shCm).wf d) : ∀ c ∈ listOf toCm d, 0 ≤ c.off ∧ c.off < 18446744073709551616 := by
  rcases h with rfl | ⟨xs, r, rfl, hx⟩
  · intro y hy; cases hy
  · intro y hy
    obtain ⟨x, hx', rfl⟩ := List.mem_map.1 hy
    exact cm_off (hx x hx')
/-! the handle -/
theorem hd_var : Tryz.prog.globalNamed "errors.errorType" = some 0 := by kernel_rfl
theorem hd_row : (Tryz.prog.cutTypes.find? (·.1 == "internal/reflectlite.rtype")).map (·.2) = some 191 := by kernel_rfl
theorem hd_one : ((List.range Tryz.prog.types.size).filter fun t => Tryz.prog.rowNamed t [101, 114, 114, 111, 114]) = [74] := by kernel_rfl
theorem gl_of {laid : List (String × DataW Unit)} {W : World} (hf : (laid.filter fun x => x.2.handleName?.isSome) = [("errors.errorType", Rows.laid_errors_errorType)]) (h : laidMetH Tryz.prog laid W) : GlOk W := by
  unfold laidMetH at h
  rw [hf] at h
  obtain ⟨name, u, ty, e1, e2, e3, e4, e5⟩ := h.2 _ (List.mem_singleton.2 rfl)
  have en : name = [101, 114, 114, 111, 114] := (Option.some.inj e1).symm
  subst en
  obtain rfl := Option.some.inj (hd_row.symm.trans e2)
  have hm : ty ∈ (List.range Tryz.prog.types.size).filter fun t => Tryz.prog.rowNamed t [101, 114, 114, 111, 114] := List.mem_filter.2 ⟨List.mem_range.2 e3, e4⟩
  rw [hd_one] at hm
  obtain rfl := List.mem_singleton.1 hm
  have hc := World.var?_cell hd_var e5 0
  intro p hp
  obtain rfl := List.mem_singleton.1 hp
  exact ⟨by kernel_rfl, hc⟩
/-- a world whose variable holds the handle -/
noncomputable def hdWorld (os : Os) : World :=
  { World.holding Tryz.prog os ⟨#[], #[], []⟩ with heap := (World.holding Tryz.prog os ⟨#[], #[], []⟩).heap.modify 0 fun
      | .cells _ t frozen => .cells #[.iface 191 (.agg #[typeHandle Tryz.prog 74])] t frozen
      | o => o }
theorem laidMet_lay {P : Program} {w0 : World} {laid : List (String × DataW Unit)} (args : Array Value) (hf : w0.layFits P laid [] = true) (hi : w0.layIfaces P laid (w0.layVars P laid) = true) :
    laidMet P laid ((w0.layVars P laid).forCall (fun _ _ => 0) ⟨#[], args, []⟩).memory := by
  have e1 : (laid.filter fun x => (laid.map (·.1)).contains x.1) = laid := List.filter_eq_self.2 fun x hx => List.contains_iff_mem.2 (List.mem_map.2 ⟨x, hx, rfl⟩)
  have e2 : (laid.filter fun x => !(laid.map (·.1)).contains x.1) = [] := List.filter_eq_nil_iff.2 fun x hx => by rw [List.contains_iff_mem.2 (List.mem_map.2 ⟨x, hx, rfl⟩)]; simp
  have h : laidMet P laid (w0.layVars P laid) := laidMet_layVars (w0 := w0) (laid.map (·.1)) [] (by rw [e1]) (by rw [e1]; exact hf) (by rw [e1]; exact hi) (by rw [e2]; exact LaidIn.none)
  exact h.of_heap (by simp [World.memory, World.forCall, Input.heap])
end Go.Proofs.YtnbhdjadlbhknaaGreatDoor

/-! Shards' states: from the statement to PartfsmStays. -/
namespace Go.Proofs.YtnbhdjadlbhknaaGreatDoor.R
open Go.Ax Go.Shelf Go.RowKit Go.ChangeShapes Go.WideShapes Go.ChangeAt
set_option maxRecDepth 1000000
theorem ty_sz {p : Part} (h : PartSz p) : D.PartTy p := by
  obtain ⟨h1, h2, h3, h4, h5⟩ := h
  exact ⟨by omega, by omega, by omega, h4, h5⟩
theorem cms_ok {K : Type} {d : DataW K} (hd : (Sh.sl shCm).wf d) (hw : (d.weights Tryz.prog 39).all (· ≤ reachBytes) = true) : CmsOk (listOf toCm d) := by
  have := cms_sized hw
  exact ⟨by omega, wf_cms hd⟩
def partfsmStays_laidL : List (String × DataW Unit) := Rows.partfsmStaysRow.laid
noncomputable def partfsmStays_layW (os : Os) : World := World.layVars Tryz.prog (hdWorld os) (partfsmStays_laidL.filter fun x => x.2.handleName?.isNone)
theorem partfsmStays_lay_met (os : Os) (args : Array Value) : laidMetH Tryz.prog partfsmStays_laidL ((partfsmStays_layW os).forCall (fun _ _ => 0) ⟨#[], args, []⟩).memory :=
  laidMetH_of_parts (laidMet_lay args (by kernel_rfl) (by kernel_rfl)) (by kernel_rfl)
theorem partfsmStays_lifted (os : Os) (started : os.Started) (K : Type) (enc : TypeId × Value → K) :
    ReturnsInHanded {} Tryz.checked os 5 .any (fun w args => (Rows.partfsmStaysSpec.pre enc Tryz.prog Tryz.f5 [] false w args ∧ laidMetH Tryz.prog partfsmStays_laidL w) ∧ sizedMet enc Tryz.prog Tryz.f5 (OpenSpec.ofChange Rows.partfsmStaysSpec) false w args)
      (Rows.partfsmStaysSpec.post enc Tryz.prog Tryz.f5 false true false false) := by
  refine returnsInHanded_of_change_and (C := Tryz.checked) (X := fun w _ => laidMetH Tryz.prog partfsmStays_laidL w) (fun _ _ _ hh h => h.of_heap hh) Tryz.own started (by kernel_rfl) Tryz.func5
    (ChangeSpec.witness_at (enc := enc) (C := Tryz.checked) (os := os) (X := fun w _ => laidMetH Tryz.prog partfsmStays_laidL w) false (partfsmStays_layW os) #[.agg #[.string ⟨#[]⟩, .string ⟨#[]⟩, .int .u64 0, .int .u64 0, .slice Option.none 0 0, .slice Option.none 0 0, .slice Option.none 0 0], .slice Option.none 0 0] 8 rfl (by kernel_rfl) (by kernel_rfl) (by kernel_rfl) (by kernel_rfl) (by kernel_rfl) (partfsmStays_lay_met os _)) ?_
  intro W base args ds gs before hval0 hW hcnd hsz hL _
  have hps : Tryz.f5.params.toList = [30, 39] := by kernel_rfl
  obtain ⟨p, q, hA, hV, hbef, hfz, hnd⟩ := id hW
  rw [hps] at hA hsz
  have ⟨hr, hwf⟩ := lift_all [shPart, .sl shCm] (by kernel_rfl) hA
  obtain ⟨v1, v2, d1, d2, _, _, e1, rfl, _, _, _⟩ := trodAll_two hA
  obtain ⟨_, _, g1, w1, _, _, g2, w2, _⟩ := hwf
  obtain ⟨rfl, q1⟩ := List.cons.inj g1
  subst q1
  obtain ⟨rfl, _⟩ := List.cons.inj g2
  subst e1
  obtain ⟨h1, hs1⟩ := weights_cons (P := Tryz.prog) (t := 30) (d := d1) hsz
  obtain ⟨h2, hs2⟩ := weights_cons (P := Tryz.prog) (t := 39) (d := d2) hs1
  have r1 := hr.1
  obtain ⟨fs1, hf1, _⟩ := undPart
  have r1 := relA hf1 (hval0 0 _ _ (by kernel_rfl) rfl) (relPart w1 r1)
  have r2 := hr.2.1
  rw [slAV_eq] at r2
  obtain ⟨s2, n2, c2, rfl⟩ := okWide_slice undCms (hval0 1 _ _ (by kernel_rfl) rfl)
  obtain ⟨_, _, er, r2, _⟩ := r2
  cases er
  have r2 := relCms w2 r2
  refine open_calls (call_of (stays_c _ _ (ty_sz (part_sz w1 h1)) (cms_ok w2 h2))) (t := 4) (ds := [d1, d2]) ⟨_, _, rfl, r1, _, _, rfl, r2, rfl⟩ (by kernel_rfl) underBool rfl rfl Tryz.laidOut Tryz.mapsRowed Tryz.slicesOk (by rw [hps]; intro t ht; simp only [List.mem_cons, List.not_mem_nil, or_false] at ht; rcases ht with rfl | rfl <;> exact of_decide_eq_true (by kernel_rfl)) hW (gl_of (by kernel_rfl) hL)
theorem partfsmStays_holds : Rows.PartfsmStaysSaid :=
  OpenClaim.holds_of_wide 5 Tryz.f5 rfl rfl rfl rfl rfl rfl rfl ⟨rfl, rfl, rfl, rfl, rfl⟩ rfl rfl rfl rfl rfl (by kernel_rfl) Tryz.func5 (by kernel_rfl)
    (of_decide_eq_true (by kernel_rfl)) (by unfold Func.isWrapper; first | (rw [if_pos (by decide +kernel)]; kernel_rfl) | (rw [if_neg (by decide +kernel)]; exact ⟨rfl, rfl⟩))
    (fun os started H enc _ => partfsmStays_lifted os started H enc)
theorem partfsmStays_said : Rows.PartfsmStaysCardSaid :=
  Claim7.holds_tied_plain_at .later [] [.data, .handle, .pinned] true (true, "4008c0ec14d4e8318941b98147842fa4797ed9bf7edcfa700debfb0742dcc49e") true
    partfsmStays_holds (fun _ h => by cases h) (by kernel_rfl) (fun _ h => by cases h) partfsmStays_row_tie rfl ⟨rfl, rfl⟩ (by kernel_rfl) rfl
    (fun f fn hf hfn => by
      obtain rfl : f = 5 := Option.some.inj ((show Tryz.prog.funcNamed "gazette/gazettelaw16.PartfsmStays" = some 5 by kernel_rfl).symm.trans hf) |>.symm
      obtain rfl : fn = Tryz.f5 := (Option.some.inj (Tryz.func5.symm.trans hfn)).symm
      exact ⟨by kernel_rfl, fun j t ht => by
        rw [show Tryz.f5.params = #[30, 39] by kernel_rfl] at ht
        have h3 : t = 30 ∨ t = 39 := by
          rcases j with _ | _ | j
          · exact Or.inl (by simpa using ht.symm)
          · exact Or.inr ((by simpa using ht.symm))
          · simp at ht
        rcases h3 with rfl | rfl
        · exact (show Tryz.prog.wantsStandIn 30 = false by kernel_rfl)
        · exact (show Tryz.prog.wantsStandIn 39 = false by kernel_rfl)⟩)
    (by kernel_rfl)
end Go.Proofs.YtnbhdjadlbhknaaGreatDoor.R
namespace Go.Proofs.YtnbhdjadlbhknaaGreatDoor
theorem stays_said : Rows.PartfsmStaysCardSaid := R.partfsmStays_said
end Go.Proofs.YtnbhdjadlbhknaaGreatDoor
