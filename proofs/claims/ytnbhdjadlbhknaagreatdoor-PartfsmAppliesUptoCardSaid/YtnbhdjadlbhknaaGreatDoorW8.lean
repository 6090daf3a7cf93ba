import Derived.Test.YtnbhdjadlbhknaaGreatDoorE11
import Derived.Test.YtnbhdjadlbhknaaGreatDoorW1
import Derived.Test.YtnbhdjadlbhknaaGreatDoorW3
import Derived.Test.YtnbhdjadlbhknaaGreatDoorW6
import Derived.Test.YtnbhdjadlbhknaaGreatDoorW7
set_option linter.unusedVariables false
set_option linter.unusedSimpArgs false
set_option linter.unusedSectionVars false
namespace Go.Proofs.YtnbhdjadlbhknaaGreatDoor.D
open Go.Ax
set_option maxRecDepth 1000000
theorem snoc_ind {α : Type} {P : List α → Prop} (h0 : P []) (h1 : ∀ l x, P l → P (l ++ [x])) (l : List α) : P l := by
  rw [← List.reverse_reverse l]
  induction l.reverse with
  | nil => exact h0
  | cons x r ih => rw [List.reverse_cons]; exact h1 _ _ ih
theorem sel_put (s : Kn) (a b x : Int) : Kn.sel (Kn.put s a b) x = if a = x then b else Kn.sel s x := by
  unfold Kn.sel Kn.put updHas updC selI
  by_cases h : a = x
  · simp [h]
  · simp [h]
theorem knR_app (l : List Rec) (x : Rec) : knR (l ++ [x]) = (knR l).put x.prod x.seq := by simp [knR]
theorem knR_sel (l : List Rec) (a : Int) : (Kn.sel (knR l) a = 0 ∧ ∀ x ∈ l, x.prod ≠ a) ∨ ∃ x ∈ l, x.prod = a ∧ Kn.sel (knR l) a = x.seq := by
  refine snoc_ind (P := fun l => (Kn.sel (knR l) a = 0 ∧ ∀ x ∈ l, x.prod ≠ a) ∨ ∃ x ∈ l, x.prod = a ∧ Kn.sel (knR l) a = x.seq) ?_ ?_ l
  · exact .inl ⟨rfl, fun x hx => by cases hx⟩
  · intro l x ih
    rw [knR_app, sel_put]
    by_cases h : x.prod = a
    · rw [if_pos h]; exact .inr ⟨x, by simp, h, rfl⟩
    · rw [if_neg h]
      rcases ih with ⟨h1, h2⟩ | ⟨y, h1, h2, h3⟩
      · refine .inl ⟨h1, fun y hy => ?_⟩
        rcases List.mem_append.1 hy with hy | hy
        · exact h2 y hy
        · simp at hy; subst hy; exact h
      · exact .inr ⟨y, by simp [h1], h2, h3⟩
def up1 (x y : Rec) : Prop := x.prod = y.prod → x.seq < y.seq
def recOk (g : Rng) (K : Kn) (x : Rec) : Prop := hasK g x.key = true ∧ 0 < x.seq ∧ x.seq ≤ Kn.sel K x.prod
def ordL (g : Rng) (K : Kn) (l : List Rec) : Prop := (∀ x ∈ l, recOk g K x) ∧ l.Pairwise up1
theorem orFrom_all (p : Part) : ∀ n k, p.recs.length - k = n → (orFrom p k = true ↔ ∀ j, k ≤ j → j < p.recs.length → okO p j = true) := by
  intro n
  induction n with
  | zero =>
    intro k hk
    rw [orFrom_end (by omega)]
    exact ⟨fun _ j h1 h2 => by omega, fun _ => rfl⟩
  | succ n ih =>
    intro k hk
    rw [orFrom_step (by omega), Bool.and_eq_true, ih (k + 1) (by omega)]
    constructor
    · rintro ⟨h1, h2⟩ j h3 h4
      rcases Nat.eq_or_lt_of_le h3 with rfl | h5
      · exact h1
      · exact h2 j h5 h4
    · intro h
      exact ⟨h k (Nat.le_refl _) (by omega), fun j h1 h2 => h j (by omega) h2⟩
theorem okO_iff {p : Part} {k : Nat} (h : k < p.recs.length) : okO p k = true ↔ hasK p.rng p.recs[k].key = true ∧ Kn.sel (knR (p.recs.take k)) p.recs[k].prod < p.recs[k].seq ∧ p.recs[k].seq ≤ Kn.sel (knP p.prods) p.recs[k].prod := by
  unfold okO
  simp [List.getElem?_eq_getElem h]
theorem knR_le {g : Rng} {K : Kn} : ∀ {l : List Rec}, ordL g K l → ∀ x ∈ l, x.seq ≤ Kn.sel (knR l) x.prod := by
  intro l
  refine snoc_ind (P := fun l => ordL g K l → ∀ x ∈ l, x.seq ≤ Kn.sel (knR l) x.prod) ?_ ?_ l
  · intro _ x hx; cases hx
  · intro l y ih h x hx
    rw [knR_app, sel_put]
    have h2 : ordL g K l := ⟨fun z hz => h.1 z (by simp [hz]), (List.pairwise_append.1 h.2).1⟩
    have h3 := (List.pairwise_append.1 h.2).2.2
    rcases List.mem_append.1 hx with hx | hx
    · by_cases e : y.prod = x.prod
      · rw [if_pos e]
        have := h3 x hx y (by simp) e.symm
        omega
      · rw [if_neg e]; exact ih h2 x hx
    · simp at hx; subst hx; rw [if_pos rfl]; exact Int.le_refl _
theorem ord_take {p : Part} (h : ∀ j, j < p.recs.length → okO p j = true) : ∀ k, k ≤ p.recs.length → ordL p.rng (knP p.prods) (p.recs.take k) := by
  intro k
  induction k with
  | zero => intro _; exact ⟨fun x hx => by simp at hx, by simp⟩
  | succ k ih =>
    intro hk
    have ih := ih (by omega)
    obtain ⟨o1, o2, o3⟩ := (okO_iff (by omega)).1 (h k (by omega))
    rw [List.take_add_one, List.getElem?_eq_getElem (by omega)]
    have hs : ∀ x ∈ p.recs.take k, x.prod = p.recs[k].prod → x.seq < p.recs[k].seq := fun x hx e => by
      have := knR_le ih x hx
      rw [e] at this
      omega
    have h0 : 0 < p.recs[k].seq := by
      rcases knR_sel (p.recs.take k) p.recs[k].prod with ⟨q, _⟩ | ⟨x, hx, hx2, q⟩
      · omega
      · have := (ih.1 x hx).2.1
        omega
    refine ⟨fun x hx => ?_, ?_⟩
    · rcases List.mem_append.1 hx with hx | hx
      · exact ih.1 x hx
      · simp at hx; subst hx; exact ⟨o1, h0, o3⟩
    · refine List.pairwise_append.2 ⟨ih.2, by simp, fun x hx y hy => ?_⟩
      simp at hy; subst hy
      exact hs x hx
theorem or_iff (p : Part) : orFrom p 0 = true ↔ ordL p.rng (knP p.prods) p.recs := by
  rw [orFrom_all p _ 0 rfl]
  constructor
  · intro h
    have := ord_take (fun j hj => h j (Nat.zero_le _) hj) p.recs.length (Nat.le_refl _)
    rwa [List.take_length] at this
  · intro h j _ hj
    have hx := h.1 p.recs[j] (List.getElem_mem hj)
    refine (okO_iff hj).2 ⟨hx.1, ?_, hx.2.2⟩
    rcases knR_sel (p.recs.take j) p.recs[j].prod with ⟨q, _⟩ | ⟨x, h1, h2, q⟩
    · have := hx.2.1; omega
    · rw [q]
      have hp := h.2
      rw [← List.take_append_drop j p.recs] at hp
      refine (List.pairwise_append.1 hp).2.2 x h1 _ ?_ h2
      rw [List.mem_iff_getElem]
      exact ⟨0, by simp; omega, by simp⟩
end Go.Proofs.YtnbhdjadlbhknaaGreatDoor.D

namespace Go.Proofs.YtnbhdjadlbhknaaGreatDoor.D
open Go.Ax
set_option maxRecDepth 1000000
theorem logFrom_all (l : List Rec) : logFrom l 0 = true ↔ ∀ k, k < l.length → okR (l.getD k default) k = true := by
  unfold logFrom
  rw [List.all_eq_true]
  constructor
  · intro h k hk; exact h k (by simp; omega)
  · intro h k hk
    simp at hk
    exact h k (by omega)
theorem log_mem {l : List Rec} (h : isLog l = true) : ∀ x ∈ l, x.key.size ≤ 32 ∧ x.val.length ≤ 256 := by
  intro x hx
  obtain ⟨k, hk, rfl⟩ := List.mem_iff_getElem.1 hx
  simp only [isLog, Bool.and_eq_true] at h
  have := (logFrom_all l).1 h.1 k hk
  simp [okR, hk] at this
  exact ⟨by omega, by omega⟩
theorem map_len (l : List Con) (to : List Int) (h : to.length ≠ 0) : (mapU l to l.length).length = l.length := by
  simp [mapU, h]
theorem map_at {l : List Con} {to : List Int} (h : to.length ≠ 0) {k : Nat} (hk : k < l.length) : (mapU l to l.length).getD k default = movC to (l.getD k default) := by
  simp [mapU, h, hk]
theorem cons_iff (l : List Con) : coFrom l 0 = true ↔ ∀ k, k < l.length → coOk l k = true := by
  unfold coFrom
  rw [List.all_eq_true]
  constructor
  · intro h k hk; exact h k (by simp; omega)
  · intro h k hk
    simp at hk
    exact h k (by omega)
theorem map_cons {l : List Con} {to : List Int} (ht : to.length ≠ 0) (h : isCons l = true) : isCons (mapU l to l.length) = true := by
  simp only [isCons, Bool.and_eq_true, decide_eq_true_eq] at h ⊢
  rw [map_len l to ht]
  refine ⟨(cons_iff _).2 fun k hk => ?_, h.2⟩
  rw [map_len l to ht] at hk
  have h1 := (cons_iff _).1 h.1 k hk
  unfold coOk at *
  rw [map_at ht hk]
  by_cases h0 : 0 < k
  · rw [map_at ht (show k - 1 < l.length by omega)]
    exact h1
  · simp only [h0, decide_false, Bool.false_and] at h1 ⊢
    exact h1
theorem lost_iff {p : Part} {x : P.Producer} : lostB p x = false ↔ (x.here = true → x.offset < p.recs.length ∧ (p.recs.getD x.offset.toNat default).prod = x.id ∧ (p.recs.getD x.offset.toNat default).seq = x.seq) := by
  unfold lostB
  generalize p.recs.getD x.offset.toNat default = y
  cases hh : x.here
  · simp
  · simp only [Bool.true_and, Bool.or_eq_false_iff, decide_eq_false_iff_not, bne_eq_false_iff_eq, forall_const]
    constructor
    · rintro ⟨a, b, c⟩; exact ⟨by omega, b, c⟩
    · rintro ⟨a, b, c⟩; exact ⟨by omega, b, c⟩
theorem lost_all {p : Part} : p.prods.any (lostB p) = false ↔ ∀ x ∈ p.prods, lostB p x = false := by
  rw [List.any_eq_false]
  constructor
  · intro h x hx; simpa using h x hx
  · intro h x hx; simp [h x hx]
end Go.Proofs.YtnbhdjadlbhknaaGreatDoor.D

namespace Go.Proofs.YtnbhdjadlbhknaaGreatDoor.R
open Go.Ax
set_option maxRecDepth 1000000
theorem take_zero {l : List P.Producer} {x : P.Producer} : P.takeE l x = 0 ↔ P.isTable l = true ∧ P.judgeV l x.id x.seq = 1 ∧ (P.findI l x.id = true ∨ ¬ l.length = 256) := by
  unfold P.takeE
  by_cases ht : P.isTable l = true
  · by_cases h4 : P.judgeV l x.id x.seq = 4
    · simp [ht, h4]
    · by_cases h5 : P.judgeV l x.id x.seq = 1
      · cases hf : P.findI l x.id
        · by_cases hn : l.length = 256
          · simp [ht, h5, hn]
          · simp [ht, h5, hn]
        · simp [ht, h5]
      · simp [ht, h4, h5]
  · simp [ht]
theorem oth_lt {l : List P.Producer} {x : P.Producer} (h : P.findI l x.id = true) : (P.oth l x).length < l.length := by
  have ⟨h1, h2⟩ := P.find_of h
  unfold P.oth
  rw [List.length_filter_lt_length_iff_exists]
  exact ⟨_, h1, by simp [P.keep, h2]⟩
theorem oth_le (l : List P.Producer) (x : P.Producer) : (P.oth l x).length ≤ l.length := List.length_filter_le _ _
theorem put_tab {l : List P.Producer} {x : P.Producer} (h : P.takeE l x = 0) (g : x.here = true ∨ x.offset = 0) : P.isTable (P.putL l x) = true := by
  have ⟨h1, h2, h3⟩ := take_zero.1 h
  have ⟨h4, r, n⟩ := (P.table_iff l).1 h1
  rw [P.table_iff]
  refine ⟨fun z hz => ?_, P.putL_rising r, ?_⟩
  · rcases P.mem_putL'.1 hz with rfl | ⟨hz, _⟩
    · have hb := ((P.judge_new l z.id z.seq).1 h2).1
      simp [P.badN] at hb
      exact ⟨hb.1, hb.2.1, hb.2.2, g⟩
    · exact h4 z hz
  · rw [P.putL_len]
    rcases h3 with h3 | h3
    · have := oth_lt h3; omega
    · have := oth_le l x; omega
theorem knP_app (l : List P.Producer) (x : P.Producer) : knP (l ++ [x]) = (knP l).put x.id x.seq := by simp [knP]
theorem knP_sel (l : List P.Producer) (a : Int) : (Kn.sel (knP l) a = 0 ∧ ∀ x ∈ l, x.id ≠ a) ∨ ∃ x ∈ l, x.id = a ∧ Kn.sel (knP l) a = x.seq := by
  refine D.snoc_ind (P := fun l => (Kn.sel (knP l) a = 0 ∧ ∀ x ∈ l, x.id ≠ a) ∨ ∃ x ∈ l, x.id = a ∧ Kn.sel (knP l) a = x.seq) ?_ ?_ l
  · exact .inl ⟨rfl, fun x hx => by cases hx⟩
  · intro l x ih
    rw [knP_app, D.sel_put]
    by_cases h : x.id = a
    · rw [if_pos h]; exact .inr ⟨x, by simp, h, rfl⟩
    · rw [if_neg h]
      rcases ih with ⟨h1, h2⟩ | ⟨y, h1, h2, h3⟩
      · refine .inl ⟨h1, fun y hy => ?_⟩
        rcases List.mem_append.1 hy with hy | hy
        · exact h2 y hy
        · simp at hy; subst hy; exact h
      · exact .inr ⟨y, by simp [h1], h2, h3⟩
theorem knP_mem {l : List P.Producer} (h : P.rising l) {x : P.Producer} (hx : x ∈ l) : Kn.sel (knP l) x.id = x.seq := by
  rcases knP_sel l x.id with ⟨_, h2⟩ | ⟨y, h1, h2, h3⟩
  · exact absurd rfl (h2 x hx)
  · rw [h3, P.pw_unique ((P.rising_pw l).1 h) h1 hx h2]
theorem knP_put {l : List P.Producer} (h : P.rising l) (x : P.Producer) (a : Int) : Kn.sel (knP (P.putL l x)) a = if a = x.id then x.seq else Kn.sel (knP l) a := by
  have hr : P.rising (P.putL l x) := P.putL_rising h
  by_cases e : a = x.id
  · subst e
    rw [if_pos rfl]
    exact knP_mem hr (P.mem_putL'.2 (.inl rfl))
  · rw [if_neg e]
    rcases knP_sel (P.putL l x) a with ⟨h1, h2⟩ | ⟨y, h1, h2, h3⟩
    · rw [h1]
      rcases knP_sel l a with ⟨h4, _⟩ | ⟨z, h4, h5, _⟩
      · exact h4.symm
      · exact absurd h5 (h2 z (P.mem_putL'.2 (.inr ⟨h4, by omega⟩)))
    · rw [h3]
      rcases P.mem_putL'.1 h1 with rfl | ⟨h4, _⟩
      · exact absurd h2.symm e
      · rw [← h2]; exact (knP_mem h h4).symm
theorem knP_new {l : List P.Producer} (h : P.rising l) {id seq : Int} (hj : P.judgeV l id seq = 1) : Kn.sel (knP l) id < seq ∧ 1 ≤ seq := by
  have ⟨h1, h2⟩ := (P.judge_fresh h id seq).1 hj
  simp [P.badN] at h1
  refine ⟨?_, h1.2.1⟩
  rcases knP_sel l id with ⟨h3, _⟩ | ⟨y, h3, h4, h5⟩
  · omega
  · have := h2 y h3 h4; omega
theorem knP_le {l : List P.Producer} {x : P.Producer} (h : P.takeE l x = 0) (a : Int) : Kn.sel (knP l) a ≤ Kn.sel (knP (P.putL l x)) a := by
  have ⟨h1, h2, _⟩ := take_zero.1 h
  have r := P.table_rising h1
  rw [knP_put r]
  by_cases e : a = x.id
  · rw [if_pos e, e]
    have := knP_new r h2
    omega
  · rw [if_neg e]; exact Int.le_refl _
theorem ord_put {g : Rng} {l : List P.Producer} {x : P.Producer} {r : List Rec} (h : P.takeE l x = 0) (ho : D.ordL g (knP l) r) : D.ordL g (knP (P.putL l x)) r :=
  ⟨fun y hy => ⟨(ho.1 y hy).1, (ho.1 y hy).2.1, Int.le_trans (ho.1 y hy).2.2 (knP_le h y.prod)⟩, ho.2⟩
theorem ord_app {g : Rng} {l : List P.Producer} {x : P.Producer} {r : List Rec} {y : Rec} (h : P.takeE l x = 0) (hi : y.prod = x.id) (hs : y.seq = x.seq) (hk : hasK g y.key = true) (ho : D.ordL g (knP l) r) : D.ordL g (knP (P.putL l x)) (r ++ [y]) := by
  have ⟨h1, h2, _⟩ := take_zero.1 h
  have hr := P.table_rising h1
  have hn := knP_new hr h2
  have h3 := ord_put h ho
  constructor
  · intro z hz
    rcases List.mem_append.1 hz with hz | hz
    · exact h3.1 z hz
    · simp at hz
      subst hz
      refine ⟨hk, by omega, ?_⟩
      rw [knP_put hr, if_pos hi]; omega
  · rw [List.pairwise_append]
    refine ⟨ho.2, by simp, fun a ha b hb => ?_⟩
    simp at hb
    subst hb
    intro e
    have := (ho.1 a ha).2.2
    rw [e, hi] at this
    omega
theorem putL_same : ∀ {l : List Con} {x : Con}, l.Pairwise (fun a b => lt a.name b.name = true) → inC l x.name = true → (putL l x).length = l.length
  | [], x, _, h => by simp [inC] at h
  | y :: t, x, hp, h => by
    rw [putL_cons]
    rw [List.pairwise_cons] at hp
    cases h1 : lt y.name x.name
    · by_cases h2 : y.name.data = x.name.data
      · simp [h2]
      · exfalso
        simp only [inC, List.any_cons, Bool.or_eq_true] at h
        rcases h with h | h
        · simp [eqN] at h
          exact h2 h
        · rw [List.any_eq_true] at h
          obtain ⟨z, hz, e⟩ := h
          have h3 := hp.1 z hz
          simp [eqN] at e
          have e2 : z.name = x.name := ByteArray.ext e
          rw [e2, h1] at h3; cases h3
    · simp only [if_true, List.length_cons]
      have h2 : inC t x.name = true := by
        simp only [inC, List.any_cons, Bool.or_eq_true] at h
        rcases h with h | h
        · simp [eqN] at h
          have e2 : y.name = x.name := ByteArray.ext h
          rw [e2, D.lt_irr] at h1; cases h1
        · exact h
      rw [putL_same hp.2 h2]
theorem cons_name {l : List Con} (h : isCons l = true) : ∀ z ∈ l, nameOk z.name = true := by
  intro z hz
  obtain ⟨k, hk, rfl⟩ := List.mem_iff_getElem.1 hz
  simp only [isCons, Bool.and_eq_true] at h
  have := (D.cons_iff l).1 h.1 k hk
  simp [coOk, hk] at this
  exact this.1
theorem cons_of {l : List Con} (h1 : ∀ z ∈ l, nameOk z.name = true) (h2 : risC l) (h3 : l.length ≤ 64) : isCons l = true := by
  simp only [isCons, Bool.and_eq_true, decide_eq_true_eq, h3, and_true]
  rw [D.cons_iff]
  intro k hk
  have a := h1 l[k] (List.getElem_mem hk)
  simp only [coOk, Bool.and_eq_true]
  refine ⟨by simpa [hk] using a, ?_⟩
  by_cases h0 : 0 < k
  · have := h2 (k - 1) k (by omega) hk
    rw [this]; simp
  · simp [h0]
theorem com_zero {l : List Con} {x : Con} {e : Int} (h : comE l x e = 0) : isCons l = true ∧ nameOk x.name = true ∧ x.off ≤ e ∧ (inC l x.name = true ∨ l.length ≠ 64) := by
  unfold comE at h
  cases h1 : isCons l
  · simp [h1] at h
  · cases h2 : nameOk x.name
    · simp [h1, h2] at h
    · by_cases h3 : e < x.off
      · simp [h1, h2, h3] at h
      · cases h4 : inC l x.name
        · by_cases h5 : l.length = 64
          · simp [h1, h2, h3, h4, h5] at h
          · exact ⟨rfl, rfl, by omega, .inr h5⟩
        · exact ⟨rfl, rfl, by omega, .inl rfl⟩
theorem put_cons {l : List Con} {x : Con} {e : Int} (h : comE l x e = 0) : isCons (putL l x) = true := by
  obtain ⟨h1, h2, _, h4⟩ := com_zero h
  refine cons_of (put_mem h2 l (cons_name h1)) (put_ris (cons_ris h1)) ?_
  have h5 := cons_len h1
  rcases h4 with h4 | h4
  · rw [putL_same ((risC_pw l).1 (cons_ris h1)) h4]; exact h5
  · have := put_len l x; omega
theorem ok_mk {p : Part} (a : chkK p.rng = 0) (b : p.epoch ≠ 0) (c : isLog p.recs = true) (d : P.isTable p.prods = true) (e : isCons p.cons = true) (f : D.ordL p.rng (knP p.prods) p.recs) (g : ∀ x ∈ p.prods, lostB p x = false) (i : ∀ x ∈ p.cons, x.off ≤ (p.recs.length : Nat)) : partOk p = true := by
  have f' := (D.or_iff p).2 f
  have g' := D.lost_all.2 g
  have i' : p.cons.any (aheadB p.recs.length) = false := by
    rw [List.any_eq_false]
    intro x hx
    have := i x hx
    simp [aheadB]; exact this
  simp [partOk, a, b, c, d, e, f', g', i']
theorem ok_un {p : Part} (h : partOk p = true) : chkK p.rng = 0 ∧ p.epoch ≠ 0 ∧ isLog p.recs = true ∧ P.isTable p.prods = true ∧ isCons p.cons = true ∧ D.ordL p.rng (knP p.prods) p.recs ∧ (∀ x ∈ p.prods, lostB p x = false) ∧ ∀ x ∈ p.cons, x.off ≤ (p.recs.length : Nat) := by
  obtain ⟨a, b, c, d, e, f, g, i⟩ := D.ok_parts h
  refine ⟨a, b, c, d, e, (D.or_iff p).1 f, D.lost_all.1 g, fun x hx => ?_⟩
  rw [List.any_eq_false] at i
  have := i x hx
  simp [aheadB] at this; exact this
theorem app_zero {l : List Rec} {x : Rec} (h : appE l x = 0) : isLog l = true ∧ x.key.size ≤ 32 ∧ x.val.length ≤ 256 ∧ l.length ≠ 4096 := by
  unfold appE at h
  cases h1 : isLog l
  · simp [h1] at h
  · by_cases h2 : 32 < x.key.size
    · simp [h1, h2] at h
    · by_cases h3 : 256 < x.val.length
      · simp [h1, h2, h3] at h
      · by_cases h4 : l.length = 4096
        · simp [h1, h2, h3, h4] at h
        · exact ⟨rfl, by omega, by omega, h4⟩
theorem app_log {l : List Rec} {x : Rec} (h : appE l x = 0) : isLog (appL l x) = true := by
  obtain ⟨h1, h2, h3, h4⟩ := app_zero h
  have hl := log_len h1
  simp only [isLog, Bool.and_eq_true, decide_eq_true_eq] at h1 ⊢
  have hL : (appL l x).length = l.length + 1 := by simp [appL]
  refine ⟨(D.logFrom_all _).2 fun k hk => ?_, by omega⟩
  by_cases e : k < l.length
  · have := (D.logFrom_all _).1 h1.1 k e
    simpa [appL, List.getElem?_append_left e] using this
  · obtain rfl : k = l.length := by omega
    have : (appL l x).getD l.length default = x.to (IntKind.u64.wrap (l.length : Nat)) := by simp [appL]
    rw [this]
    simp [okR, Rec.to, h2, h3]
theorem pr_zero {p : Part} {c : Cmd} (h : prE p c = 0) : hasK p.rng c.key = true ∧ p.frozen = 0 ∧ appE p.recs (newR c) = 0 ∧ P.takeE p.prods (accP p c) = 0 := by
  unfold prE at h
  cases h1 : hasK p.rng c.key
  · simp [h1] at h
  · by_cases h2 : P.judgeV p.prods c.prod c.seq = 2
    · simp [h1, h2] at h
    · by_cases h3 : P.judgeV p.prods c.prod c.seq = 3
      · simp [h1, h3] at h
      · by_cases h4 : p.frozen = 0
        · by_cases h5 : appE p.recs (newR c) = 0
          · simp [h1, h2, h3, h4, h5] at h
            exact ⟨rfl, h4, h5, h⟩
          · simp [h1, h2, h3, h4, h5] at h
        · simp [h1, h2, h3, h4] at h
theorem cm_zero {p : Part} {c : Cmd} (h : cmE p c = 0) : p.frozen = 0 ∧ comE' p c = 0 ∧ P.takeE p.prods (pasP c) = 0 := by
  unfold cmE at h
  by_cases h2 : P.judgeV p.prods c.prod c.seq = 1
  · by_cases h4 : p.frozen = 0
    · by_cases h5 : comE' p c = 0
      · simp [h2, h4, h5] at h
        exact ⟨h4, h5, h⟩
      · simp [h2, h4, h5] at h
    · simp [h2, h4] at h
  · simp [h2] at h
theorem tab_len {l : List P.Producer} (h : P.isTable l = true) : l.length ≤ 256 := by
  simp [P.isTable] at h
  exact h.2
theorem prQ_ok {p : Part} {c : Cmd} (hp : D.PartTy p) (h : partOk p = true) (h0 : prE p c = 0) : partOk (prQ p c) = true ∧ D.PartTy (prQ p c) := by
  obtain ⟨a, b, hl, ht, hc, ho, hlo, ha⟩ := ok_un h
  obtain ⟨k1, _, k2, k3⟩ := pr_zero h0
  have q1 := app_log k2
  have q2 := put_tab k3 (.inl rfl)
  have n1 := log_len hl
  have hL : (appL p.recs (newR c)).length = p.recs.length + 1 := by simp [appL]
  have hlast : (appL p.recs (newR c)).getD p.recs.length default = (newR c).to (IntKind.u64.wrap (p.recs.length : Nat)) := by simp [appL]
  have hold : ∀ k, k < p.recs.length → (appL p.recs (newR c)).getD k default = p.recs.getD k default := fun k hk => by simp [appL, List.getElem?_append_left hk]
  refine ⟨ok_mk a b q1 q2 hc (ord_app k3 rfl rfl k1 ho) (fun x hx => ?_) (fun x hx => ?_), ⟨?_, ?_, hp.cl, fun x hx => ?_, hp.co⟩⟩
  · rw [D.lost_iff]
    intro hh
    show x.offset < (appL p.recs (newR c)).length ∧ ((appL p.recs (newR c)).getD x.offset.toNat default).prod = x.id ∧ ((appL p.recs (newR c)).getD x.offset.toNat default).seq = x.seq
    rcases P.mem_putL'.1 hx with rfl | ⟨hx, _⟩
    · have e : (accP p c).offset = (p.recs.length : Nat) := rfl
      rw [e, Int.toNat_natCast, hlast, hL]
      exact ⟨by omega, rfl, rfl⟩
    · have h1 := D.lost_iff.1 (hlo x hx) hh
      have h2 := (hp.po x hx).1
      rw [hold x.offset.toNat (by omega), hL]
      exact ⟨by omega, h1.2⟩
  · have h1 := ha x hx
    show x.off ≤ ((appL p.recs (newR c)).length : Nat)
    omega
  · show (appL p.recs (newR c)).length ≤ _
    omega
  · have := tab_len q2
    show (P.putL p.prods (accP p c)).length ≤ _
    omega
  · rcases P.mem_putL'.1 hx with rfl | ⟨hx, _⟩
    · show 0 ≤ (p.recs.length : Int) ∧ (p.recs.length : Int) < 18446744073709551616
      omega
    · exact hp.po x hx
theorem cmQ_ok {p : Part} {c : Cmd} (hp : D.PartTy p) (h : partOk p = true) (h0 : cmE p c = 0) (hc0 : 0 ≤ c.off ∧ c.off < 18446744073709551616) : partOk (cmQ p c) = true ∧ D.PartTy (cmQ p c) := by
  obtain ⟨a, b, hl, ht, hc, ho, hlo, ha⟩ := ok_un h
  obtain ⟨_, k2, k3⟩ := cm_zero h0
  have q2 := put_tab k3 (.inr rfl)
  have n1 := log_len hl
  have q3 : isCons (putL p.cons ⟨c.name, c.off⟩) = true := put_cons k2
  have q4 : c.off ≤ (p.recs.length : Nat) := by
    have := (com_zero k2).2.2.1
    rw [wrap_u64 (by omega) (by omega)] at this
    exact this
  refine ⟨ok_mk a b hl q2 q3 (ord_put k3 ho) (fun x hx => ?_) (put_mem (x := ⟨c.name, c.off⟩) (P := fun x => x.off ≤ (p.recs.length : Nat)) q4 _ ha), ⟨hp.rl, ?_, ?_, fun x hx => ?_, put_mem (x := ⟨c.name, c.off⟩) (P := fun x => offOk x.off) hc0 _ hp.co⟩⟩
  · rw [D.lost_iff]
    intro hh
    rcases P.mem_putL'.1 hx with rfl | ⟨hx, _⟩
    · exact absurd hh (by simp [pasP, P.mkP])
    · exact D.lost_iff.1 (hlo x hx) hh
  · have := tab_len q2
    show (P.putL p.prods (pasP c)).length ≤ _
    omega
  · have := cons_len q3
    show (putL p.cons ⟨c.name, c.off⟩).length ≤ _
    omega
  · rcases P.mem_putL'.1 hx with rfl | ⟨hx, _⟩
    · show 0 ≤ (0 : Int) ∧ (0 : Int) < 18446744073709551616
      omega
    · exact hp.po x hx
theorem frQ_ok {p : Part} {b : Int} (hp : D.PartTy p) (h : partOk p = true) : partOk (frQ p b) = true ∧ D.PartTy (frQ p b) := ⟨h, ⟨hp.rl, hp.pl, hp.cl, hp.po, hp.co⟩⟩
theorem dQ_cases {p : Part} {c : Cmd} (h : partOk p = true) : dQ p c = p ∨ ((dX p c).err = 0 ∧ c.kind ≠ 2 ∧ c.kind ≠ 4 ∧ ((c.kind = 1 ∧ prE p c = 0 ∧ dQ p c = prQ p c) ∨ (c.kind = 3 ∧ cmE p c = 0 ∧ dQ p c = cmQ p c) ∨ ((c.kind = 5 ∨ c.kind = 6) ∧ frB p c = false ∧ dQ p c = frQ p (byOf c)))) := by
  unfold dQ dX doQ doX
  simp only [h]
  by_cases h1 : wellB c = false
  · simp [h1]
  · by_cases h2 : c.epoch = p.epoch
    · by_cases h3 : actE p c = 0
      · simp only [h1, h2, h3]
        simp
        unfold actQ actX
        unfold actE un9 at h3
        by_cases k1 : c.kind = 1
        · by_cases e0 : prE p c = 0
          · simp [k1, e0]
          · simp [k1, e0]
        · by_cases k3 : c.kind = 3
          · by_cases e0 : cmE p c = 0
            · simp [k3, e0]
            · simp [k3, e0]
          · by_cases k5 : c.kind = 5
            · cases f : frB p c <;> simp [k5, f]
            · by_cases k6 : c.kind = 6
              · cases f : frB p c <;> simp [k6, f]
              · simp [k1, k3, k5, k6]
      · simp [h3]
    · simp [h2]
theorem dQ_ok {p : Part} {c : Cmd} (hp : D.PartTy p) (h : partOk p = true) (hc : 0 ≤ c.off ∧ c.off < 18446744073709551616) : partOk (dQ p c) = true ∧ D.PartTy (dQ p c) := by
  rcases dQ_cases (c := c) h with e | ⟨_, _, _, ⟨_, h1, e⟩ | ⟨_, h1, e⟩ | ⟨_, h1, e⟩⟩
  · rw [e]; exact ⟨h, hp⟩
  · rw [e]; exact prQ_ok hp h h1
  · rw [e]; exact cmQ_ok hp h h1 hc
  · rw [e]; exact frQ_ok hp h
theorem same_refl (p : Part) : samePt p p = true := by
  have h1 : sameRs p.recs p.recs = true := by
    simp [sameRs, sameF, eqRc]
  have h2 : P.sameP p.prods p.prods = true := by
    unfold P.sameP P.sameFrom; simp [P.eqP]
  have h3 : sameCs p.cons p.cons = true := by
    simp [sameCs, sameG, eqCc]
  simp [samePt, h1, h2, h3]
end Go.Proofs.YtnbhdjadlbhknaaGreatDoor.R

namespace Go.Proofs.YtnbhdjadlbhknaaGreatDoor.J
open Go.Ax
set_option maxRecDepth 1000000
theorem rok_def {l : List Int} (h : RlOk l) : ROk l default := rok0 h.n h.b
theorem done_zero {l : List Int} {s : RS} (h : doneE l s = 0) : s.e = 0 ∧ l.length ≤ s.at_ := by
  unfold doneE at h
  by_cases h0 : s.e = 0 ∧ s.at_ < l.length
  · rw [if_pos h0] at h; exact absurd h (by decide)
  · rw [if_neg h0] at h
    exact ⟨h, by by_cases h1 : s.at_ < l.length
                 · exact absurd ⟨h, h1⟩ h0
                 · omega⟩
theorem done_all {l : List Int} {n : Nat} {b : Int} (h : n = l.length) : doneE l ⟨n, 0, b⟩ = 0 := by
  unfold doneE
  rw [if_neg (by simp; omega)]
theorem cdc_all {α : Type} {l : List Int} {f : RS → α × RS} {enc : α → List Int} {ok : α → Prop} (hf : Cdc l f enc ok) (h : RlOk l) (hd : doneE l (f default).2 = 0) : ok (f default).1 ∧ l = enc (f default).1 := by
  obtain ⟨h0, h1⟩ := done_zero hd
  obtain ⟨a1, a2, a3, r, a4⟩ := hf.bwd default (rok_def h) h0
  have a4 : l = enc (f default).1 ++ r := a4
  rw [a3] at h1
  have h2 := congrArg List.length a4
  rw [List.length_append] at h2
  have h3 : r = [] := List.eq_nil_of_length_eq_zero (by
    have : (default : RS).at_ = 0 := rfl
    rw [this] at h1
    simp only at h1
    omega)
  refine ⟨a2, ?_⟩
  rw [h3, List.append_nil] at a4
  exact a4
theorem cdc_none {α : Type} {x : α} {enc : α → List Int} {f : RS → α × RS} {ok : α → Prop} (hf : Cdc (enc x) f enc ok) (h : RlOk (enc x)) (ho : ok x) : f default = (x, ⟨(enc x).length, 0, 0⟩) ∧ doneE (enc x) (f default).2 = 0 := by
  have h1 := hf.fwd default x [] (rok_def h) rfl ho (by simp; rfl)
  have h2 : f default = (x, ⟨(enc x).length, 0, 0⟩) := h1.trans (by
    have : (default : RS).at_ = 0 := rfl
    have h3 : (default : RS).bad = 0 := rfl
    rw [this, h3, Nat.zero_add])
  exact ⟨h2, by rw [h2]; exact done_all rfl⟩
theorem Bytes.app {a b : List Int} (ha : Bytes a) (hb : Bytes b) : Bytes (a ++ b) := ⟨fun x hx => by
  rcases List.mem_append.1 hx with hx | hx
  · exact ha.b x hx
  · exact hb.b x hx⟩
theorem Bytes.nil : Bytes [] := ⟨fun x hx => absurd hx (by simp)⟩
theorem Bytes.flat {α : Type} {f : α → List Int} : ∀ {l : List α}, (∀ x ∈ l, Bytes (f x)) → Bytes (l.flatMap f)
  | [], _ => Bytes.nil
  | a :: l, h => by
    rw [List.flatMap_cons]
    exact (h a (by simp)).app (Bytes.flat fun x hx => h x (by simp [hx]))
theorem vint_bytes : ∀ (f : Nat) (v : Int), 0 ≤ v → v < 128 ^ (f + 1) → Bytes (vint f v)
  | 0, v, h0, h1 => ⟨fun x hx => by
    obtain rfl := List.mem_singleton.1 hx
    simp at h1
    omega⟩
  | f + 1, v, h0, h1 => by
    by_cases h : v < 128
    · rw [vint_end h]
      exact ⟨fun x hx => by
        obtain rfl := List.mem_singleton.1 hx
        omega⟩
    · rw [vint_step (by omega)]
      have : (128 : Int) ^ (f + 1 + 1) = 128 ^ (f + 1) * 128 := Int.pow_succ 128 (f + 1)
      rw [this] at h1
      have := vint_bytes f (v / 128) (by omega) (by omega)
      exact ⟨fun x hx => by
        rcases List.mem_cons.1 hx with rfl | hx
        · omega
        · exact this.b x hx⟩
theorem u_bytes {v : Int} (h : U64 v) : Bytes (uintB v) := vint_bytes 10 v h.lo (by
  have e : (128 : Int) ^ (10 + 1) = 151115727451828646838272 := by decide
  have := h.hi
  omega)
theorem zig_u {v : Int} (h : I64 v) : U64 (zig v) := ⟨zig0, by unfold zig; have := h.lo; have := h.hi; split <;> omega⟩
theorem i_bytes {v : Int} (h : I64 v) : Bytes (intB v) := u_bytes (zig_u h)
theorem t_bytes {t : List Int} (h : Bytes t) (hl : t.length ≤ 140737488355327) : Bytes (textB t) := (u_bytes ⟨by omega, by omega⟩).app h
theorem s_bytes {s : ByteArray} (hl : s.size ≤ 140737488355327) : Bytes (textB (strB s)) := t_bytes (strB_bytes s) (by rw [strB_len]; exact hl)
theorem b_bytes (b : Bool) : Bytes (boolB b) := ⟨fun x hx => by
  obtain rfl := List.mem_singleton.1 hx
  split <;> omega⟩
theorem rec_bytes {x : Rec} (h : RecOk x) : Bytes (recB x) := ((((u_bytes h.u.off).app (s_bytes (by have := h.k; omega))).app (t_bytes h.b (by have := h.v; omega))).app (u_bytes h.u.prod)).app (u_bytes h.u.seq)
theorem list_bytes {l : List Rec} {m : Int} (hm : m ≤ 100000) (h : LstOk m RecOk l) : Bytes (listB l) := (u_bytes ⟨by omega, by have := h.n; omega⟩).app (Bytes.flat fun x hx => rec_bytes (h.ok x hx))
theorem flat_len {α : Type} {f : α → List Int} {k : Nat} : ∀ {l : List α}, (∀ x ∈ l, (f x).length ≤ k) → (l.flatMap f).length ≤ l.length * k
  | [], _ => by simp
  | a :: l, h => by
    have h1 := h a (by simp)
    have h2 := flat_len (l := l) fun x hx => h x (by simp [hx])
    rw [List.flatMap_cons, List.length_append, List.length_cons, Nat.succ_mul]
    omega
theorem rec_len {x : Rec} (h : RecOk x) : (recB x).length ≤ 343 := by
  have h1 := uintB_len x.off
  have h2 := textS_len x.key
  have h3 := textB_len x.val
  have h4 := uintB_len x.prod
  have h5 := uintB_len x.seq
  have := h.k
  have := h.v
  simp only [recB, List.length_append]
  omega
theorem list_len {l : List Rec} {m : Int} (h : LstOk m RecOk l) (hm : m ≤ 4096) : (listB l).length ≤ 1404940 := by
  have h1 := uintB_len (l.length : Int)
  have h2 := flat_len (f := recB) (l := l) fun x hx => rec_len (h.ok x hx)
  have h3 := h.n
  have h4 : l.length * 343 ≤ 4096 * 343 := Nat.mul_le_mul_right _ (by omega)
  simp only [listB, List.length_append]
  omega
structure StOk (p : Part) : Prop where
  rng : RngOk p.rng
  epoch : U64 p.epoch
  frozen : U64 p.frozen
  recs : LstOk 4096 RecOk p.recs
  prods : LstOk 256 ProdU p.prods
  cons : LstOk 64 ConOk p.cons
theorem mem_getD {α : Type} [Inhabited α] {l : List α} {k : Nat} (h : k < l.length) : l.getD k default ∈ l := by
  simp only [List.getD, List.getElem?_eq_getElem h, Option.getD_some]
  exact List.getElem_mem h
structure RxOk (x : R.Res) : Prop where
  err : I64 x.err
  off : U64 x.off
  recs : LstOk 64 RecOk x.recs
theorem cdc_res (l : List Int) : Cdc l (fun s => ((⟨(intS l s).1, (uintS l (intS l s).2).1, (boolS l (uintS l (intS l s).2).2).1, (listS l (boolS l (uintS l (intS l s).2).2).2 64).1⟩ : R.Res), (listS l (boolS l (uintS l (intS l s).2).2).2 64).2)) resB RxOk := by
  have h := ((cdc_int l).pair ((cdc_uint l).pair ((cdc_bool l).pair (cdc_list l 64)))).map (β := R.Res) (fun a => ⟨a.1, a.2.1, a.2.2.1, a.2.2.2⟩) (fun x => (x.err, x.off, x.old, x.recs)) (eb := resB) (ob := RxOk) (fun x => rfl)
    (fun a ha => ⟨by simp [resB], ha.1, ha.2.1, ha.2.2.2⟩) (fun x hx => ⟨hx.err, hx.off, trivial, hx.recs⟩)
  exact h.of fun s => rfl
theorem res_len {x : R.Res} (h : RxOk x) : (resB x).length ≤ 2000000 := by
  have h1 := intB_len x.err
  have h2 := uintB_len x.off
  have h3 := boolB_len x.old
  have h4 := list_len h.recs (by decide)
  simp only [resB, List.length_append]
  omega
theorem res_rl {x : R.Res} (h : RxOk x) : RlOk (resB x) := ⟨⟨by have := res_len h; omega⟩, (((i_bytes h.err).app (u_bytes h.off)).app (b_bytes x.old)).app (list_bytes (by decide) h.recs)⟩
theorem res_u {x : R.Res} (h : RxOk x) : ResU x := ⟨h.err, h.off, fun k hk => (h.recs.ok _ (mem_getD hk)).u, ⟨by have := res_len h; omega⟩⟩
theorem res_fwd {x : R.Res} (h : RxOk x) : rxS (resB x) = (x, 0) := by
  obtain ⟨h1, h2⟩ := cdc_none (cdc_res (resB x)) (res_rl h) h
  have e : rxRaw (resB x) = (x, ⟨(resB x).length, 0, 0⟩) := h1
  unfold rxS
  rw [e, if_pos (done_all rfl)]
end Go.Proofs.YtnbhdjadlbhknaaGreatDoor.J

namespace Go.Proofs.YtnbhdjadlbhknaaGreatDoor.J
open Go.Ax
set_option maxRecDepth 1000000
theorem u_inj {v w : Int} {r q : List Int} (hv : U64 v) (hw : U64 w) (h : uintB v ++ r = uintB w ++ q) : v = w ∧ r = q := by
  have h1 := u_fwd hv r
  rw [h, u_fwd hw q] at h1
  have h2 : w = v := congrArg (fun x : Int × Int × Nat => x.2.1) h1
  subst h2
  exact ⟨rfl, List.append_cancel_left h⟩
theorem i_inj {v w : Int} {r q : List Int} (hv : I64 v) (hw : I64 w) (h : intB v ++ r = intB w ++ q) : v = w ∧ r = q := by
  obtain ⟨h1, h2⟩ := u_inj (zig_u hv) (zig_u hw) h
  have := congrArg zag h1
  rw [zag_zig, zag_zig] at this
  exact ⟨this, h2⟩
theorem t_inj {v w r q : List Int} (hv : v.length ≤ 140737488355327) (hw : w.length ≤ 140737488355327) (h : textB v ++ r = textB w ++ q) : v = w ∧ r = q := by
  unfold textB at h
  rw [List.append_assoc, List.append_assoc] at h
  obtain ⟨h1, h2⟩ := u_inj ⟨by omega, by omega⟩ ⟨by omega, by omega⟩ h
  exact List.append_inj h2 (by omega)
theorem s_inj {v w : ByteArray} {r q : List Int} (hv : v.size ≤ 140737488355327) (hw : w.size ≤ 140737488355327) (h : textB (strB v) ++ r = textB (strB w) ++ q) : v = w ∧ r = q := by
  obtain ⟨h1, h2⟩ := t_inj (by rw [strB_len]; exact hv) (by rw [strB_len]; exact hw) h
  have := congrArg strOf h1
  rw [strOf_strB, strOf_strB] at this
  exact ⟨this, h2⟩
structure CmT (c : R.Cmd) : Prop where
  u : CmdU c
  b : Bytes c.val
theorem cmd_len (c : R.Cmd) : (cmdB c).length ≤ c.key.size + c.val.length + c.name.size + 200 := by
  have a2 := uintB_len c.epoch
  have a3 := uintB_len c.prod
  have a4 := uintB_len c.seq
  have a5 := uintB_len c.off
  have a6 := textS_len c.key
  have a7 := textB_len c.val
  have a8 := textS_len c.name
  have a9 := intB_len c.most
  have a10 := uintB_len c.plan
  have a11 := intB_len c.kind
  unfold cmdB
  repeat' split
  all_goals simp only [List.length_append, List.length_nil]
  all_goals omega
theorem cmd_bytes {c : R.Cmd} (h : CmT c) : Bytes (cmdB c) := by
  obtain ⟨⟨h1, h2, h3, h4, h5, h6, h7, hn⟩, hb⟩ := h
  have k : Bytes (textB (strB c.key)) := s_bytes (by omega)
  have v : Bytes (textB c.val) := t_bytes hb (by omega)
  have n : Bytes (textB (strB c.name)) := s_bytes (by omega)
  have q : Bytes ([] ++ intB c.kind ++ uintB c.epoch) := (Bytes.nil.app (i_bytes h1)).app (u_bytes h2)
  unfold cmdB
  split
  · exact (((q.app (u_bytes h3)).app (u_bytes h4)).app k).app v
  · split
    · exact (q.app (u_bytes h5)).app (i_bytes h6)
    · split
      · exact (((q.app (u_bytes h3)).app (u_bytes h4)).app n).app (u_bytes h5)
      · split
        · exact q.app n
        · split
          · exact q.app (u_bytes h7)
          · exact Bytes.nil
theorem cmd_rl {c : R.Cmd} (h : CmT c) : RlOk (cmdB c) := ⟨⟨by have := cmd_len c; have := h.u.n; omega⟩, cmd_bytes h⟩
def cutC (c : R.Cmd) : R.Cmd :=
  if c.kind = 1 then ⟨c.kind, c.epoch, c.prod, c.seq, c.key, c.val, 0, 0, ByteArray.empty, 0⟩
  else if c.kind = 2 then ⟨c.kind, c.epoch, 0, 0, ByteArray.empty, [], c.off, c.most, ByteArray.empty, 0⟩
  else if c.kind = 3 then ⟨c.kind, c.epoch, c.prod, c.seq, ByteArray.empty, [], c.off, 0, c.name, 0⟩
  else if c.kind = 4 then ⟨c.kind, c.epoch, 0, 0, ByteArray.empty, [], 0, 0, c.name, 0⟩
  else ⟨c.kind, c.epoch, 0, 0, ByteArray.empty, [], 0, 0, ByteArray.empty, c.plan⟩
def encProduce (c : R.Cmd) : List Int := [] ++ intB c.kind ++ uintB c.epoch ++ uintB c.prod ++ uintB c.seq ++ textB (strB c.key) ++ textB c.val
theorem backProduce {l : List Int} (h : RlOk l) (hd : doneE l (rcProduce l).2 = 0) : (I64 (rcProduce l).1.kind ∧ U64 (rcProduce l).1.epoch ∧ U64 (rcProduce l).1.prod ∧ U64 (rcProduce l).1.seq ∧ (((rcProduce l).1.key.size : Int) ≤ 32 ∧ ((rcProduce l).1.key.size : Int) < 18446744073709551616) ∧ TxtOk 256 (rcProduce l).1.val) ∧ l = encProduce (rcProduce l).1 ∧ (rcProduce l).1.kind = rcKind l := by
  have hc := (cdc_int l).pair ((cdc_uint l).pair ((cdc_uint l).pair ((cdc_uint l).pair ((cdc_str l 32).pair (cdc_bytes l 256)))))
  obtain ⟨q1, q2⟩ := cdc_all hc h hd
  refine ⟨q1, q2.trans ?_, rfl⟩
  simp [encProduce, rcProduce]
theorem fwdProduce {c : R.Cmd} (h : RlOk (encProduce c)) (ho : I64 c.kind ∧ U64 c.epoch ∧ U64 c.prod ∧ U64 c.seq ∧ ((c.key.size : Int) ≤ 32 ∧ (c.key.size : Int) < 18446744073709551616) ∧ TxtOk 256 c.val) : rcProduce (encProduce c) = ((⟨c.kind, c.epoch, c.prod, c.seq, c.key, c.val, 0, 0, ByteArray.empty, 0⟩ : R.Cmd), ⟨(encProduce c).length, 0, 0⟩) ∧ rcKind (encProduce c) = c.kind := by
  have hc := (cdc_int (encProduce c)).pair ((cdc_uint (encProduce c)).pair ((cdc_uint (encProduce c)).pair ((cdc_uint (encProduce c)).pair ((cdc_str (encProduce c) 32).pair (cdc_bytes (encProduce c) 256)))))
  have h1 := hc.fwd default (c.kind, c.epoch, c.prod, c.seq, c.key, c.val) [] (rok_def h) rfl ho (by
    show encProduce c = _
    simp [encProduce])
  refine ⟨?_, congrArg (fun x => x.1.1) h1⟩
  refine (congrArg (fun x => ((⟨x.1.1, x.1.2.1, x.1.2.2.1, x.1.2.2.2.1, x.1.2.2.2.2.1, x.1.2.2.2.2.2, 0, 0, ByteArray.empty, 0⟩ : R.Cmd), x.2)) h1).trans ?_
  have : (default : RS).at_ = 0 := rfl
  have h3 : (default : RS).bad = 0 := rfl
  simp [this, h3, encProduce]
def encFetch (c : R.Cmd) : List Int := [] ++ intB c.kind ++ uintB c.epoch ++ uintB c.off ++ intB c.most
theorem backFetch {l : List Int} (h : RlOk l) (hd : doneE l (rcFetch l).2 = 0) : (I64 (rcFetch l).1.kind ∧ U64 (rcFetch l).1.epoch ∧ U64 (rcFetch l).1.off ∧ I64 (rcFetch l).1.most) ∧ l = encFetch (rcFetch l).1 ∧ (rcFetch l).1.kind = rcKind l := by
  have hc := (cdc_int l).pair ((cdc_uint l).pair ((cdc_uint l).pair (cdc_int l)))
  obtain ⟨q1, q2⟩ := cdc_all hc h hd
  refine ⟨q1, q2.trans ?_, rfl⟩
  simp [encFetch, rcFetch]
theorem fwdFetch {c : R.Cmd} (h : RlOk (encFetch c)) (ho : I64 c.kind ∧ U64 c.epoch ∧ U64 c.off ∧ I64 c.most) : rcFetch (encFetch c) = ((⟨c.kind, c.epoch, 0, 0, ByteArray.empty, [], c.off, c.most, ByteArray.empty, 0⟩ : R.Cmd), ⟨(encFetch c).length, 0, 0⟩) ∧ rcKind (encFetch c) = c.kind := by
  have hc := (cdc_int (encFetch c)).pair ((cdc_uint (encFetch c)).pair ((cdc_uint (encFetch c)).pair (cdc_int (encFetch c))))
  have h1 := hc.fwd default (c.kind, c.epoch, c.off, c.most) [] (rok_def h) rfl ho (by
    show encFetch c = _
    simp [encFetch])
  refine ⟨?_, congrArg (fun x => x.1.1) h1⟩
  refine (congrArg (fun x => ((⟨x.1.1, x.1.2.1, 0, 0, ByteArray.empty, [], x.1.2.2.1, x.1.2.2.2, ByteArray.empty, 0⟩ : R.Cmd), x.2)) h1).trans ?_
  have : (default : RS).at_ = 0 := rfl
  have h3 : (default : RS).bad = 0 := rfl
  simp [this, h3, encFetch]
def encCommit (c : R.Cmd) : List Int := [] ++ intB c.kind ++ uintB c.epoch ++ uintB c.prod ++ uintB c.seq ++ textB (strB c.name) ++ uintB c.off
theorem backCommit {l : List Int} (h : RlOk l) (hd : doneE l (rcCommit l).2 = 0) : (I64 (rcCommit l).1.kind ∧ U64 (rcCommit l).1.epoch ∧ U64 (rcCommit l).1.prod ∧ U64 (rcCommit l).1.seq ∧ (((rcCommit l).1.name.size : Int) ≤ 32 ∧ ((rcCommit l).1.name.size : Int) < 18446744073709551616) ∧ U64 (rcCommit l).1.off) ∧ l = encCommit (rcCommit l).1 ∧ (rcCommit l).1.kind = rcKind l := by
  have hc := (cdc_int l).pair ((cdc_uint l).pair ((cdc_uint l).pair ((cdc_uint l).pair ((cdc_str l 32).pair (cdc_uint l)))))
  obtain ⟨q1, q2⟩ := cdc_all hc h hd
  refine ⟨q1, q2.trans ?_, rfl⟩
  simp [encCommit, rcCommit]
theorem fwdCommit {c : R.Cmd} (h : RlOk (encCommit c)) (ho : I64 c.kind ∧ U64 c.epoch ∧ U64 c.prod ∧ U64 c.seq ∧ ((c.name.size : Int) ≤ 32 ∧ (c.name.size : Int) < 18446744073709551616) ∧ U64 c.off) : rcCommit (encCommit c) = ((⟨c.kind, c.epoch, c.prod, c.seq, ByteArray.empty, [], c.off, 0, c.name, 0⟩ : R.Cmd), ⟨(encCommit c).length, 0, 0⟩) ∧ rcKind (encCommit c) = c.kind := by
  have hc := (cdc_int (encCommit c)).pair ((cdc_uint (encCommit c)).pair ((cdc_uint (encCommit c)).pair ((cdc_uint (encCommit c)).pair ((cdc_str (encCommit c) 32).pair (cdc_uint (encCommit c))))))
  have h1 := hc.fwd default (c.kind, c.epoch, c.prod, c.seq, c.name, c.off) [] (rok_def h) rfl ho (by
    show encCommit c = _
    simp [encCommit])
  refine ⟨?_, congrArg (fun x => x.1.1) h1⟩
  refine (congrArg (fun x => ((⟨x.1.1, x.1.2.1, x.1.2.2.1, x.1.2.2.2.1, ByteArray.empty, [], x.1.2.2.2.2.2, 0, x.1.2.2.2.2.1, 0⟩ : R.Cmd), x.2)) h1).trans ?_
  have : (default : RS).at_ = 0 := rfl
  have h3 : (default : RS).bad = 0 := rfl
  simp [this, h3, encCommit]
def encRead (c : R.Cmd) : List Int := [] ++ intB c.kind ++ uintB c.epoch ++ textB (strB c.name)
theorem backRead {l : List Int} (h : RlOk l) (hd : doneE l (rcRead l).2 = 0) : (I64 (rcRead l).1.kind ∧ U64 (rcRead l).1.epoch ∧ (((rcRead l).1.name.size : Int) ≤ 32 ∧ ((rcRead l).1.name.size : Int) < 18446744073709551616)) ∧ l = encRead (rcRead l).1 ∧ (rcRead l).1.kind = rcKind l := by
  have hc := (cdc_int l).pair ((cdc_uint l).pair (cdc_str l 32))
  obtain ⟨q1, q2⟩ := cdc_all hc h hd
  refine ⟨q1, q2.trans ?_, rfl⟩
  simp [encRead, rcRead]
theorem fwdRead {c : R.Cmd} (h : RlOk (encRead c)) (ho : I64 c.kind ∧ U64 c.epoch ∧ ((c.name.size : Int) ≤ 32 ∧ (c.name.size : Int) < 18446744073709551616)) : rcRead (encRead c) = ((⟨c.kind, c.epoch, 0, 0, ByteArray.empty, [], 0, 0, c.name, 0⟩ : R.Cmd), ⟨(encRead c).length, 0, 0⟩) ∧ rcKind (encRead c) = c.kind := by
  have hc := (cdc_int (encRead c)).pair ((cdc_uint (encRead c)).pair (cdc_str (encRead c) 32))
  have h1 := hc.fwd default (c.kind, c.epoch, c.name) [] (rok_def h) rfl ho (by
    show encRead c = _
    simp [encRead])
  refine ⟨?_, congrArg (fun x => x.1.1) h1⟩
  refine (congrArg (fun x => ((⟨x.1.1, x.1.2.1, 0, 0, ByteArray.empty, [], 0, 0, x.1.2.2, 0⟩ : R.Cmd), x.2)) h1).trans ?_
  have : (default : RS).at_ = 0 := rfl
  have h3 : (default : RS).bad = 0 := rfl
  simp [this, h3, encRead]
def encPlan (c : R.Cmd) : List Int := [] ++ intB c.kind ++ uintB c.epoch ++ uintB c.plan
theorem backPlan {l : List Int} (h : RlOk l) (hd : doneE l (rcPlan l).2 = 0) : (I64 (rcPlan l).1.kind ∧ U64 (rcPlan l).1.epoch ∧ U64 (rcPlan l).1.plan) ∧ l = encPlan (rcPlan l).1 ∧ (rcPlan l).1.kind = rcKind l := by
  have hc := (cdc_int l).pair ((cdc_uint l).pair (cdc_uint l))
  obtain ⟨q1, q2⟩ := cdc_all hc h hd
  refine ⟨q1, q2.trans ?_, rfl⟩
  simp [encPlan, rcPlan]
theorem fwdPlan {c : R.Cmd} (h : RlOk (encPlan c)) (ho : I64 c.kind ∧ U64 c.epoch ∧ U64 c.plan) : rcPlan (encPlan c) = ((⟨c.kind, c.epoch, 0, 0, ByteArray.empty, [], 0, 0, ByteArray.empty, c.plan⟩ : R.Cmd), ⟨(encPlan c).length, 0, 0⟩) ∧ rcKind (encPlan c) = c.kind := by
  have hc := (cdc_int (encPlan c)).pair ((cdc_uint (encPlan c)).pair (cdc_uint (encPlan c)))
  have h1 := hc.fwd default (c.kind, c.epoch, c.plan) [] (rok_def h) rfl ho (by
    show encPlan c = _
    simp [encPlan])
  refine ⟨?_, congrArg (fun x => x.1.1) h1⟩
  refine (congrArg (fun x => ((⟨x.1.1, x.1.2.1, 0, 0, ByteArray.empty, [], 0, 0, ByteArray.empty, x.1.2.2⟩ : R.Cmd), x.2)) h1).trans ?_
  have : (default : RS).at_ = 0 := rfl
  have h3 : (default : RS).bad = 0 := rfl
  simp [this, h3, encPlan]
end Go.Proofs.YtnbhdjadlbhknaaGreatDoor.J

namespace Go.Proofs.YtnbhdjadlbhknaaGreatDoor.J
open Go.Ax
set_option maxRecDepth 1000000
theorem cmd1 {c : R.Cmd} (h : c.kind = 1) : cmdB c = encProduce c := by unfold cmdB; rw [if_pos h]; rfl
theorem cmd2 {c : R.Cmd} (h : c.kind = 2) : cmdB c = encFetch c := by unfold cmdB; rw [if_neg (by omega), if_pos h]; rfl
theorem cmd3 {c : R.Cmd} (h : c.kind = 3) : cmdB c = encCommit c := by unfold cmdB; rw [if_neg (by omega), if_neg (by omega), if_pos h]; rfl
theorem cmd4 {c : R.Cmd} (h : c.kind = 4) : cmdB c = encRead c := by unfold cmdB; rw [if_neg (by omega), if_neg (by omega), if_neg (by omega), if_pos h]; rfl
theorem cmd5 {c : R.Cmd} (h : c.kind = 5 ∨ c.kind = 6) : cmdB c = encPlan c := by unfold cmdB; rw [if_neg (by omega), if_neg (by omega), if_neg (by omega), if_neg (by omega), if_pos h]; rfl
theorem cmd0 {c : R.Cmd} (h : ¬ (c.kind = 1 ∨ c.kind = 2 ∨ c.kind = 3 ∨ c.kind = 4 ∨ c.kind = 5 ∨ c.kind = 6)) : cmdB c = [] := by unfold cmdB; rw [if_neg (by omega), if_neg (by omega), if_neg (by omega), if_neg (by omega), if_neg (by omega)]
theorem well_kind {c : R.Cmd} (h : R.wellB c = true) : c.kind = 1 ∨ c.kind = 2 ∨ c.kind = 3 ∨ c.kind = 4 ∨ c.kind = 5 ∨ c.kind = 6 := by
  unfold R.wellB at h
  by_cases h1 : c.kind = 1
  · omega
  · by_cases h2 : c.kind = 2
    · omega
    · by_cases h3 : c.kind = 3
      · omega
      · by_cases h4 : c.kind = 4
        · omega
        · by_cases h5 : c.kind = 5 ∨ c.kind = 6
          · omega
          · rw [if_neg h1, if_neg h2, if_neg h3, if_neg h4, if_neg h5] at h
            cases h
theorem well_name {c : R.Cmd} (h : R.wellB c = true) (hk : c.kind = 3 ∨ c.kind = 4) : c.name.size ≤ 32 := by
  have : nameOk c.name = true := by
    unfold R.wellB at h
    rcases hk with hk | hk
    · simp [hk] at h; exact h.2
    · simp [hk] at h; exact h
  unfold nameOk at this
  simp at this
  omega
theorem cm_bwd {b : List Int} (h : RlOk b) (h0 : (rcS b).2 = 0) : cmdB (rcS b).1 = b ∧ R.wellB (rcS b).1 = true ∧ CmT (rcS b).1 := by
  unfold rcS at h0 ⊢
  by_cases hc : doneE b (rcRaw b).2 = 0 ∧ R.wellB (rcRaw b).1 = true
  · rw [if_pos hc] at h0 ⊢
    obtain ⟨hd, hw⟩ := hc
    suffices hs : cmdB (rcRaw b).1 = b ∧ CmT (rcRaw b).1 from ⟨hs.1, hw, hs.2⟩
    have hz : U64 0 := u64_0
    have hi : I64 0 := ⟨by decide, by decide⟩
    unfold rcRaw at hd hw ⊢
    by_cases m1 : rcKind b = 1
    · rw [if_pos m1] at hd hw ⊢
      obtain ⟨⟨q0, q1, q2, q3, q4, q5⟩, e, ek⟩ := backProduce h hd
      refine ⟨(cmd1 (by rw [ek]; exact m1)).trans e.symm, ⟨⟨q0, q1, q2, q3, hz, hi, hz, ?_⟩, q5.b⟩⟩
      have z0 : (rcProduce b).1.name.size = 0 := rfl
      have ykey := q4.1
      have yval := q5.n
      omega
    · rw [if_neg m1] at hd hw ⊢
      by_cases m2 : rcKind b = 2
      · rw [if_pos m2] at hd hw ⊢
        obtain ⟨⟨q0, q1, q2, q3⟩, e, ek⟩ := backFetch h hd
        refine ⟨(cmd2 (by rw [ek]; exact m2)).trans e.symm, ⟨⟨q0, q1, hz, hz, q2, q3, hz, ?_⟩, Bytes.nil⟩⟩
        have z0 : (rcFetch b).1.key.size = 0 := rfl
        have z1 : (rcFetch b).1.val.length = 0 := rfl
        have z2 : (rcFetch b).1.name.size = 0 := rfl
        omega
      · rw [if_neg m2] at hd hw ⊢
        by_cases m3 : rcKind b = 3
        · rw [if_pos m3] at hd hw ⊢
          obtain ⟨⟨q0, q1, q2, q3, q4, q5⟩, e, ek⟩ := backCommit h hd
          refine ⟨(cmd3 (by rw [ek]; exact m3)).trans e.symm, ⟨⟨q0, q1, q2, q3, q5, hi, hz, ?_⟩, Bytes.nil⟩⟩
          have z0 : (rcCommit b).1.key.size = 0 := rfl
          have z1 : (rcCommit b).1.val.length = 0 := rfl
          have yname := q4.1
          omega
        · rw [if_neg m3] at hd hw ⊢
          by_cases m4 : rcKind b = 4
          · rw [if_pos m4] at hd hw ⊢
            obtain ⟨⟨q0, q1, q2⟩, e, ek⟩ := backRead h hd
            refine ⟨(cmd4 (by rw [ek]; exact m4)).trans e.symm, ⟨⟨q0, q1, hz, hz, hz, hi, hz, ?_⟩, Bytes.nil⟩⟩
            have z0 : (rcRead b).1.key.size = 0 := rfl
            have z1 : (rcRead b).1.val.length = 0 := rfl
            have yname := q2.1
            omega
          · rw [if_neg m4] at hd hw ⊢
            by_cases m5 : rcKind b = 5 ∨ rcKind b = 6
            · rw [if_pos m5] at hd hw ⊢
              obtain ⟨⟨q0, q1, q2⟩, e, ek⟩ := backPlan h hd
              refine ⟨(cmd5 (by rw [ek]; exact m5)).trans e.symm, ⟨⟨q0, q1, hz, hz, hz, hi, q2, ?_⟩, Bytes.nil⟩⟩
              have z0 : (rcPlan b).1.key.size = 0 := rfl
              have z1 : (rcPlan b).1.val.length = 0 := rfl
              have z2 : (rcPlan b).1.name.size = 0 := rfl
              omega
            · rw [if_neg m5] at hw
              exact absurd (well_kind hw) (by
                have : (rcNone b).1.kind = rcKind b := rfl
                omega)
  · rw [if_neg hc] at h0
    exact absurd h0 (by decide)
theorem cut_kind (c : R.Cmd) : (cutC c).kind = c.kind := by
  unfold cutC
  repeat' split
  all_goals rfl
theorem cut_well (c : R.Cmd) : R.wellB (cutC c) = R.wellB c := by
  by_cases h1 : c.kind = 1
  · unfold R.wellB; rw [cut_kind, if_pos h1, if_pos h1]; unfold R.okN cutC; rw [if_pos h1]
  · by_cases h2 : c.kind = 2
    · unfold R.wellB; rw [cut_kind, if_neg h1, if_pos h2, if_neg h1, if_pos h2]; unfold cutC; rw [if_neg h1, if_pos h2]
    · by_cases h3 : c.kind = 3
      · unfold R.wellB; rw [cut_kind, if_neg h1, if_neg h2, if_pos h3, if_neg h1, if_neg h2, if_pos h3]; unfold R.okN cutC; rw [if_neg h1, if_neg h2, if_pos h3]
      · by_cases h4 : c.kind = 4
        · unfold R.wellB; rw [cut_kind, if_neg h1, if_neg h2, if_neg h3, if_pos h4, if_neg h1, if_neg h2, if_neg h3, if_pos h4]; unfold cutC; rw [if_neg h1, if_neg h2, if_neg h3, if_pos h4]
        · unfold R.wellB; rw [cut_kind, if_neg h1, if_neg h2, if_neg h3, if_neg h4, if_neg h1, if_neg h2, if_neg h3, if_neg h4]; unfold cutC; rw [if_neg h1, if_neg h2, if_neg h3, if_neg h4]
theorem raw_of {l : List Int} {c : R.Cmd} {s : RS} (h : rcRaw l = (c, s)) (hd : doneE l s = 0) (hw : R.wellB c = true) : rcS l = (c, 0) := by
  unfold rcS
  rw [h, if_pos ⟨hd, hw⟩]
theorem cm_fwd {c : R.Cmd} (h : CmT c) (hw : R.wellB c = true) : rcS (cmdB c) = (cutC c, 0) := by
  have hr := cmd_rl h
  obtain ⟨h1, h2, h3, h4, h5, h6, h7, hn⟩ := h.u
  by_cases m1 : c.kind = 1
  · rw [cmd1 m1] at hr ⊢
    have hk : c.key.size ≤ 32 := by
      unfold R.wellB at hw
      simp [m1] at hw
      omega
    have hv : c.val.length ≤ 256 := by
      unfold R.wellB at hw
      simp [m1] at hw
      omega
    obtain ⟨e1, e2⟩ := fwdProduce hr ⟨h1, h2, h3, h4, ⟨by omega, by omega⟩, ⟨by omega, by omega, h.b⟩⟩
    have e3 : rcRaw (encProduce c) = (cutC c, ⟨(encProduce c).length, 0, 0⟩) := by
      unfold rcRaw
      rw [if_pos (by rw [e2]; exact m1), e1]
      unfold cutC
      rw [if_pos m1]
    exact raw_of e3 (done_all rfl) ((cut_well c).trans hw)
  · 
    by_cases m2 : c.kind = 2
    · rw [cmd2 m2] at hr ⊢
      obtain ⟨e1, e2⟩ := fwdFetch hr ⟨h1, h2, h5, h6⟩
      have e3 : rcRaw (encFetch c) = (cutC c, ⟨(encFetch c).length, 0, 0⟩) := by
        unfold rcRaw
        rw [if_neg (by rw [e2]; omega), if_pos (by rw [e2]; exact m2), e1]
        unfold cutC
        rw [if_neg (by omega), if_pos m2]
      exact raw_of e3 (done_all rfl) ((cut_well c).trans hw)
    · 
      by_cases m3 : c.kind = 3
      · rw [cmd3 m3] at hr ⊢
        have hm := well_name hw (by omega)
        obtain ⟨e1, e2⟩ := fwdCommit hr ⟨h1, h2, h3, h4, ⟨by omega, by omega⟩, h5⟩
        have e3 : rcRaw (encCommit c) = (cutC c, ⟨(encCommit c).length, 0, 0⟩) := by
          unfold rcRaw
          rw [if_neg (by rw [e2]; omega), if_neg (by rw [e2]; omega), if_pos (by rw [e2]; exact m3), e1]
          unfold cutC
          rw [if_neg (by omega), if_neg (by omega), if_pos m3]
        exact raw_of e3 (done_all rfl) ((cut_well c).trans hw)
      · 
        by_cases m4 : c.kind = 4
        · rw [cmd4 m4] at hr ⊢
          have hm := well_name hw (by omega)
          obtain ⟨e1, e2⟩ := fwdRead hr ⟨h1, h2, ⟨by omega, by omega⟩⟩
          have e3 : rcRaw (encRead c) = (cutC c, ⟨(encRead c).length, 0, 0⟩) := by
            unfold rcRaw
            rw [if_neg (by rw [e2]; omega), if_neg (by rw [e2]; omega), if_neg (by rw [e2]; omega), if_pos (by rw [e2]; exact m4), e1]
            unfold cutC
            rw [if_neg (by omega), if_neg (by omega), if_neg (by omega), if_pos m4]
          exact raw_of e3 (done_all rfl) ((cut_well c).trans hw)
        · 
          by_cases m5 : c.kind = 5 ∨ c.kind = 6
          · rw [cmd5 m5] at hr ⊢
            obtain ⟨e1, e2⟩ := fwdPlan hr ⟨h1, h2, h7⟩
            have e3 : rcRaw (encPlan c) = (cutC c, ⟨(encPlan c).length, 0, 0⟩) := by
              unfold rcRaw
              rw [if_neg (by rw [e2]; omega), if_neg (by rw [e2]; omega), if_neg (by rw [e2]; omega), if_neg (by rw [e2]; omega), if_pos (by rw [e2]; exact m5), e1]
              unfold cutC
              rw [if_neg (by omega), if_neg (by omega), if_neg (by omega), if_neg (by omega)]
            exact raw_of e3 (done_all rfl) ((cut_well c).trans hw)
          ·exact absurd (well_kind hw) (by omega)
end Go.Proofs.YtnbhdjadlbhknaaGreatDoor.J

namespace Go.Proofs.YtnbhdjadlbhknaaGreatDoor.J
open Go.Ax
set_option maxRecDepth 1000000
theorem cmd_head {c : R.Cmd} (h : c.kind = 1 ∨ c.kind = 2 ∨ c.kind = 3 ∨ c.kind = 4 ∨ c.kind = 5 ∨ c.kind = 6) : ∃ r, cmdB c = intB c.kind ++ (uintB c.epoch ++ r) := by
  by_cases h1 : c.kind = 1
  · rw [cmd1 h1]; exact ⟨_, by simp only [encProduce, List.nil_append, List.append_assoc]; rfl⟩
  · by_cases h2 : c.kind = 2
    · rw [cmd2 h2]; exact ⟨_, by simp only [encFetch, List.nil_append, List.append_assoc]; rfl⟩
    · by_cases h3 : c.kind = 3
      · rw [cmd3 h3]; exact ⟨_, by simp only [encCommit, List.nil_append, List.append_assoc]; rfl⟩
      · by_cases h4 : c.kind = 4
        · rw [cmd4 h4]; exact ⟨_, by simp only [encRead, List.nil_append, List.append_assoc]; rfl⟩
        · rw [cmd5 (by omega)]; exact ⟨_, by simp only [encPlan, List.nil_append, List.append_assoc]; rfl⟩
theorem app_nil {a : List Int} : a = a ++ [] := by simp
theorem cm_not {c : R.Cmd} (h : CmT c) (h0 : (rcS (cmdB c)).2 = 0) : R.wellB c = true := by
  obtain ⟨e, hw, ht⟩ := cm_bwd (cmd_rl h) h0
  generalize (rcS (cmdB c)).1 = g at e hw ht
  have hg := well_kind hw
  obtain ⟨r, er⟩ := cmd_head hg
  have hc : c.kind = 1 ∨ c.kind = 2 ∨ c.kind = 3 ∨ c.kind = 4 ∨ c.kind = 5 ∨ c.kind = 6 := by
    by_cases hc : c.kind = 1 ∨ c.kind = 2 ∨ c.kind = 3 ∨ c.kind = 4 ∨ c.kind = 5 ∨ c.kind = 6
    · exact hc
    · exfalso
      rw [cmd0 hc, er] at e
      have h1 := congrArg List.length e
      have h2 := uintB_pos (zig g.kind)
      unfold intB at h1
      simp only [List.length_append, List.length_nil] at h1
      omega
  obtain ⟨r', er'⟩ := cmd_head hc
  have hk : g.kind = c.kind := by
    rw [er, er'] at e
    exact (i_inj ht.u.kind h.u.kind e).1
  obtain ⟨⟨g1, g2, g3, g4, g5, g6, g7, gn⟩, gb⟩ := ht
  obtain ⟨⟨c1, c2, c3, c4, c5, c6, c7, cn⟩, cb⟩ := h
  rw [← hw]
  by_cases k1 : c.kind = 1
  · rw [cmd1 (hk.trans k1), cmd1 k1] at e
    simp only [encProduce, List.nil_append, List.append_assoc] at e
    obtain ⟨_, e⟩ := i_inj g1 c1 e
    obtain ⟨_, e⟩ := u_inj g2 c2 e
    obtain ⟨e3, e⟩ := u_inj g3 c3 e
    obtain ⟨e4, e⟩ := u_inj g4 c4 e
    obtain ⟨e5, e⟩ := s_inj (by omega) (by omega) e
    rw [app_nil (a := textB g.val), app_nil (a := textB c.val)] at e
    obtain ⟨e6, _⟩ := t_inj (by omega) (by omega) e
    unfold R.wellB R.okN
    rw [hk, e3, e4, e5, e6, if_pos k1, if_pos k1]
  · by_cases k2 : c.kind = 2
    · rw [cmd2 (hk.trans k2), cmd2 k2] at e
      simp only [encFetch, List.nil_append, List.append_assoc] at e
      obtain ⟨_, e⟩ := i_inj g1 c1 e
      obtain ⟨_, e⟩ := u_inj g2 c2 e
      obtain ⟨_, e⟩ := u_inj g5 c5 e
      rw [app_nil (a := intB g.most), app_nil (a := intB c.most)] at e
      obtain ⟨e6, _⟩ := i_inj g6 c6 e
      unfold R.wellB
      rw [hk, e6, if_neg k1, if_pos k2, if_neg k1, if_pos k2]
    · by_cases k3 : c.kind = 3
      · rw [cmd3 (hk.trans k3), cmd3 k3] at e
        simp only [encCommit, List.nil_append, List.append_assoc] at e
        obtain ⟨_, e⟩ := i_inj g1 c1 e
        obtain ⟨_, e⟩ := u_inj g2 c2 e
        obtain ⟨e3, e⟩ := u_inj g3 c3 e
        obtain ⟨e4, e⟩ := u_inj g4 c4 e
        obtain ⟨e5, e⟩ := s_inj (by omega) (by omega) e
        unfold R.wellB R.okN
        rw [hk, e3, e4, e5, if_neg k1, if_neg k2, if_pos k3, if_neg k1, if_neg k2, if_pos k3]
      · by_cases k4 : c.kind = 4
        · rw [cmd4 (hk.trans k4), cmd4 k4] at e
          simp only [encRead, List.nil_append, List.append_assoc] at e
          obtain ⟨_, e⟩ := i_inj g1 c1 e
          obtain ⟨_, e⟩ := u_inj g2 c2 e
          rw [app_nil (a := textB (strB g.name)), app_nil (a := textB (strB c.name))] at e
          obtain ⟨e5, e⟩ := s_inj (by omega) (by omega) e
          unfold R.wellB
          rw [hk, e5, if_neg k1, if_neg k2, if_neg k3, if_pos k4, if_neg k1, if_neg k2, if_neg k3, if_pos k4]
        · have k5 : c.kind = 5 ∨ c.kind = 6 := by omega
          rw [cmd5 (by rw [hk]; exact k5), cmd5 k5] at e
          simp only [encPlan, List.nil_append, List.append_assoc] at e
          obtain ⟨_, e⟩ := i_inj g1 c1 e
          obtain ⟨_, e⟩ := u_inj g2 c2 e
          rw [app_nil (a := uintB g.plan), app_nil (a := uintB c.plan)] at e
          obtain ⟨e5, e⟩ := u_inj g7 c7 e
          unfold R.wellB
          rw [hk, e5, if_neg k1, if_neg k2, if_neg k3, if_neg k4, if_pos k5, if_neg k1, if_neg k2, if_neg k3, if_neg k4]
end Go.Proofs.YtnbhdjadlbhknaaGreatDoor.J

namespace Go.Proofs.YtnbhdjadlbhknaaGreatDoor.R
open Go.Ax
set_option maxRecDepth 1000000
def encCms (b : Bool) (l : List Cmd) : AV := .ys b 10 l.length (cellsOf' encCm l)
def runP (p : Part) (l : List Cmd) (i : Nat) : Part := (l.take i).foldl dQ p
noncomputable def sptC (b1 b2 : Bool) (p q : Part) : Ctr Tryz.prog := ⟨19, [.agg (encPt b1 p), .agg (encPt b2 q)], [], .need (PartIn p) (boolR (samePt p q)), T.Sat.need fun h => spt_c b1 b2 p q h⟩
def stT (l : List Cmd) (i : Nat) : List AV := mkT 63 [(1, encCms true l), (2, .ptr 0 0 0 0), (5, .y (.bool true)), (6, .y (.int .i64 i))]
def stM (f : Nat → Part) (i : Nat) : List Blk := [.box 30 (encPt true (f i))]
end Go.Proofs.YtnbhdjadlbhknaaGreatDoor.R

namespace Go.Proofs.YtnbhdjadlbhknaaGreatDoor.J
open Go.Ax
set_option maxRecDepth 1000000
def sameX (a b : R.Res) : Bool := R.sameRs a.recs b.recs && (a.err == b.err && (a.off == b.off && (a.old == b.old)))
noncomputable def sxH (a b : R.Res) : HintsT Tryz.prog := hh _ noLp (cs1 20 1 4 (R.smC true true a.recs b.recs) noCs) noOp
def vcSx (a : R.Res) (b : R.Res) : Prop :=
  ((true = true ∧ List.length a.recs = List.length a.recs ∧ contLe (List.length a.recs) (5 : Nat) (cellsOf' encR a.recs) (cellsOf' encR a.recs)) ∧ (true = true ∧ List.length b.recs = List.length b.recs ∧ contLe (List.length b.recs) (5 : Nat) (cellsOf' encR b.recs) (cellsOf' encR b.recs)) ∧ True) ∧ True ∧ List.length a.recs ≤ (9223372036854775806 : Nat) ∧ (R.sameRs a.recs b.recs = true → ((a.err == b.err) = true → ((a.off == b.off) = true → (a.old == b.old) = sameX a b ∧ True) ∧ ((a.off == b.off) = false → false = sameX a b ∧ True)) ∧ ((a.err == b.err) = false → false = sameX a b ∧ True)) ∧ (R.sameRs a.recs b.recs = false → false = sameX a b ∧ True)
theorem vcSx_eq (a : R.Res) (b : R.Res) : (ctrVC Tryz.prog (sxH a b) 20 [.agg (R.encX a), .agg (R.encX b)] [] (boolR (sameX a b))) = vcSx a b := by kernel_rfl
def apR (q : Part) (x : R.Res) : T An := .ret (.tup [.agg (encPt true q), encBs true (resB x)], [], [])
noncomputable def apH (b : Bool) (p : Part) (w : List Int) (c : R.Cmd) (e : Int) (c' : R.Cmd) (q : Part) (x : R.Res) : HintsT Tryz.prog := hh _ noLp (cs1 24 1 1 (rcC true w c e) (cs1 24 4 2 (R.doC b p c' q x) (cs1 24 5 2 (wxC x) noCs))) noOp
def vcAp2 (b : Bool) (p : Part) (w : List Int) (c : R.Cmd) (e : Int) (c' : R.Cmd) (q : Part) (x : R.Res) : Prop :=
  ((bsLe w w) ∧ True) ∧ True ∧ RlOk w ∧ (c, e) = rcS w ∧ ((e != (0 : Int)) = true → ((ptLe b b p p) ∧ ((0 : Int) = c'.kind ∧ (0 : Int) = c'.epoch ∧ (0 : Int) = c'.prod ∧ (0 : Int) = c'.seq ∧ { data := #[] : ByteArray } = c'.key ∧ List.length c'.val = (0 : Nat) ∧ (0 : Int) = c'.off ∧ (0 : Int) = c'.most ∧ { data := #[] : ByteArray } = c'.name ∧ (0 : Int) = c'.plan ∧ True) ∧ True) ∧ True ∧ R.DoR p c' q x ∧ ((x.err = x.err ∧ x.off = x.off ∧ x.old = x.old ∧ (true = true ∧ List.length x.recs = List.length x.recs ∧ contLe (List.length x.recs) (5 : Nat) (cellsOf' encR x.recs) (cellsOf' encR x.recs)) ∧ True) ∧ True) ∧ True ∧ ResU x ∧ ((ptLe true true q q) ∧ (bsLe (resB x) (resB x)) ∧ True) ∧ True) ∧ ((e != (0 : Int)) = false → ((ptLe b b p p) ∧ (R.cmLe c c') ∧ True) ∧ True ∧ R.DoR p c' q x ∧ ((x.err = x.err ∧ x.off = x.off ∧ x.old = x.old ∧ (true = true ∧ List.length x.recs = List.length x.recs ∧ contLe (List.length x.recs) (5 : Nat) (cellsOf' encR x.recs) (cellsOf' encR x.recs)) ∧ True) ∧ True) ∧ True ∧ ResU x ∧ ((ptLe true true q q) ∧ (bsLe (resB x) (resB x)) ∧ True) ∧ True)
theorem vcAp2_eq (b : Bool) (p : Part) (w : List Int) (c : R.Cmd) (e : Int) (c' : R.Cmd) (q : Part) (x : R.Res) : (ctrVC Tryz.prog (apH b p w c e c' q x) 24 [.agg (encPt b p), encBs true w] [] (apR q x)) = vcAp2 b p w c e c' q x := by kernel_rfl
structure ApR (p : Part) (w : List Int) (q : Part) (x : R.Res) : Prop where
  r : RlOk w
  i : PartIn p
  o : 0 ≤ (rcS w).1.off ∧ (rcS w).1.off < 18446744073709551616
  e1 : q = R.dQ p (if (rcS w).2 = 0 then (rcS w).1 else default)
  e2 : x = R.dX p (if (rcS w).2 = 0 then (rcS w).1 else default)
  u : ResU x
structure Run where
  f : Nat → Part
  x : Nat → R.Res
  w : Nat → List Int
  q : Nat → Part
  y : Nat → R.Res
  z : Nat → R.Res
  ez : Nat → Int
  d : Nat → R.Cmd
  e : Nat → Int
theorem apTmp (b : Bool) (p : Part) (w : List Int) (q : Part) (x : R.Res) (h : ApR p w q x) : (apR q x).Sat (ACall' Tryz.prog 24 [.agg (encPt b p), encBs true w] []) := by
  obtain ⟨h1, h2, h3, rfl, rfl, h6⟩ := h
  obtain ⟨c, e, he⟩ : ∃ c e, (c, e) = rcS w := ⟨_, _, rfl⟩
  have hc : c = (rcS w).1 := congrArg Prod.fst he
  have hee : e = (rcS w).2 := congrArg Prod.snd he
  rw [← hc, ← hee] at h6 ⊢
  rw [← hc] at h3
  obtain ⟨c', hc'⟩ : ∃ c', (if e = 0 then c else default) = c' := ⟨_, rfl⟩
  rw [hc'] at h6 ⊢
  have ho : 0 ≤ c'.off ∧ c'.off < 18446744073709551616 := by
    rw [← hc']
    split
    · exact h3
    · exact ⟨by decide, by decide⟩
  have hd : R.DoR p c' (R.dQ p c') (R.dX p c') := ⟨rfl, rfl, h2, ho⟩
  refine ctr_vc (ht := apH b p w c e c' (R.dQ p c') (R.dX p c')) Tryz.mixed rfl ?_
  rw [vcAp2_eq b p w c e c' (R.dQ p c') (R.dX p c')]
  unfold vcAp2
  have z0 : (default : R.Cmd) = ⟨0, 0, 0, 0, ByteArray.empty, [], 0, 0, ByteArray.empty, 0⟩ := rfl
  have z1 : ByteArray.empty = (⟨#[]⟩ : ByteArray) := rfl
  by_cases h0 : e = 0
  · rw [if_pos h0] at hc'
    subst hc'
    simp [h0, h1, hd, h6, he]
    rw [h0] at he
    exact he
  · rw [if_neg h0] at hc'
    subst hc'
    simp [h0, h1, hd, h6, he, z0, z1]
    rw [z0, z1] at hd h6
    exact ⟨hd, h6⟩
noncomputable def apC (b : Bool) (p : Part) (w : List Int) (q : Part) (x : R.Res) : Ctr Tryz.prog := ⟨24, [.agg (encPt b p), encBs true w], [], .need (ApR p w q x) (apR q x), T.Sat.need fun h => apTmp b p w q x h⟩
theorem sx_c (a b : R.Res) (h : a.recs.length ≤ 9223372036854775806) : (boolR (sameX a b)).Sat (ACall' Tryz.prog 20 [.agg (R.encX a), .agg (R.encX b)] []) := by
  refine ctr_vc (ht := sxH a b) Tryz.mixed rfl ?_
  rw [vcSx_eq a b]
  unfold vcSx sameX
  have hh := h
  cases h1 : R.sameRs a.recs b.recs
  · simp [hh]
  · cases h2 : (a.err == b.err)
    · simp at h2; simp [hh, h2]
    · cases h3 : (a.off == b.off)
      · simp at h2 h3; simp [hh, h2, h3]
      · simp at h2 h3; simp [hh, h2, h3]
noncomputable def srC (a b : R.Res) : Ctr Tryz.prog := ⟨20, [.agg (R.encX a), .agg (R.encX b)], [], .need (a.recs.length ≤ 9223372036854775806) (boolR (sameX a b)), T.Sat.need fun h => sx_c a b h⟩
def alT (l : List R.Cmd) (b : List Int) (i : Nat) : List AV := mkT 121 [(1, R.encCms true l), (2, encBs true b), (3, .ptr 0 0 0 0), (7, .y (.bool true)), (8, .y (.int .i64 i))]
def alM (r : Run) (i : Nat) : List Blk := [.box 30 (encPt true (r.f i))]
def alX : List Nat := [0, 1, 2, 3, 4, 5, 6, 7, 8, 9, 10, 11, 12]
def alS (l : List R.Cmd) (b : List Int) (r : Run) (_ : Unit) : Exit × List AV × List Blk := (.exit 0, mkT 121 [(2, encBs true b), (3, .ptr 0 0 0 0), (7, .y (.bool true))], alM r l.length)
noncomputable def alH (l : List R.Cmd) (r : Run) (i : Nat) : HintsT Tryz.prog := hh _ noLp (cs1 7 7 5 (R.doC true (r.f i) (l.getD i default) (r.f (i + 1)) (r.x i)) (cs1 7 8 4 (wcC (l.getD i default)) (cs1 7 9 2 (apC true (r.f i) (r.w i) (r.q i) (r.y i)) (cs1 7 10 1 (rxC true (resB (r.y i)) (r.z i) (r.ez i)) (cs1 7 11 1 (rcC true (r.w i) (r.d i) (r.e i)) (cs1 7 12 2 (R.sptC true true (r.f (i + 1)) (r.q i)) (cs1 7 13 2 (srC (r.x i) (r.z i)) noCs))))))) noOp
def vcAlL (l : List R.Cmd) (b : List Int) (r : Run) (i : Nat) : Prop :=
  (decide ((↑i : Int) < (↑(List.length l) : Int)) = true → (true && decide ((↑i : Int) < (↑(List.length l) : Int))) = true ∧ ((ptLe true true (r.f i) (r.f i)) ∧ (R.cmLe (List.getD l (Int.toNat (↑i : Int)) (@default R.Cmd R.instInhabitedCmd)) (List.getD l i (@default R.Cmd R.instInhabitedCmd))) ∧ True) ∧ True ∧ R.DoR (r.f i) (List.getD l i (@default R.Cmd R.instInhabitedCmd)) (r.f (i + (1 : Nat))) (r.x i) ∧ (true && decide ((↑i : Int) < (↑(List.length l) : Int))) = true ∧ ((R.cmLe (List.getD l (Int.toNat (↑i : Int)) (@default R.Cmd R.instInhabitedCmd)) (List.getD l i (@default R.Cmd R.instInhabitedCmd))) ∧ True) ∧ True ∧ CmdU (List.getD l i (@default R.Cmd R.instInhabitedCmd)) ∧ ((ptLe true true (r.f i) (r.f i)) ∧ (bsLe (cmdB (List.getD l i (@default R.Cmd R.instInhabitedCmd))) (r.w i)) ∧ True) ∧ True ∧ ApR (r.f i) (r.w i) (r.q i) (r.y i) ∧ ((bsLe (resB (r.y i)) (resB (r.y i))) ∧ True) ∧ True ∧ RlOk (resB (r.y i)) ∧ (r.z i, r.ez i) = rxS (resB (r.y i)) ∧ ((bsLe (cmdB (List.getD l i (@default R.Cmd R.instInhabitedCmd))) (r.w i)) ∧ True) ∧ True ∧ RlOk (r.w i) ∧ (r.d i, r.e i) = rcS (r.w i) ∧ ((ptLe true true (r.f (i + (1 : Nat))) (r.f (i + (1 : Nat)))) ∧ (ptLe true true (r.q i) (r.q i)) ∧ True) ∧ True ∧ PartIn (r.f (i + (1 : Nat))) ∧ (((r.x i).err = (r.x i).err ∧ (r.x i).off = (r.x i).off ∧ (r.x i).old = (r.x i).old ∧ (true = true ∧ List.length (r.x i).recs = List.length (r.x i).recs ∧ contLe (List.length (r.x i).recs) (5 : Nat) (cellsOf' encR (r.x i).recs) (cellsOf' encR (r.x i).recs)) ∧ True) ∧ ((r.z i).err = (r.z i).err ∧ (r.z i).off = (r.z i).off ∧ (r.z i).old = (r.z i).old ∧ (true = true ∧ List.length (r.z i).recs = List.length (r.z i).recs ∧ contLe (List.length (r.z i).recs) (5 : Nat) (cellsOf' encR (r.z i).recs) (cellsOf' encR (r.z i).recs)) ∧ True) ∧ True) ∧ True ∧ List.length (r.x i).recs ≤ (9223372036854775806 : Nat) ∧ ((!R.samePt (r.f (i + (1 : Nat))) (r.q i)) = true → False) ∧ ((!R.samePt (r.f (i + (1 : Nat))) (r.q i)) = false → ((r.ez i != (0 : Int)) = true → False) ∧ ((r.ez i != (0 : Int)) = false → ((r.e i == (0 : Int)) = true → ((!sameX (r.x i) (r.z i)) = true → False) ∧ ((!sameX (r.x i) (r.z i)) = false → ((r.e i != (0 : Int)) = true → (((r.x i).err != (161 : Int)) = true → False) ∧ (((r.x i).err != (161 : Int)) = false → (((r.z i).err != (161 : Int)) = true → False) ∧ (((r.z i).err != (161 : Int)) = false → ∃ (j : Nat), List.length l - j < List.length l - i ∧ (((true = true ∧ List.length l = List.length l ∧ contLe (List.length l) (10 : Nat) (cellsOf' R.encCm l) (cellsOf' R.encCm l)) ∧ (bsLe b b) ∧ ((0 : Nat) = (0 : Nat) ∧ (0 : Nat) = (0 : Nat)) ∧ true = true ∧ IntKind.wrap IntKind.i64 ((↑i : Int) + (1 : Int)) = (↑j : Int) ∧ True) ∧ ((ptLe true true (r.f (i + (1 : Nat))) (r.f j)) ∧ True) ∧ true = true) ∧ true = true ∧ () = ()))) ∧ ((r.e i != (0 : Int)) = false → ∃ (j : Nat), List.length l - j < List.length l - i ∧ (((true = true ∧ List.length l = List.length l ∧ contLe (List.length l) (10 : Nat) (cellsOf' R.encCm l) (cellsOf' R.encCm l)) ∧ (bsLe b b) ∧ ((0 : Nat) = (0 : Nat) ∧ (0 : Nat) = (0 : Nat)) ∧ true = true ∧ IntKind.wrap IntKind.i64 ((↑i : Int) + (1 : Int)) = (↑j : Int) ∧ True) ∧ ((ptLe true true (r.f (i + (1 : Nat))) (r.f j)) ∧ True) ∧ true = true) ∧ true = true ∧ () = ()))) ∧ ((r.e i == (0 : Int)) = false → ((r.e i != (0 : Int)) = true → (((r.x i).err != (161 : Int)) = true → False) ∧ (((r.x i).err != (161 : Int)) = false → (((r.z i).err != (161 : Int)) = true → False) ∧ (((r.z i).err != (161 : Int)) = false → ∃ (j : Nat), List.length l - j < List.length l - i ∧ (((true = true ∧ List.length l = List.length l ∧ contLe (List.length l) (10 : Nat) (cellsOf' R.encCm l) (cellsOf' R.encCm l)) ∧ (bsLe b b) ∧ ((0 : Nat) = (0 : Nat) ∧ (0 : Nat) = (0 : Nat)) ∧ true = true ∧ IntKind.wrap IntKind.i64 ((↑i : Int) + (1 : Int)) = (↑j : Int) ∧ True) ∧ ((ptLe true true (r.f (i + (1 : Nat))) (r.f j)) ∧ True) ∧ true = true) ∧ true = true ∧ () = ()))) ∧ ((r.e i != (0 : Int)) = false → ∃ (j : Nat), List.length l - j < List.length l - i ∧ (((true = true ∧ List.length l = List.length l ∧ contLe (List.length l) (10 : Nat) (cellsOf' R.encCm l) (cellsOf' R.encCm l)) ∧ (bsLe b b) ∧ ((0 : Nat) = (0 : Nat) ∧ (0 : Nat) = (0 : Nat)) ∧ true = true ∧ IntKind.wrap IntKind.i64 ((↑i : Int) + (1 : Int)) = (↑j : Int) ∧ True) ∧ ((ptLe true true (r.f (i + (1 : Nat))) (r.f j)) ∧ True) ∧ true = true) ∧ true = true ∧ () = ()))))) ∧ (decide ((↑i : Int) < (↑(List.length l) : Int)) = false → ((bsLe b b) ∧ ((0 : Nat) = (0 : Nat) ∧ (0 : Nat) = (0 : Nat)) ∧ true = true ∧ True) ∧ ((ptLe true true (r.f i) (r.f (List.length l))) ∧ True) ∧ true = true)
theorem vcAlL_eq (l : List R.Cmd) (b : List Int) (r : Run) (i : Nat) : (loopVC Tryz.prog (alH l r i) 7 5 (fun i => l.length - i) (alT l b) (alM r) alX (fun _ => .ret ()) (alS l b r) i) = vcAlL l b r i := by kernel_rfl
noncomputable def alHd (p : Part) (l : List R.Cmd) (b : List Int) (r : Run) (d : R.Cmd) (e : Int) (q : Part) (y : R.Res) : HintsT Tryz.prog := hh _ (lp1 7 5 (jobOf (alT l b) (alM r) alX (fun _ => .ret ()) (alS l b r) 0) noLp) (cs1 7 1 0 R.livC (cs1 7 2 1 (pcC true p) (cs1 7 17 1 (rcC true b d e) (cs1 7 18 2 (apC true (r.f l.length) b q y) (cs1 7 19 7 (R.sptC true true q (r.f l.length)) noCs))))) noOp
def vcAl (p : Part) (l : List R.Cmd) (b : List Int) (r : Run) (d : R.Cmd) (e : Int) (q : Part) (y : R.Res) : Prop :=
  True ∧ True ∧ ((ptLe true true p p) ∧ True) ∧ True ∧ PartIn p ∧ (partOk p = true → (((true = true ∧ List.length l = List.length l ∧ contLe (List.length l) (10 : Nat) (cellsOf' R.encCm l) (cellsOf' R.encCm l)) ∧ (bsLe b b) ∧ ((0 : Nat) = (0 : Nat) ∧ (0 : Nat) = (0 : Nat)) ∧ true = true ∧ (0 : Int) = (0 : Int) ∧ True) ∧ ((ptLe true true p (r.f (0 : Nat))) ∧ True) ∧ true = true) ∧ LoopOk Tryz.prog (7 : Nat) (5 : Nat) (loopAt Tryz.prog (7 : Nat) (5 : Nat)) { t := alT l b (0 : Nat), m := alM r (0 : Nat), mv := [] : St } (T.map (lout alX (alS l b r)) ((fun (x : Nat) => T.ret ()) (0 : Nat))) ∧ ((bsLe b b) ∧ True) ∧ True ∧ RlOk b ∧ (d, e) = rcS b ∧ ((ptLe true true (r.f (List.length l)) (r.f (List.length l))) ∧ (bsLe b b) ∧ True) ∧ True ∧ ApR (r.f (List.length l)) b q y ∧ (true = true → ((e == (0 : Int)) = true → true = true ∧ True) ∧ ((e == (0 : Int)) = false → ((ptLe true true q q) ∧ (ptLe true true (r.f (List.length l)) (r.f (List.length l))) ∧ True) ∧ True ∧ PartIn q ∧ R.samePt q (r.f (List.length l)) = true ∧ True)) ∧ (true = false → false = true ∧ True)) ∧ (partOk p = false → true = true ∧ True)
theorem vcAl_eq (p : Part) (l : List R.Cmd) (b : List Int) (r : Run) (d : R.Cmd) (e : Int) (q : Part) (y : R.Res) : (ctrVC Tryz.prog (alHd p l b r d e q y) 7 [.agg (encPt true p), R.encCms true l, encBs true b] [] (boolR true)) = vcAl p l b r d e q y := by kernel_rfl
end Go.Proofs.YtnbhdjadlbhknaaGreatDoor.J

namespace Go.Proofs.YtnbhdjadlbhknaaGreatDoor.J
open Go.Ax
set_option maxRecDepth 1000000
end Go.Proofs.YtnbhdjadlbhknaaGreatDoor.J

namespace Go.Proofs.YtnbhdjadlbhknaaGreatDoor.J
open Go.Ax
set_option maxRecDepth 1000000
end Go.Proofs.YtnbhdjadlbhknaaGreatDoor.J

namespace Go.Proofs.YtnbhdjadlbhknaaGreatDoor.J
open Go.Ax
set_option maxRecDepth 1000000
theorem rc_e (l : List Int) : (rcS l).2 = 0 ∨ (rcS l).2 = 161 := by
  unfold rcS
  split
  · exact .inl rfl
  · exact .inr rfl
structure PtT (p : Part) : Prop where
  epoch : U64 p.epoch
  frozen : U64 p.frozen
  recs : ∀ x ∈ p.recs, RecU x ∧ Bytes x.val
  prods : ∀ x ∈ p.prods, ProdU x
  cons : ∀ x ∈ p.cons, U64 x.off
theorem st_of {p : Part} (h : PtT p) (ho : partOk p = true) : StOk p := by
  obtain ⟨k1, k2, k3, k4, k5, _⟩ := R.ok_un ho
  obtain ⟨l1, l2, l3⟩ := R.ok_len ho
  have hr := D.log_mem k3
  have hc := R.cons_name k5
  refine ⟨?_, h.epoch, h.frozen, ⟨by omega, by omega, fun x hx => ⟨(h.recs x hx).1, (hr x hx).1, (hr x hx).2, (h.recs x hx).2⟩⟩, ⟨by omega, by omega, h.prods⟩, ⟨by omega, by omega, fun x hx => ⟨?_, h.cons x hx⟩⟩⟩
  · unfold chkK at k1
    by_cases hb : 32 < p.rng.lo.size ∨ 32 < p.rng.hi.size
    · rw [if_pos hb] at k1
      exact absurd k1 (by decide)
    · exact ⟨by omega, by omega⟩
  · have := hc x hx
    unfold nameOk at this
    simp at this
    omega
end Go.Proofs.YtnbhdjadlbhknaaGreatDoor.J

namespace Go.Proofs.YtnbhdjadlbhknaaGreatDoor.J
open Go.Ax
set_option maxRecDepth 1000000
theorem act_cut (p : Part) (c : R.Cmd) (hk : c.kind = 1 ∨ c.kind = 2 ∨ c.kind = 3 ∨ c.kind = 4 ∨ c.kind = 5 ∨ c.kind = 6) : R.actQ p (cutC c) = R.actQ p c ∧ R.actE p (cutC c) = R.actE p c ∧ R.actX p (cutC c) = R.actX p c ∧ (cutC c).epoch = c.epoch := by
  obtain ⟨kind, epoch, prod, seq, key, val, off, most, name, plan⟩ := c
  simp only at hk
  rcases hk with rfl | rfl | rfl | rfl | rfl | rfl
  · exact ⟨rfl, rfl, rfl, rfl⟩
  · exact ⟨rfl, rfl, rfl, rfl⟩
  · exact ⟨rfl, rfl, rfl, rfl⟩
  · exact ⟨rfl, rfl, rfl, rfl⟩
  · exact ⟨rfl, rfl, rfl, rfl⟩
  · exact ⟨rfl, rfl, rfl, rfl⟩
theorem do_cut (p : Part) (c : R.Cmd) (h : R.wellB c = true) : R.dQ p (cutC c) = R.dQ p c ∧ R.dX p (cutC c) = R.dX p c := by
  obtain ⟨h1, h2, h3, h4⟩ := act_cut p c (well_kind h)
  unfold R.dQ R.dX R.doQ R.doX
  rw [h1, h2, h3, h4, cut_well c]
  exact ⟨rfl, rfl⟩
theorem do_not {p : Part} {c : R.Cmd} (ho : partOk p = true) (h : R.wellB c = false) : R.dQ p c = p ∧ R.dX p c = ⟨161, 0, false, []⟩ := by
  unfold R.dQ R.dX R.doQ R.doX
  simp [ho, h]
theorem well_def : R.wellB default = false := rfl
theorem appE_rng (l : List Rec) (x : Rec) : 0 ≤ R.appE l x ∧ R.appE l x ≤ 999 := by
  unfold R.appE
  repeat' split
  all_goals decide
theorem takeE_rng (l : List P.Producer) (x : P.Producer) : 0 ≤ P.takeE l x ∧ P.takeE l x ≤ 999 := by
  unfold P.takeE
  repeat' split
  all_goals decide
theorem comE_rng (l : List Con) (x : Con) (e : Int) : 0 ≤ comE l x e ∧ comE l x e ≤ 999 := by
  unfold comE
  repeat' split
  all_goals decide
theorem feE_rng (l : List Rec) (o : Int) : 0 ≤ R.feE l o ∧ R.feE l o ≤ 999 := by
  unfold R.feE
  repeat' split
  all_goals decide
theorem prE_rng (p : Part) (c : R.Cmd) : 0 ≤ R.prE p c ∧ R.prE p c ≤ 999 := by
  unfold R.prE
  have h1 := appE_rng p.recs (R.newR c)
  have h2 := takeE_rng p.prods (R.accP p c)
  repeat' split
  all_goals first | omega | decide
theorem cmE_rng (p : Part) (c : R.Cmd) : 0 ≤ R.cmE p c ∧ R.cmE p c ≤ 999 := by
  unfold R.cmE R.comE'
  have h1 := comE_rng p.cons ⟨c.name, c.off⟩ (IntKind.u64.wrap (p.recs.length : Nat))
  have h2 := takeE_rng p.prods (R.pasP c)
  repeat' split
  all_goals first | omega | decide
theorem actE_rng (p : Part) (c : R.Cmd) : 0 ≤ R.actE p c ∧ R.actE p c ≤ 999 := by
  unfold R.actE R.un9
  have h1 := prE_rng p c
  have h2 := cmE_rng p c
  have h3 := feE_rng p.recs c.off
  repeat' split
  all_goals first | omega | decide
theorem wrap_u (x : Int) : U64 (IntKind.u64.wrap x) := by
  rw [wrU]
  exact ⟨by omega, by omega⟩
theorem fet_ok {p : Part} (h : StOk p) (o m : Int) : LstOk 64 RecOk (R.fetL p.recs o m) := by
  have hl : (R.fetL p.recs o m).length ≤ 64 := by
    unfold R.fetL R.fetN
    rw [List.length_take]
    repeat' split
    all_goals omega
  refine ⟨by omega, by omega, fun x hx => h.recs.ok x ?_⟩
  unfold R.fetL at hx
  exact List.mem_of_mem_drop (List.mem_of_mem_take hx)
theorem nil_ok {α : Type} {ok : α → Prop} : LstOk 64 ok [] := ⟨by simp, by simp, fun x hx => absurd hx (by simp)⟩
theorem find_prod {l : List P.Producer} (h : ∀ x ∈ l, ProdU x) (id : Int) : ProdU (P.findD l id) := by
  unfold P.findD
  cases hf : l.find? (P.has id) with
  | none => exact ⟨u64_0, u64_0, u64_0⟩
  | some x => exact h x (List.mem_of_find?_eq_some hf)
theorem find_con {l : List Con} (h : ∀ x ∈ l, ConOk x) (s : ByteArray) : U64 (readO l s) := by
  unfold readO Go.Proofs.YtnbhdjadlbhknaaGreatDoor.findC
  cases hf : l.find? fun x => eqN x.name s with
  | none => exact u64_0
  | some x => exact (h x (List.mem_of_find?_eq_some hf)).o
theorem actX_ok {p : Part} {c : R.Cmd} (h : StOk p) (hc : CmT c) : RxOk (R.actX p c) := by
  have z0 : I64 0 := ⟨by decide, by decide⟩
  have n0 := nil_ok (ok := RecOk)
  have hl := h.recs.n
  have hj : U64 (P.judgeO p.prods c.prod c.seq) := by
    unfold P.judgeO
    repeat' split
    all_goals first | exact u64_0 | skip
    exact (find_prod h.prods.ok _).offset
  have hr : U64 (readO p.cons c.name) := by
    exact find_con h.cons.ok _
  unfold R.actX
  repeat' split
  all_goals first
    | exact ⟨z0, u64_0, n0⟩
    | exact ⟨z0, hc.u.off, n0⟩
    | exact ⟨z0, ⟨by show (0 : Int) ≤ (p.recs.length : Int); omega, by show (p.recs.length : Int) < _; omega⟩, n0⟩
    | exact ⟨z0, hj, n0⟩
    | exact ⟨z0, hr, n0⟩
    | exact ⟨z0, wrap_u _, fet_ok h _ _⟩
theorem dX_ok {p : Part} {c : R.Cmd} (h : StOk p) (hc : CmT c) : RxOk (R.dX p c) := by
  have n0 := nil_ok (ok := RecOk)
  have he := actE_rng p c
  unfold R.dX R.doX
  repeat' split
  all_goals first
    | exact ⟨⟨by show (-9223372036854775808 : Int) ≤ R.actE p c; omega, by show R.actE p c < _; omega⟩, u64_0, n0⟩
    | exact ⟨⟨by show (-9223372036854775808 : Int) ≤ _; decide, by decide⟩, u64_0, n0⟩
    | exact actX_ok h hc
end Go.Proofs.YtnbhdjadlbhknaaGreatDoor.J

namespace Go.Proofs.YtnbhdjadlbhknaaGreatDoor.R
open Go.Ax
set_option maxRecDepth 1000000
structure StOk (l : List Cmd) (f : Nat → Part) (x : Nat → Res) : Prop where
  n : l.length ≤ 9223372036854775806
  p : ∀ i, PartIn (f i)
  ok : ∀ i, partOk (f i) = true
  d : ∀ i, i < l.length → DoR (f i) (l.getD i default) (f (i + 1)) (x i)
  s : ∀ i, i < l.length → samePt (f i) (f (i + 1)) = true ∨ ((x i).err = 0 ∧ (l.getD i default).kind ≠ 2 ∧ (l.getD i default).kind ≠ 4)
theorem runP_succ (p : Part) (l : List Cmd) {i : Nat} (h : i < l.length) : runP p l (i + 1) = dQ (runP p l i) (l.getD i default) := by
  unfold runP
  rw [List.take_add_one, List.foldl_append, List.getElem?_eq_getElem h]
  simp [List.getElem?_eq_getElem h]
structure CmsOk (l : List Cmd) : Prop where
  n : l.length ≤ 4611686018427387903
  o : ∀ c ∈ l, 0 ≤ c.off ∧ c.off < 18446744073709551616
theorem CmsOk.at {l : List Cmd} (h : CmsOk l) {i : Nat} (hi : i < l.length) : 0 ≤ (l.getD i default).off ∧ (l.getD i default).off < 18446744073709551616 := h.o _ (by simp [hi])
end Go.Proofs.YtnbhdjadlbhknaaGreatDoor.R

namespace Go.Proofs.YtnbhdjadlbhknaaGreatDoor.J
open Go.Ax
set_option maxRecDepth 1000000
theorem by_u {c : R.Cmd} (h : CmT c) : U64 (R.byOf c) := by
  unfold R.byOf
  split
  · exact h.u.plan
  · exact u64_0
theorem dQ_t {p : Part} {c : R.Cmd} (hp : PtT p) (ho : partOk p = true) (hc : CmT c) : PtT (R.dQ p c) := by
  have hr : R.appL p.recs (R.newR c) = p.recs ++ [(R.newR c).to (IntKind.u64.wrap (p.recs.length : Nat))] := rfl
  rcases R.dQ_cases (c := c) ho with e | ⟨_, _, _, ⟨_, h1, e⟩ | ⟨_, h1, e⟩ | ⟨_, h1, e⟩⟩
  · rw [e]; exact hp
  · rw [e]
    refine ⟨hp.epoch, hp.frozen, fun x hx => ?_, fun x hx => ?_, hp.cons⟩
    · have hx : x ∈ R.appL p.recs (R.newR c) := hx
      rw [hr] at hx
      rcases List.mem_append.1 hx with hx | hx
      · exact hp.recs x hx
      · obtain rfl := List.mem_singleton.1 hx
        exact ⟨⟨wrap_u _, hc.u.prod, hc.u.seq⟩, hc.b⟩
    · rcases P.mem_putL (show x ∈ P.putL p.prods (R.accP p c) from hx) with rfl | hx
      · have := (R.ok_len ho).1
        exact ⟨hc.u.prod, hc.u.seq, ⟨by show (0 : Int) ≤ (p.recs.length : Int); omega, by show (p.recs.length : Int) < _; omega⟩⟩
      · exact hp.prods x hx
  · rw [e]
    refine ⟨hp.epoch, hp.frozen, hp.recs, fun x hx => ?_, fun x hx => ?_⟩
    · rcases P.mem_putL (show x ∈ P.putL p.prods (R.pasP c) from hx) with rfl | hx
      · exact ⟨hc.u.prod, hc.u.seq, u64_0⟩
      · exact hp.prods x hx
    · exact put_mem (P := fun z : Con => U64 z.off) (x := ⟨c.name, c.off⟩) hc.u.off p.cons hp.cons x hx
  · rw [e]
    exact ⟨hp.epoch, by_u hc, hp.recs, hp.prods, hp.cons⟩
structure PtG (p : Part) : Prop where
  t : PtT p
  ok : partOk p = true
  y : D.PartTy p
theorem PtG.st {p : Part} (h : PtG p) : StOk p := st_of h.t h.ok
theorem PtG.next {p : Part} {c : R.Cmd} (h : PtG p) (hc : CmT c) : PtG (R.dQ p c) := by
  obtain ⟨h1, h2⟩ := R.dQ_ok h.y h.ok ⟨hc.u.off.lo, hc.u.off.hi⟩
  exact ⟨dQ_t h.t h.ok hc, h1, h2⟩
theorem cm_def : CmT default := ⟨⟨⟨by decide, by decide⟩, u64_0, u64_0, u64_0, u64_0, ⟨by decide, by decide⟩, u64_0, by decide⟩, Bytes.nil⟩
def cmdOf (w : List Int) : R.Cmd := if (rcS w).2 = 0 then (rcS w).1 else default
theorem cmdOf_t {w : List Int} (h : RlOk w) : CmT (cmdOf w) := by
  unfold cmdOf
  split
  · exact (cm_bwd h (by assumption)).2.2
  · exact cm_def
theorem rcS_off {w : List Int} (h : RlOk w) : 0 ≤ (rcS w).1.off ∧ (rcS w).1.off < 18446744073709551616 := by
  rcases rc_e w with h0 | h0
  · have := (cm_bwd h h0).2.2.u.off
    exact ⟨this.lo, this.hi⟩
  · unfold rcS at h0 ⊢
    split
    · rename_i hc
      rw [if_pos hc] at h0
      exact absurd (show (0 : Int) = 161 from h0) (by decide)
    · exact ⟨by decide, by decide⟩
theorem ap_r {p : Part} {w : List Int} (hp : PtG p) (hw : RlOk w) : ApR p w (R.dQ p (cmdOf w)) (R.dX p (cmdOf w)) :=
  ⟨hw, hp.y.isIn, rcS_off hw, rfl, rfl, res_u (dX_ok hp.st (cmdOf_t hw))⟩
theorem sameX_refl (a : R.Res) : sameX a a = true := by
  have h : R.sameRs a.recs a.recs = true := by simp [R.sameRs, R.sameF, R.eqRc]
  simp [sameX, h]
theorem ap_well {p : Part} {c : R.Cmd} (hc : CmT c) (hw : R.wellB c = true) : (rcS (cmdB c)).2 = 0 ∧ R.dQ p (cmdOf (cmdB c)) = R.dQ p c ∧ R.dX p (cmdOf (cmdB c)) = R.dX p c := by
  have h := cm_fwd hc hw
  have h2 : cmdOf (cmdB c) = cutC c := by unfold cmdOf; rw [h]; rfl
  rw [h2, h]
  exact ⟨rfl, do_cut p c hw⟩
theorem ap_not {p : Part} {c : R.Cmd} (ho : partOk p = true) (hc : CmT c) (hw : R.wellB c = false) : (rcS (cmdB c)).2 = 161 ∧ R.dQ p (cmdOf (cmdB c)) = p ∧ R.dQ p c = p ∧ (R.dX p (cmdOf (cmdB c))).err = 161 ∧ (R.dX p c).err = 161 := by
  have h0 : (rcS (cmdB c)).2 ≠ 0 := fun h => by
    have := cm_not hc h
    rw [hw] at this
    cases this
  have h1 : (rcS (cmdB c)).2 = 161 := by
    rcases rc_e (cmdB c) with h | h
    · exact absurd h h0
    · exact h
  have h2 : cmdOf (cmdB c) = default := by unfold cmdOf; rw [if_neg h0]
  obtain ⟨a1, a2⟩ := do_not ho hw
  obtain ⟨b1, b2⟩ := do_not (c := default) ho well_def
  rw [h2, a1, a2, b1, b2]
  exact ⟨h1, rfl, rfl, rfl, rfl⟩
end Go.Proofs.YtnbhdjadlbhknaaGreatDoor.J
