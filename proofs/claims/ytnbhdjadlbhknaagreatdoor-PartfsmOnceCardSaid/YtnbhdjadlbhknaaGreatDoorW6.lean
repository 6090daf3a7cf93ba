import Derived.Test.YtnbhdjadlbhknaaGreatDoorW5
set_option linter.unusedVariables false
set_option linter.unusedSimpArgs false
set_option linter.unusedSectionVars false
/-! Shards' states, plain: what a command makes of a state that may be may be. -/
namespace Go.Proofs.YtnbhdjadlbhknaaGreatDoor.R
open Go.Ax
set_option maxRecDepth 1000000
theorem take_zero {l : List P.Producer} {x : P.Producer} : P.takeE l x = 0 ↔ P.isTable l = true ∧ P.judgeV l x.id x.seq = 1 ∧ (P.findI l x.id = true ∨ ¬ l.length = 256) := by
  unfold P.takeE
  by_cases ht : P.isTable l = true
  · by_cases h4 : P.judgeV l x.id x.seq = 4
    · simp [ht, h4]
    · by_cases h5 : P.judgeV l x.id x.seq = 1
      · cases hf : P.findI l x.id
        · by_cases hn : l.length = 256
          · simp [ht, h5, hn]
          · simp [ht, h5, hn]
        · simp [ht, h5]
      · simp [ht, h4, h5]
  · simp [ht]
theorem oth_lt {l : List P.Producer} {x : P.Producer} (h : P.findI l x.id = true) : (P.oth l x).length < l.length := by
  have ⟨h1, h2⟩ := P.find_of h
  unfold P.oth
  rw [List.length_filter_lt_length_iff_exists]
  exact ⟨_, h1, by simp [P.keep, h2]⟩
theorem oth_le (l : List P.Producer) (x : P.Producer) : (P.oth l x).length ≤ l.length := List.length_filter_le _ _
theorem put_tab {l : List P.Producer} {x : P.Producer} (h : P.takeE l x = 0) (g : x.here = true ∨ x.offset = 0) : P.isTable (P.putL l x) = true := by
  have ⟨h1, h2, h3⟩ := take_zero.1 h
  have ⟨h4, r, n⟩ := (P.table_iff l).1 h1
  rw [P.table_iff]
  refine ⟨fun z hz => ?_, P.putL_rising r, ?_⟩
  · rcases P.mem_putL'.1 hz with rfl | ⟨hz, _⟩
    · have hb := ((P.judge_new l z.id z.seq).1 h2).1
      simp [P.badN] at hb
      exact ⟨hb.1, hb.2.1, hb.2.2, g⟩
    · exact h4 z hz
  · rw [P.putL_len]
    rcases h3 with h3 | h3
    · have := oth_lt h3; omega
    · have := oth_le l x; omega
/-! the highest number of each producer -/
theorem knP_app (l : List P.Producer) (x : P.Producer) : knP (l ++ [x]) = (knP l).put x.id x.seq := by simp [knP]
theorem knP_sel (l : List P.Producer) (a : Int) : (Kn.sel (knP l) a = 0 ∧ ∀ x ∈ l, x.id ≠ a) ∨ ∃ x ∈ l, x.id = a ∧ Kn.sel (knP l) a = x.seq := by
  refine D.snoc_ind (P := fun l => (Kn.sel (knP l) a = 0 ∧ ∀ x ∈ l, x.id ≠ a) ∨ ∃ x ∈ l, x.id = a ∧ Kn.sel (knP l) a = x.seq) ?_ ?_ l
  · exact .inl ⟨rfl, fun x hx => by cases hx⟩
  · intro l x ih
    rw [knP_app, D.sel_put]
    by_cases h : x.id = a
    · rw [if_pos h]; exact .inr ⟨x, by simp, h, rfl⟩
    · rw [if_neg h]
      rcases ih with ⟨h1, h2⟩ | ⟨y, h1, h2, h3⟩
      · refine .inl ⟨h1, fun y hy => ?_⟩
        rcases List.mem_append.1 hy with hy | hy
        · exact h2 y hy
        · simp at hy; subst hy; exact h
      · exact .inr ⟨y, by simp [h1], h2, h3⟩
theorem knP_mem {l : List P.Producer} (h : P.rising l) {x : P.Producer} (hx : x ∈ l) : Kn.sel (knP l) x.id = x.seq := by
  rcases knP_sel l x.id with ⟨_, h2⟩ | ⟨y, h1, h2, h3⟩
  · exact absurd rfl (h2 x hx)
  · rw [h3, P.pw_unique ((P.rising_pw l).1 h) h1 hx h2]
theorem knP_put {l : List P.Producer} (h : P.rising l) (x : P.Producer) (a : Int) : Kn.sel (knP (P.putL l x)) a = if a = x.id then x.seq else Kn.sel (knP l) a := by
  have hr : P.rising (P.putL l x) := P.putL_rising h
  by_cases e : a = x.id
  · subst e
    rw [if_pos rfl]
    exact knP_mem hr (P.mem_putL'.2 (.inl rfl))
  · rw [if_neg e]
    rcases knP_sel (P.putL l x) a with ⟨h1, h2⟩ | ⟨y, h1, h2, h3⟩
    · rw [h1]
      rcases knP_sel l a with ⟨h4, _⟩ | ⟨z, h4, h5, _⟩
      · exact h4.symm
      · exact absurd h5 (h2 z (P.mem_putL'.2 (.inr ⟨h4, by omega⟩)))
    · rw [h3]
      rcases P.mem_putL'.1 h1 with rfl | ⟨h4, _⟩
      · exact absurd h2.symm e
      · rw [← h2]; exact (knP_mem h h4).symm
theorem knP_new {l : List P.Producer} (h : P.rising l) {id seq : Int} (hj : P.judgeV l id seq = 1) : Kn.sel (knP l) id < seq ∧ 1 ≤ seq := by
  have ⟨h1, h2⟩ := (P.judge_fresh h id seq).1 hj
  simp [P.badN] at h1
  refine ⟨?_, h1.2.1⟩
  rcases knP_sel l id with ⟨h3, _⟩ | ⟨y, h3, h4, h5⟩
  · omega
  · have := h2 y h3 h4; omega
theorem knP_le {l : List P.Producer} {x : P.Producer} (h : P.takeE l x = 0) (a : Int) : Kn.sel (knP l) a ≤ Kn.sel (knP (P.putL l x)) a := by
  have ⟨h1, h2, _⟩ := take_zero.1 h
  have r := P.table_rising h1
  rw [knP_put r]
  by_cases e : a = x.id
  · rw [if_pos e, e]
    have := knP_new r h2
    omega
  · rw [if_neg e]; exact Int.le_refl _
theorem ord_put {g : Rng} {l : List P.Producer} {x : P.Producer} {r : List Rec} (h : P.takeE l x = 0) (ho : D.ordL g (knP l) r) : D.ordL g (knP (P.putL l x)) r :=
  ⟨fun y hy => ⟨(ho.1 y hy).1, (ho.1 y hy).2.1, Int.le_trans (ho.1 y hy).2.2 (knP_le h y.prod)⟩, ho.2⟩
theorem ord_app {g : Rng} {l : List P.Producer} {x : P.Producer} {r : List Rec} {y : Rec} (h : P.takeE l x = 0) (hi : y.prod = x.id) (hs : y.seq = x.seq) (hk : hasK g y.key = true) (ho : D.ordL g (knP l) r) : D.ordL g (knP (P.putL l x)) (r ++ [y]) := by
  have ⟨h1, h2, _⟩ := take_zero.1 h
  have hr := P.table_rising h1
  have hn := knP_new hr h2
  have h3 := ord_put h ho
  constructor
  · intro z hz
    rcases List.mem_append.1 hz with hz | hz
    · exact h3.1 z hz
    · simp at hz
      subst hz
      refine ⟨hk, by omega, ?_⟩
      rw [knP_put hr, if_pos hi]; omega
  · rw [List.pairwise_append]
    refine ⟨ho.2, by simp, fun a ha b hb => ?_⟩
    simp at hb
    subst hb
    intro e
    have := (ho.1 a ha).2.2
    rw [e, hi] at this
    omega
/-! consumers -/
theorem putL_same : ∀ {l : List Con} {x : Con}, l.Pairwise (fun a b => lt a.name b.name = true) → inC l x.name = true → (putL l x).length = l.length
  | [], x, _, h => by simp [inC] at h
  | y :: t, x, hp, h => by
    rw [putL_cons]
    rw [List.pairwise_cons] at hp
    cases h1 : lt y.name x.name
    · by_cases h2 : y.name.data = x.name.data
      · simp [h2]
      · exfalso
        simp only [inC, List.any_cons, Bool.or_eq_true] at h
        rcases h with h | h
        · simp [eqN] at h
          exact h2 h
        · rw [List.any_eq_true] at h
          obtain ⟨z, hz, e⟩ := h
          have h3 := hp.1 z hz
          simp [eqN] at e
          have e2 : z.name = x.name := ByteArray.ext e
          rw [e2, h1] at h3; cases h3
    · simp only [if_true, List.length_cons]
      have h2 : inC t x.name = true := by
        simp only [inC, List.any_cons, Bool.or_eq_true] at h
        rcases h with h | h
        · simp [eqN] at h
          have e2 : y.name = x.name := ByteArray.ext h
          rw [e2, D.lt_irr] at h1; cases h1
        · exact h
      rw [putL_same hp.2 h2]
theorem cons_name {l : List Con} (h : isCons l = true) : ∀ z ∈ l, nameOk z.name = true := by
  intro z hz
  obtain ⟨k, hk, rfl⟩ := List.mem_iff_getElem.1 hz
  simp only [isCons, Bool.and_eq_true] at h
  have := (D.cons_iff l).1 h.1 k hk
  simp [coOk, hk] at this
  exact this.1
theorem cons_of {l : List Con} (h1 : ∀ z ∈ l, nameOk z.name = true) (h2 : risC l) (h3 : l.length ≤ 64) : isCons l = true := by
  simp only [isCons, Bool.and_eq_true, decide_eq_true_eq, h3, and_true]
  rw [D.cons_iff]
  intro k hk
  have a := h1 l[k] (List.getElem_mem hk)
  simp only [coOk, Bool.and_eq_true]
  refine ⟨by simpa [hk] using a, ?_⟩
  by_cases h0 : 0 < k
  · have := h2 (k - 1) k (by omega) hk
    rw [this]; simp
  · simp [h0]
theorem com_zero {l : List Con} {x : Con} {e : Int} (h : comE l x e = 0) : isCons l = true ∧ nameOk x.name = true ∧ x.off ≤ e ∧ (inC l x.name = true ∨ l.length ≠ 64) := by
  unfold comE at h
  cases h1 : isCons l
  · simp [h1] at h
  · cases h2 : nameOk x.name
    · simp [h1, h2] at h
    · by_cases h3 : e < x.off
      · simp [h1, h2, h3] at h
      · cases h4 : inC l x.name
        · by_cases h5 : l.length = 64
          · simp [h1, h2, h3, h4, h5] at h
          · exact ⟨rfl, rfl, by omega, .inr h5⟩
        · exact ⟨rfl, rfl, by omega, .inl rfl⟩
theorem put_cons {l : List Con} {x : Con} {e : Int} (h : comE l x e = 0) : isCons (putL l x) = true := by
  obtain ⟨h1, h2, _, h4⟩ := com_zero h
  refine cons_of (put_mem h2 l (cons_name h1)) (put_ris (cons_ris h1)) ?_
  have h5 := cons_len h1
  rcases h4 with h4 | h4
  · rw [putL_same ((risC_pw l).1 (cons_ris h1)) h4]; exact h5
  · have := put_len l x; omega
/-! what a command makes of a state -/
theorem ok_mk {p : Part} (a : chkK p.rng = 0) (b : p.epoch ≠ 0) (c : isLog p.recs = true) (d : P.isTable p.prods = true) (e : isCons p.cons = true) (f : D.ordL p.rng (knP p.prods) p.recs) (g : ∀ x ∈ p.prods, lostB p x = false) (i : ∀ x ∈ p.cons, x.off ≤ (p.recs.length : Nat)) : partOk p = true := by
  have f' := (D.or_iff p).2 f
  have g' := D.lost_all.2 g
  have i' : p.cons.any (aheadB p.recs.length) = false := by
    rw [List.any_eq_false]
    intro x hx
    have := i x hx
    simp [aheadB]; exact this
  simp [partOk, a, b, c, d, e, f', g', i']
theorem ok_un {p : Part} (h : partOk p = true) : chkK p.rng = 0 ∧ p.epoch ≠ 0 ∧ isLog p.recs = true ∧ P.isTable p.prods = true ∧ isCons p.cons = true ∧ D.ordL p.rng (knP p.prods) p.recs ∧ (∀ x ∈ p.prods, lostB p x = false) ∧ ∀ x ∈ p.cons, x.off ≤ (p.recs.length : Nat) := by
  obtain ⟨a, b, c, d, e, f, g, i⟩ := D.ok_parts h
  refine ⟨a, b, c, d, e, (D.or_iff p).1 f, D.lost_all.1 g, fun x hx => ?_⟩
  rw [List.any_eq_false] at i
  have := i x hx
  simp [aheadB] at this; exact this
theorem app_zero {l : List Rec} {x : Rec} (h : appE l x = 0) : isLog l = true ∧ x.key.size ≤ 32 ∧ x.val.length ≤ 256 ∧ l.length ≠ 4096 := by
  unfold appE at h
  cases h1 : isLog l
  · simp [h1] at h
  · by_cases h2 : 32 < x.key.size
    · simp [h1, h2] at h
    · by_cases h3 : 256 < x.val.length
      · simp [h1, h2, h3] at h
      · by_cases h4 : l.length = 4096
        · simp [h1, h2, h3, h4] at h
        · exact ⟨rfl, by omega, by omega, h4⟩
theorem app_log {l : List Rec} {x : Rec} (h : appE l x = 0) : isLog (appL l x) = true := by
  obtain ⟨h1, h2, h3, h4⟩ := app_zero h
  have hl := log_len h1
  simp only [isLog, Bool.and_eq_true, decide_eq_true_eq] at h1 ⊢
  have hL : (appL l x).length = l.length + 1 := by simp [appL]
  refine ⟨(D.logFrom_all _).2 fun k hk => ?_, by omega⟩
  by_cases e : k < l.length
  · have := (D.logFrom_all _).1 h1.1 k e
    simpa [appL, List.getElem?_append_left e] using this
  · obtain rfl : k = l.length := by omega
    have : (appL l x).getD l.length default = x.to (IntKind.u64.wrap (l.length : Nat)) := by simp [appL]
    rw [this]
    simp [okR, Rec.to, h2, h3]
theorem pr_zero {p : Part} {c : Cmd} (h : prE p c = 0) : hasK p.rng c.key = true ∧ p.frozen = 0 ∧ appE p.recs (newR c) = 0 ∧ P.takeE p.prods (accP p c) = 0 := by
  unfold prE at h
  cases h1 : hasK p.rng c.key
  · simp [h1] at h
  · by_cases h2 : P.judgeV p.prods c.prod c.seq = 2
    · simp [h1, h2] at h
    · by_cases h3 : P.judgeV p.prods c.prod c.seq = 3
      · simp [h1, h3] at h
      · by_cases h4 : p.frozen = 0
        · by_cases h5 : appE p.recs (newR c) = 0
          · simp [h1, h2, h3, h4, h5] at h
            exact ⟨rfl, h4, h5, h⟩
          · simp [h1, h2, h3, h4, h5] at h
        · simp [h1, h2, h3, h4] at h
theorem cm_zero {p : Part} {c : Cmd} (h : cmE p c = 0) : p.frozen = 0 ∧ comE' p c = 0 ∧ P.takeE p.prods (pasP c) = 0 := by
  unfold cmE at h
  by_cases h2 : P.judgeV p.prods c.prod c.seq = 1
  · by_cases h4 : p.frozen = 0
    · by_cases h5 : comE' p c = 0
      · simp [h2, h4, h5] at h
        exact ⟨h4, h5, h⟩
      · simp [h2, h4, h5] at h
    · simp [h2, h4] at h
  · simp [h2] at h
theorem tab_len {l : List P.Producer} (h : P.isTable l = true) : l.length ≤ 256 := by
  simp [P.isTable] at h
  exact h.2
theorem prQ_ok {p : Part} {c : Cmd} (hp : D.PartTy p) (h : partOk p = true) (h0 : prE p c = 0) : partOk (prQ p c) = true ∧ D.PartTy (prQ p c) := by
  obtain ⟨a, b, hl, ht, hc, ho, hlo, ha⟩ := ok_un h
  obtain ⟨k1, _, k2, k3⟩ := pr_zero h0
  have q1 := app_log k2
  have q2 := put_tab k3 (.inl rfl)
  have n1 := log_len hl
  have hL : (appL p.recs (newR c)).length = p.recs.length + 1 := by simp [appL]
  have hlast : (appL p.recs (newR c)).getD p.recs.length default = (newR c).to (IntKind.u64.wrap (p.recs.length : Nat)) := by simp [appL]
  have hold : ∀ k, k < p.recs.length → (appL p.recs (newR c)).getD k default = p.recs.getD k default := fun k hk => by simp [appL, List.getElem?_append_left hk]
  refine ⟨ok_mk a b q1 q2 hc (ord_app k3 rfl rfl k1 ho) (fun x hx => ?_) (fun x hx => ?_), ⟨?_, ?_, hp.cl, fun x hx => ?_, hp.co⟩⟩
  · rw [D.lost_iff]
    intro hh
    show x.offset < (appL p.recs (newR c)).length ∧ ((appL p.recs (newR c)).getD x.offset.toNat default).prod = x.id ∧ ((appL p.recs (newR c)).getD x.offset.toNat default).seq = x.seq
    rcases P.mem_putL'.1 hx with rfl | ⟨hx, _⟩
    · have e : (accP p c).offset = (p.recs.length : Nat) := rfl
      rw [e, Int.toNat_natCast, hlast, hL]
      exact ⟨by omega, rfl, rfl⟩
    · have h1 := D.lost_iff.1 (hlo x hx) hh
      have h2 := (hp.po x hx).1
      rw [hold x.offset.toNat (by omega), hL]
      exact ⟨by omega, h1.2⟩
  · have h1 := ha x hx
    show x.off ≤ ((appL p.recs (newR c)).length : Nat)
    omega
  · show (appL p.recs (newR c)).length ≤ _
    omega
  · have := tab_len q2
    show (P.putL p.prods (accP p c)).length ≤ _
    omega
  · rcases P.mem_putL'.1 hx with rfl | ⟨hx, _⟩
    · show 0 ≤ (p.recs.length : Int) ∧ (p.recs.length : Int) < 18446744073709551616
      omega
    · exact hp.po x hx
theorem cmQ_ok {p : Part} {c : Cmd} (hp : D.PartTy p) (h : partOk p = true) (h0 : cmE p c = 0) (hc0 : 0 ≤ c.off ∧ c.off < 18446744073709551616) : partOk (cmQ p c) = true ∧ D.PartTy (cmQ p c) := by
  obtain ⟨a, b, hl, ht, hc, ho, hlo, ha⟩ := ok_un h
  obtain ⟨_, k2, k3⟩ := cm_zero h0
  have q2 := put_tab k3 (.inr rfl)
  have n1 := log_len hl
  have q3 : isCons (putL p.cons ⟨c.name, c.off⟩) = true := put_cons k2
  have q4 : c.off ≤ (p.recs.length : Nat) := by
    have := (com_zero k2).2.2.1
    rw [wrap_u64 (by omega) (by omega)] at this
    exact this
  refine ⟨ok_mk a b hl q2 q3 (ord_put k3 ho) (fun x hx => ?_) (put_mem (x := ⟨c.name, c.off⟩) (P := fun x => x.off ≤ (p.recs.length : Nat)) q4 _ ha), ⟨hp.rl, ?_, ?_, fun x hx => ?_, put_mem (x := ⟨c.name, c.off⟩) (P := fun x => offOk x.off) hc0 _ hp.co⟩⟩
  · rw [D.lost_iff]
    intro hh
    rcases P.mem_putL'.1 hx with rfl | ⟨hx, _⟩
    · exact absurd hh (by simp [pasP, P.mkP])
    · exact D.lost_iff.1 (hlo x hx) hh
  · have := tab_len q2
    show (P.putL p.prods (pasP c)).length ≤ _
    omega
  · have := cons_len q3
    show (putL p.cons ⟨c.name, c.off⟩).length ≤ _
    omega
  · rcases P.mem_putL'.1 hx with rfl | ⟨hx, _⟩
    · show 0 ≤ (0 : Int) ∧ (0 : Int) < 18446744073709551616
      omega
    · exact hp.po x hx
theorem frQ_ok {p : Part} {b : Int} (hp : D.PartTy p) (h : partOk p = true) : partOk (frQ p b) = true ∧ D.PartTy (frQ p b) := ⟨h, ⟨hp.rl, hp.pl, hp.cl, hp.po, hp.co⟩⟩
theorem dQ_cases {p : Part} {c : Cmd} (h : partOk p = true) : dQ p c = p ∨ ((dX p c).err = 0 ∧ c.kind ≠ 2 ∧ c.kind ≠ 4 ∧ ((c.kind = 1 ∧ prE p c = 0 ∧ dQ p c = prQ p c) ∨ (c.kind = 3 ∧ cmE p c = 0 ∧ dQ p c = cmQ p c) ∨ ((c.kind = 5 ∨ c.kind = 6) ∧ frB p c = false ∧ dQ p c = frQ p (byOf c)))) := by
  unfold dQ dX doQ doX
  simp only [h]
  by_cases h1 : wellB c = false
  · simp [h1]
  · by_cases h2 : c.epoch = p.epoch
    · by_cases h3 : actE p c = 0
      · simp only [h1, h2, h3]
        simp
        unfold actQ actX
        unfold actE un9 at h3
        by_cases k1 : c.kind = 1
        · by_cases e0 : prE p c = 0
          · simp [k1, e0]
          · simp [k1, e0]
        · by_cases k3 : c.kind = 3
          · by_cases e0 : cmE p c = 0
            · simp [k3, e0]
            · simp [k3, e0]
          · by_cases k5 : c.kind = 5
            · cases f : frB p c <;> simp [k5, f]
            · by_cases k6 : c.kind = 6
              · cases f : frB p c <;> simp [k6, f]
              · simp [k1, k3, k5, k6]
      · simp [h3]
    · simp [h2]
theorem dQ_ok {p : Part} {c : Cmd} (hp : D.PartTy p) (h : partOk p = true) (hc : 0 ≤ c.off ∧ c.off < 18446744073709551616) : partOk (dQ p c) = true ∧ D.PartTy (dQ p c) := by
  rcases dQ_cases (c := c) h with e | ⟨_, _, _, ⟨_, h1, e⟩ | ⟨_, h1, e⟩ | ⟨_, h1, e⟩⟩
  · rw [e]; exact ⟨h, hp⟩
  · rw [e]; exact prQ_ok hp h h1
  · rw [e]; exact cmQ_ok hp h h1 hc
  · rw [e]; exact frQ_ok hp h
/-! alike to itself -/
theorem same_refl (p : Part) : samePt p p = true := by
  have h1 : sameRs p.recs p.recs = true := by
    simp [sameRs, sameF, eqRc]
  have h2 : P.sameP p.prods p.prods = true := by
    unfold P.sameP P.sameFrom; simp [P.eqP]
  have h3 : sameCs p.cons p.cons = true := by
    simp [sameCs, sameG, eqCc]
  simp [samePt, h1, h2, h3]
end Go.Proofs.YtnbhdjadlbhknaaGreatDoor.R

/-! Shards' states: a state that may be stays one. -/
namespace Go.Proofs.YtnbhdjadlbhknaaGreatDoor.R
open Go.Ax
set_option maxRecDepth 1000000
theorem runP_succ (p : Part) (l : List Cmd) {i : Nat} (h : i < l.length) : runP p l (i + 1) = dQ (runP p l i) (l.getD i default) := by
  unfold runP
  rw [List.take_add_one, List.foldl_append, List.getElem?_eq_getElem h]
  simp [List.getElem?_eq_getElem h]
/-- commands as they may be handed in -/
structure CmsOk (l : List Cmd) : Prop where
  n : l.length ≤ 4611686018427387903
  o : ∀ c ∈ l, 0 ≤ c.off ∧ c.off < 18446744073709551616
theorem CmsOk.at {l : List Cmd} (h : CmsOk l) {i : Nat} (hi : i < l.length) : 0 ≤ (l.getD i default).off ∧ (l.getD i default).off < 18446744073709551616 := h.o _ (by simp [hi])
theorem runP_ok {p : Part} {l : List Cmd} (hp : D.PartTy p) (ho : partOk p = true) (hl : CmsOk l) : ∀ i, partOk (runP p l i) = true ∧ D.PartTy (runP p l i)
  | 0 => by simp [runP, ho, hp]
  | i + 1 => by
    obtain ⟨h1, h2⟩ := runP_ok hp ho hl i
    by_cases hi : i < l.length
    · rw [runP_succ p l hi]
      exact dQ_ok h2 h1 (hl.at hi)
    · have e : runP p l (i + 1) = runP p l i := by
        unfold runP
        rw [List.take_of_length_le (by omega), List.take_of_length_le (by omega)]
      rw [e]; exact ⟨h1, h2⟩
end Go.Proofs.YtnbhdjadlbhknaaGreatDoor.R

/-! Shards' states: what was done stays done: the conditions. -/
namespace Go.Proofs.YtnbhdjadlbhknaaGreatDoor.R
open Go.Ax
set_option maxRecDepth 1000000
def oX : List Nat := [0, 1, 2, 3, 4, 5, 6, 7, 8]
def oiL (l : List Cmd) (i k : Nat) : List (Nat × AV) := [(1, encCms true l), (2, .ptr 0 0 0 0), (5, .y (.bool true)), (6, .y (.int .i64 i)), (7, .ptr 1 0 0 0), (8, .ptr 2 0 0 0)]
def oiT (l : List Cmd) (i k : Nat) : List AV := mkT 261 (oiL l i k ++ [(9, .y (.int .i64 k))])
def oiM (p q : Part) (x : Res) : List Blk := [.box 30 (encPt true p), .box 30 (encPt true q), .box 44 (encX x)]
def oiS (l : List Cmd) (i : Nat) (p q : Part) (x : Res) (_ : Unit) : Exit × List AV × List Blk := (.exit 2, mkT 261 (oiL l i 0), oiM p q x)
def vcOiL (l : List Cmd) (i : Nat) (p : Part) (q : Part) (x : Res) (k : Nat) : Prop :=
  (decide ((↑k : Int) < (↑(List.length p.recs) : Int)) = true →
      (true && decide ((↑k : Int) < (↑(List.length q.recs) : Int))) = true ∧
        (true && decide ((↑k : Int) < (↑(List.length p.recs) : Int))) = true ∧
          (((List.getD q.recs (Int.toNat (↑k : Int)) (@default Rec instInhabitedRec)).prod != (List.getD p.recs (Int.toNat (↑k : Int)) (@default Rec instInhabitedRec)).prod) = true → False) ∧
            (((List.getD q.recs (Int.toNat (↑k : Int)) (@default Rec instInhabitedRec)).prod != (List.getD p.recs (Int.toNat (↑k : Int)) (@default Rec instInhabitedRec)).prod) = false →
              (true && decide ((↑k : Int) < (↑(List.length q.recs) : Int))) = true ∧
                (true && decide ((↑k : Int) < (↑(List.length p.recs) : Int))) = true ∧
                  (((List.getD q.recs (Int.toNat (↑k : Int)) (@default Rec instInhabitedRec)).seq != (List.getD p.recs (Int.toNat (↑k : Int)) (@default Rec instInhabitedRec)).seq) = true → False) ∧
                    (((List.getD q.recs (Int.toNat (↑k : Int)) (@default Rec instInhabitedRec)).seq != (List.getD p.recs (Int.toNat (↑k : Int)) (@default Rec instInhabitedRec)).seq) = false →
                      (true && decide ((↑k : Int) < (↑(List.length q.recs) : Int))) = true ∧
                        (true && decide ((↑k : Int) < (↑(List.length p.recs) : Int))) = true ∧
                          ((!(List.getD q.recs (Int.toNat (↑k : Int)) (@default Rec instInhabitedRec)).key.data.toList == (List.getD p.recs (Int.toNat (↑k : Int)) (@default Rec instInhabitedRec)).key.data.toList) = true → False) ∧
                            ((!(List.getD q.recs (Int.toNat (↑k : Int)) (@default Rec instInhabitedRec)).key.data.toList == (List.getD p.recs (Int.toNat (↑k : Int)) (@default Rec instInhabitedRec)).key.data.toList) = false →
                              (true && decide ((↑k : Int) < (↑(List.length q.recs) : Int))) = true ∧
                                (∀ (k_1 : Nat), k_1 < List.length (List.getD q.recs (Int.toNat (↑k : Int)) (@default Rec instInhabitedRec)).val → true = true) ∧
                                  (true && decide ((↑k : Int) < (↑(List.length p.recs) : Int))) = true ∧
                                    (∀ (k_1 : Nat), k_1 < List.length (List.getD p.recs (Int.toNat (↑k : Int)) (@default Rec instInhabitedRec)).val → true = true) ∧
                                      ((!List.map
                                                  (fun (a : AV) =>
                                                    match
                                                      match a with
                                                      | AV.s (Value.int IntKind.u8 n) => some n
                                                      | AV.y (Value.int IntKind.u8 n) => some n
                                                      | x => none with
                                                    | some n => UInt8.ofNat (Int.toNat n)
                                                    | none => (0 : UInt8))
                                                  (List.map (fun (k_1 : Nat) => AV.y (Value.int IntKind.u8 (List.getD (List.getD q.recs (Int.toNat (↑k : Int)) (@default Rec instInhabitedRec)).val k_1 (0 : Int)))) (List.range (List.length (List.getD q.recs (Int.toNat (↑k : Int)) (@default Rec instInhabitedRec)).val))) ==
                                                List.map
                                                  (fun (a : AV) =>
                                                    match
                                                      match a with
                                                      | AV.s (Value.int IntKind.u8 n) => some n
                                                      | AV.y (Value.int IntKind.u8 n) => some n
                                                      | x => none with
                                                    | some n => UInt8.ofNat (Int.toNat n)
                                                    | none => (0 : UInt8))
                                                  (List.map (fun (k_1 : Nat) => AV.y (Value.int IntKind.u8 (List.getD (List.getD p.recs (Int.toNat (↑k : Int)) (@default Rec instInhabitedRec)).val k_1 (0 : Int)))) (List.range (List.length (List.getD p.recs (Int.toNat (↑k : Int)) (@default Rec instInhabitedRec)).val)))) =
                                            true →
                                          False) ∧
                                        ((!List.map
                                                  (fun (a : AV) =>
                                                    match
                                                      match a with
                                                      | AV.s (Value.int IntKind.u8 n) => some n
                                                      | AV.y (Value.int IntKind.u8 n) => some n
                                                      | x => none with
                                                    | some n => UInt8.ofNat (Int.toNat n)
                                                    | none => (0 : UInt8))
                                                  (List.map (fun (k_1 : Nat) => AV.y (Value.int IntKind.u8 (List.getD (List.getD q.recs (Int.toNat (↑k : Int)) (@default Rec instInhabitedRec)).val k_1 (0 : Int)))) (List.range (List.length (List.getD q.recs (Int.toNat (↑k : Int)) (@default Rec instInhabitedRec)).val))) ==
                                                List.map
                                                  (fun (a : AV) =>
                                                    match
                                                      match a with
                                                      | AV.s (Value.int IntKind.u8 n) => some n
                                                      | AV.y (Value.int IntKind.u8 n) => some n
                                                      | x => none with
                                                    | some n => UInt8.ofNat (Int.toNat n)
                                                    | none => (0 : UInt8))
                                                  (List.map (fun (k_1 : Nat) => AV.y (Value.int IntKind.u8 (List.getD (List.getD p.recs (Int.toNat (↑k : Int)) (@default Rec instInhabitedRec)).val k_1 (0 : Int)))) (List.range (List.length (List.getD p.recs (Int.toNat (↑k : Int)) (@default Rec instInhabitedRec)).val)))) =
                                            false →
                                          (true && decide ((↑k : Int) < (↑(List.length q.recs) : Int))) = true ∧ (((List.getD q.recs (Int.toNat (↑k : Int)) (@default Rec instInhabitedRec)).off != IntKind.wrap IntKind.u64 (↑k : Int)) = true → False) ∧ (((List.getD q.recs (Int.toNat (↑k : Int)) (@default Rec instInhabitedRec)).off != IntKind.wrap IntKind.u64 (↑k : Int)) = false → ∃ (j : Nat), List.length p.recs - j < List.length p.recs - k ∧ (((true = true ∧ List.length l = List.length l ∧ contLe (List.length l) (10 : Nat) (cellsOf' encCm l) (cellsOf' encCm l)) ∧ ((0 : Nat) = (0 : Nat) ∧ (0 : Nat) = (0 : Nat)) ∧ true = true ∧ (↑i : Int) = (↑i : Int) ∧ ((0 : Nat) = (0 : Nat) ∧ (0 : Nat) = (0 : Nat)) ∧ ((0 : Nat) = (0 : Nat) ∧ (0 : Nat) = (0 : Nat)) ∧ IntKind.wrap IntKind.i64 ((↑k : Int) + (1 : Int)) = (↑j : Int) ∧ True) ∧ ((p.rng.lo = p.rng.lo ∧ p.rng.hi = p.rng.hi ∧ p.epoch = p.epoch ∧ p.frozen = p.frozen ∧ (true = true ∧ List.length p.recs = List.length p.recs ∧ contLe (List.length p.recs) (5 : Nat) (cellsOf' encR p.recs) (cellsOf' encR p.recs)) ∧ (true = true ∧ List.length p.prods = List.length p.prods ∧ contLe (List.length p.prods) (4 : Nat) (cellsOf' P.encP p.prods) (cellsOf' P.encP p.prods)) ∧ (true = true ∧ List.length p.cons = List.length p.cons ∧ contLe (List.length p.cons) (2 : Nat) (cellsOf' encC p.cons) (cellsOf' encC p.cons)) ∧ True) ∧ (q.rng.lo = q.rng.lo ∧ q.rng.hi = q.rng.hi ∧ q.epoch = q.epoch ∧ q.frozen = q.frozen ∧ (true = true ∧ List.length q.recs = List.length q.recs ∧ contLe (List.length q.recs) (5 : Nat) (cellsOf' encR q.recs) (cellsOf' encR q.recs)) ∧ (true = true ∧ List.length q.prods = List.length q.prods ∧ contLe (List.length q.prods) (4 : Nat) (cellsOf' P.encP q.prods) (cellsOf' P.encP q.prods)) ∧ (true = true ∧ List.length q.cons = List.length q.cons ∧ contLe (List.length q.cons) (2 : Nat) (cellsOf' encC q.cons) (cellsOf' encC q.cons)) ∧ True) ∧ (x.err = x.err ∧ x.off = x.off ∧ x.old = x.old ∧ (true = true ∧ List.length x.recs = List.length x.recs ∧ contLe (List.length x.recs) (5 : Nat) (cellsOf' encR x.recs) (cellsOf' encR x.recs)) ∧ True) ∧ True) ∧ true = true) ∧ true = true ∧ () = ())))))) ∧
    (decide ((↑k : Int) < (↑(List.length p.recs) : Int)) = false → ((true = true ∧ List.length l = List.length l ∧ contLe (List.length l) (10 : Nat) (cellsOf' encCm l) (cellsOf' encCm l)) ∧ ((0 : Nat) = (0 : Nat) ∧ (0 : Nat) = (0 : Nat)) ∧ true = true ∧ (↑i : Int) = (↑i : Int) ∧ ((0 : Nat) = (0 : Nat) ∧ (0 : Nat) = (0 : Nat)) ∧ ((0 : Nat) = (0 : Nat) ∧ (0 : Nat) = (0 : Nat)) ∧ True) ∧ ((p.rng.lo = p.rng.lo ∧ p.rng.hi = p.rng.hi ∧ p.epoch = p.epoch ∧ p.frozen = p.frozen ∧ (true = true ∧ List.length p.recs = List.length p.recs ∧ contLe (List.length p.recs) (5 : Nat) (cellsOf' encR p.recs) (cellsOf' encR p.recs)) ∧ (true = true ∧ List.length p.prods = List.length p.prods ∧ contLe (List.length p.prods) (4 : Nat) (cellsOf' P.encP p.prods) (cellsOf' P.encP p.prods)) ∧ (true = true ∧ List.length p.cons = List.length p.cons ∧ contLe (List.length p.cons) (2 : Nat) (cellsOf' encC p.cons) (cellsOf' encC p.cons)) ∧ True) ∧ (q.rng.lo = q.rng.lo ∧ q.rng.hi = q.rng.hi ∧ q.epoch = q.epoch ∧ q.frozen = q.frozen ∧ (true = true ∧ List.length q.recs = List.length q.recs ∧ contLe (List.length q.recs) (5 : Nat) (cellsOf' encR q.recs) (cellsOf' encR q.recs)) ∧ (true = true ∧ List.length q.prods = List.length q.prods ∧ contLe (List.length q.prods) (4 : Nat) (cellsOf' P.encP q.prods) (cellsOf' P.encP q.prods)) ∧ (true = true ∧ List.length q.cons = List.length q.cons ∧ contLe (List.length q.cons) (2 : Nat) (cellsOf' encC q.cons) (cellsOf' encC q.cons)) ∧ True) ∧ (x.err = x.err ∧ x.off = x.off ∧ x.old = x.old ∧ (true = true ∧ List.length x.recs = List.length x.recs ∧ contLe (List.length x.recs) (5 : Nat) (cellsOf' encR x.recs) (cellsOf' encR x.recs)) ∧ True) ∧ True) ∧ true = true)
set_option maxRecDepth 1000000 in
theorem vcOiL_eq (l : List Cmd) (i : Nat) (p : Part) (q : Part) (x : Res) (k : Nat) : (loopVC Tryz.prog (hT _) 6 11 (fun k => p.recs.length - k) (oiT l i) (fun _ => oiM p q x) oX (fun _ => .ret ()) (oiS l i p q x) k) = vcOiL l i p q x k := by kernel_rfl
def ooT (l : List Cmd) (i : Nat) : List AV := mkT 261 [(1, encCms true l), (2, .ptr 0 0 0 0), (5, .y (.bool true)), (6, .y (.int .i64 i))]
def ooS (P : Part) (_ : Unit) : Exit × List AV × List Blk := (.exit 0, mkT 261 [(2, .ptr 0 0 0 0), (5, .y (.bool true))], [.box 30 (encPt true P)])
noncomputable def ooH (l : List Cmd) (f : Nat → Part) (x : Nat → Res) (y : Nat → Res) (i : Nat) : HintsT Tryz.prog := hh _ (lp1 6 11 (jobOf (oiT l i) (fun _ => oiM (f i) (f (i + 1)) (x i)) oX (fun _ => .ret ()) (oiS l i (f i) (f (i + 1)) (x i)) 0) noLp) (cs1 6 7 5 (doC true (f i) (l.getD i default) (f (i + 1)) (x i)) (cs1 6 18 5 (doC true (f (i + 1)) (l.getD i default) (f (i + 1)) (y i)) (cs1 6 19 2 (sptC true true (f (i + 1)) (f (i + 1))) noCs))) noOp
def vcOoL (l : List Cmd) (f : Nat → Part) (x : Nat → Res) (y : Nat → Res) (i : Nat) : Prop :=
  (decide ((↑i : Int) < (↑(List.length l) : Int)) = true → (true && decide ((↑i : Int) < (↑(List.length l) : Int))) = true ∧ (((f i).rng.lo = (f i).rng.lo ∧ (f i).rng.hi = (f i).rng.hi ∧ (f i).epoch = (f i).epoch ∧ (f i).frozen = (f i).frozen ∧ (true = true ∧ List.length (f i).recs = List.length (f i).recs ∧ contLe (List.length (f i).recs) (5 : Nat) (cellsOf' encR (f i).recs) (cellsOf' encR (f i).recs)) ∧ (true = true ∧ List.length (f i).prods = List.length (f i).prods ∧ contLe (List.length (f i).prods) (4 : Nat) (cellsOf' P.encP (f i).prods) (cellsOf' P.encP (f i).prods)) ∧ (true = true ∧ List.length (f i).cons = List.length (f i).cons ∧ contLe (List.length (f i).cons) (2 : Nat) (cellsOf' encC (f i).cons) (cellsOf' encC (f i).cons)) ∧ True) ∧ ((List.getD l (Int.toNat (↑i : Int)) (@default Cmd instInhabitedCmd)).kind = (List.getD l i (@default Cmd instInhabitedCmd)).kind ∧ (List.getD l (Int.toNat (↑i : Int)) (@default Cmd instInhabitedCmd)).epoch = (List.getD l i (@default Cmd instInhabitedCmd)).epoch ∧ (List.getD l (Int.toNat (↑i : Int)) (@default Cmd instInhabitedCmd)).prod = (List.getD l i (@default Cmd instInhabitedCmd)).prod ∧ (List.getD l (Int.toNat (↑i : Int)) (@default Cmd instInhabitedCmd)).seq = (List.getD l i (@default Cmd instInhabitedCmd)).seq ∧ (List.getD l (Int.toNat (↑i : Int)) (@default Cmd instInhabitedCmd)).key = (List.getD l i (@default Cmd instInhabitedCmd)).key ∧ (true = true ∧ List.length (List.getD l (Int.toNat (↑i : Int)) (@default Cmd instInhabitedCmd)).val = List.length (List.getD l i (@default Cmd instInhabitedCmd)).val ∧ contLe (List.length (List.getD l (Int.toNat (↑i : Int)) (@default Cmd instInhabitedCmd)).val) (1 : Nat) (cellsOf' encB (List.getD l (Int.toNat (↑i : Int)) (@default Cmd instInhabitedCmd)).val) (cellsOf' encB (List.getD l i (@default Cmd instInhabitedCmd)).val)) ∧ (List.getD l (Int.toNat (↑i : Int)) (@default Cmd instInhabitedCmd)).off = (List.getD l i (@default Cmd instInhabitedCmd)).off ∧ (List.getD l (Int.toNat (↑i : Int)) (@default Cmd instInhabitedCmd)).most = (List.getD l i (@default Cmd instInhabitedCmd)).most ∧ (List.getD l (Int.toNat (↑i : Int)) (@default Cmd instInhabitedCmd)).name = (List.getD l i (@default Cmd instInhabitedCmd)).name ∧ (List.getD l (Int.toNat (↑i : Int)) (@default Cmd instInhabitedCmd)).plan = (List.getD l i (@default Cmd instInhabitedCmd)).plan ∧ True) ∧ True) ∧ True ∧ DoR (f i) (List.getD l i (@default Cmd instInhabitedCmd)) (f (i + (1 : Nat))) (x i) ∧ (decide ((↑(List.length (f (i + (1 : Nat))).recs) : Int) < (↑(List.length (f i).recs) : Int)) = true → False) ∧ (decide ((↑(List.length (f (i + (1 : Nat))).recs) : Int) < (↑(List.length (f i).recs) : Int)) = false → (decide (IntKind.wrap IntKind.i64 ((↑(List.length (f i).recs) : Int) + (1 : Int)) < (↑(List.length (f (i + (1 : Nat))).recs) : Int)) = true → False) ∧ (decide (IntKind.wrap IntKind.i64 ((↑(List.length (f i).recs) : Int) + (1 : Int)) < (↑(List.length (f (i + (1 : Nat))).recs) : Int)) = false → (((true = true ∧ List.length l = List.length l ∧ contLe (List.length l) (10 : Nat) (cellsOf' encCm l) (cellsOf' encCm l)) ∧ ((0 : Nat) = (0 : Nat) ∧ (0 : Nat) = (0 : Nat)) ∧ true = true ∧ (↑i : Int) = (↑i : Int) ∧ ((0 : Nat) = (0 : Nat) ∧ (0 : Nat) = (0 : Nat)) ∧ ((0 : Nat) = (0 : Nat) ∧ (0 : Nat) = (0 : Nat)) ∧ (0 : Int) = (0 : Int) ∧ True) ∧ (((f i).rng.lo = (f i).rng.lo ∧ (f i).rng.hi = (f i).rng.hi ∧ (f i).epoch = (f i).epoch ∧ (f i).frozen = (f i).frozen ∧ (true = true ∧ List.length (f i).recs = List.length (f i).recs ∧ contLe (List.length (f i).recs) (5 : Nat) (cellsOf' encR (f i).recs) (cellsOf' encR (f i).recs)) ∧ (true = true ∧ List.length (f i).prods = List.length (f i).prods ∧ contLe (List.length (f i).prods) (4 : Nat) (cellsOf' P.encP (f i).prods) (cellsOf' P.encP (f i).prods)) ∧ (true = true ∧ List.length (f i).cons = List.length (f i).cons ∧ contLe (List.length (f i).cons) (2 : Nat) (cellsOf' encC (f i).cons) (cellsOf' encC (f i).cons)) ∧ True) ∧ ((f (i + (1 : Nat))).rng.lo = (f (i + (1 : Nat))).rng.lo ∧ (f (i + (1 : Nat))).rng.hi = (f (i + (1 : Nat))).rng.hi ∧ (f (i + (1 : Nat))).epoch = (f (i + (1 : Nat))).epoch ∧ (f (i + (1 : Nat))).frozen = (f (i + (1 : Nat))).frozen ∧ (true = true ∧ List.length (f (i + (1 : Nat))).recs = List.length (f (i + (1 : Nat))).recs ∧ contLe (List.length (f (i + (1 : Nat))).recs) (5 : Nat) (cellsOf' encR (f (i + (1 : Nat))).recs) (cellsOf' encR (f (i + (1 : Nat))).recs)) ∧ (true = true ∧ List.length (f (i + (1 : Nat))).prods = List.length (f (i + (1 : Nat))).prods ∧ contLe (List.length (f (i + (1 : Nat))).prods) (4 : Nat) (cellsOf' P.encP (f (i + (1 : Nat))).prods) (cellsOf' P.encP (f (i + (1 : Nat))).prods)) ∧ (true = true ∧ List.length (f (i + (1 : Nat))).cons = List.length (f (i + (1 : Nat))).cons ∧ contLe (List.length (f (i + (1 : Nat))).cons) (2 : Nat) (cellsOf' encC (f (i + (1 : Nat))).cons) (cellsOf' encC (f (i + (1 : Nat))).cons)) ∧ True) ∧ ((x i).err = (x i).err ∧ (x i).off = (x i).off ∧ (x i).old = (x i).old ∧ (true = true ∧ List.length (x i).recs = List.length (x i).recs ∧ contLe (List.length (x i).recs) (5 : Nat) (cellsOf' encR (x i).recs) (cellsOf' encR (x i).recs)) ∧ True) ∧ True) ∧ true = true) ∧ LoopOk Tryz.prog (6 : Nat) (11 : Nat) (loopAt Tryz.prog (6 : Nat) (11 : Nat)) { t := oiT l i (0 : Nat), m := oiM (f i) (f (i + (1 : Nat))) (x i), mv := [] : St } (T.map (lout oX (oiS l i (f i) (f (i + (1 : Nat))) (x i))) ((fun (x : Nat) => T.ret ()) (0 : Nat))) ∧ (true && decide ((↑i : Int) < (↑(List.length l) : Int))) = true ∧ (((List.getD l (Int.toNat (↑i : Int)) (@default Cmd instInhabitedCmd)).kind == (1 : Int)) = true → (((x i).err == (0 : Int)) = true → (decide (IntKind.wrap IntKind.u64 (↑(List.length (f (i + (1 : Nat))).recs) : Int) ≤ (x i).off) = true → False) ∧ (decide (IntKind.wrap IntKind.u64 (↑(List.length (f (i + (1 : Nat))).recs) : Int) ≤ (x i).off) = false → (decide ((0 : Int) ≤ IntKind.wrap IntKind.i64 (x i).off) && decide (IntKind.wrap IntKind.i64 (x i).off < (↑(List.length (f (i + (1 : Nat))).recs) : Int))) = true ∧ (true && decide ((↑i : Int) < (↑(List.length l) : Int))) = true ∧ (((List.getD (f (i + (1 : Nat))).recs (Int.toNat (IntKind.wrap IntKind.i64 (x i).off)) (@default Rec instInhabitedRec)).prod != (List.getD l (Int.toNat (↑i : Int)) (@default Cmd instInhabitedCmd)).prod) = true → False) ∧ (((List.getD (f (i + (1 : Nat))).recs (Int.toNat (IntKind.wrap IntKind.i64 (x i).off)) (@default Rec instInhabitedRec)).prod != (List.getD l (Int.toNat (↑i : Int)) (@default Cmd instInhabitedCmd)).prod) = false → (decide ((0 : Int) ≤ IntKind.wrap IntKind.i64 (x i).off) && decide (IntKind.wrap IntKind.i64 (x i).off < (↑(List.length (f (i + (1 : Nat))).recs) : Int))) = true ∧ (true && decide ((↑i : Int) < (↑(List.length l) : Int))) = true ∧ (((List.getD (f (i + (1 : Nat))).recs (Int.toNat (IntKind.wrap IntKind.i64 (x i).off)) (@default Rec instInhabitedRec)).seq != (List.getD l (Int.toNat (↑i : Int)) (@default Cmd instInhabitedCmd)).seq) = true → False) ∧ (((List.getD (f (i + (1 : Nat))).recs (Int.toNat (IntKind.wrap IntKind.i64 (x i).off)) (@default Rec instInhabitedRec)).seq != (List.getD l (Int.toNat (↑i : Int)) (@default Cmd instInhabitedCmd)).seq) = false → (true && decide ((↑i : Int) < (↑(List.length l) : Int))) = true ∧ (((f (i + (1 : Nat))).rng.lo = (f (i + (1 : Nat))).rng.lo ∧ (f (i + (1 : Nat))).rng.hi = (f (i + (1 : Nat))).rng.hi ∧ (f (i + (1 : Nat))).epoch = (f (i + (1 : Nat))).epoch ∧ (f (i + (1 : Nat))).frozen = (f (i + (1 : Nat))).frozen ∧ (true = true ∧ List.length (f (i + (1 : Nat))).recs = List.length (f (i + (1 : Nat))).recs ∧ contLe (List.length (f (i + (1 : Nat))).recs) (5 : Nat) (cellsOf' encR (f (i + (1 : Nat))).recs) (cellsOf' encR (f (i + (1 : Nat))).recs)) ∧ (true = true ∧ List.length (f (i + (1 : Nat))).prods = List.length (f (i + (1 : Nat))).prods ∧ contLe (List.length (f (i + (1 : Nat))).prods) (4 : Nat) (cellsOf' P.encP (f (i + (1 : Nat))).prods) (cellsOf' P.encP (f (i + (1 : Nat))).prods)) ∧ (true = true ∧ List.length (f (i + (1 : Nat))).cons = List.length (f (i + (1 : Nat))).cons ∧ contLe (List.length (f (i + (1 : Nat))).cons) (2 : Nat) (cellsOf' encC (f (i + (1 : Nat))).cons) (cellsOf' encC (f (i + (1 : Nat))).cons)) ∧ True) ∧ ((List.getD l (Int.toNat (↑i : Int)) (@default Cmd instInhabitedCmd)).kind = (List.getD l i (@default Cmd instInhabitedCmd)).kind ∧ (List.getD l (Int.toNat (↑i : Int)) (@default Cmd instInhabitedCmd)).epoch = (List.getD l i (@default Cmd instInhabitedCmd)).epoch ∧ (List.getD l (Int.toNat (↑i : Int)) (@default Cmd instInhabitedCmd)).prod = (List.getD l i (@default Cmd instInhabitedCmd)).prod ∧ (List.getD l (Int.toNat (↑i : Int)) (@default Cmd instInhabitedCmd)).seq = (List.getD l i (@default Cmd instInhabitedCmd)).seq ∧ (List.getD l (Int.toNat (↑i : Int)) (@default Cmd instInhabitedCmd)).key = (List.getD l i (@default Cmd instInhabitedCmd)).key ∧ (true = true ∧ List.length (List.getD l (Int.toNat (↑i : Int)) (@default Cmd instInhabitedCmd)).val = List.length (List.getD l i (@default Cmd instInhabitedCmd)).val ∧ contLe (List.length (List.getD l (Int.toNat (↑i : Int)) (@default Cmd instInhabitedCmd)).val) (1 : Nat) (cellsOf' encB (List.getD l (Int.toNat (↑i : Int)) (@default Cmd instInhabitedCmd)).val) (cellsOf' encB (List.getD l i (@default Cmd instInhabitedCmd)).val)) ∧ (List.getD l (Int.toNat (↑i : Int)) (@default Cmd instInhabitedCmd)).off = (List.getD l i (@default Cmd instInhabitedCmd)).off ∧ (List.getD l (Int.toNat (↑i : Int)) (@default Cmd instInhabitedCmd)).most = (List.getD l i (@default Cmd instInhabitedCmd)).most ∧ (List.getD l (Int.toNat (↑i : Int)) (@default Cmd instInhabitedCmd)).name = (List.getD l i (@default Cmd instInhabitedCmd)).name ∧ (List.getD l (Int.toNat (↑i : Int)) (@default Cmd instInhabitedCmd)).plan = (List.getD l i (@default Cmd instInhabitedCmd)).plan ∧ True) ∧ True) ∧ True ∧ DoR (f (i + (1 : Nat))) (List.getD l i (@default Cmd instInhabitedCmd)) (f (i + (1 : Nat))) (y i) ∧ (((f (i + (1 : Nat))).rng.lo = (f (i + (1 : Nat))).rng.lo ∧ (f (i + (1 : Nat))).rng.hi = (f (i + (1 : Nat))).rng.hi ∧ (f (i + (1 : Nat))).epoch = (f (i + (1 : Nat))).epoch ∧ (f (i + (1 : Nat))).frozen = (f (i + (1 : Nat))).frozen ∧ (true = true ∧ List.length (f (i + (1 : Nat))).recs = List.length (f (i + (1 : Nat))).recs ∧ contLe (List.length (f (i + (1 : Nat))).recs) (5 : Nat) (cellsOf' encR (f (i + (1 : Nat))).recs) (cellsOf' encR (f (i + (1 : Nat))).recs)) ∧ (true = true ∧ List.length (f (i + (1 : Nat))).prods = List.length (f (i + (1 : Nat))).prods ∧ contLe (List.length (f (i + (1 : Nat))).prods) (4 : Nat) (cellsOf' P.encP (f (i + (1 : Nat))).prods) (cellsOf' P.encP (f (i + (1 : Nat))).prods)) ∧ (true = true ∧ List.length (f (i + (1 : Nat))).cons = List.length (f (i + (1 : Nat))).cons ∧ contLe (List.length (f (i + (1 : Nat))).cons) (2 : Nat) (cellsOf' encC (f (i + (1 : Nat))).cons) (cellsOf' encC (f (i + (1 : Nat))).cons)) ∧ True) ∧ ((f (i + (1 : Nat))).rng.lo = (f (i + (1 : Nat))).rng.lo ∧ (f (i + (1 : Nat))).rng.hi = (f (i + (1 : Nat))).rng.hi ∧ (f (i + (1 : Nat))).epoch = (f (i + (1 : Nat))).epoch ∧ (f (i + (1 : Nat))).frozen = (f (i + (1 : Nat))).frozen ∧ (true = true ∧ List.length (f (i + (1 : Nat))).recs = List.length (f (i + (1 : Nat))).recs ∧ contLe (List.length (f (i + (1 : Nat))).recs) (5 : Nat) (cellsOf' encR (f (i + (1 : Nat))).recs) (cellsOf' encR (f (i + (1 : Nat))).recs)) ∧ (true = true ∧ List.length (f (i + (1 : Nat))).prods = List.length (f (i + (1 : Nat))).prods ∧ contLe (List.length (f (i + (1 : Nat))).prods) (4 : Nat) (cellsOf' P.encP (f (i + (1 : Nat))).prods) (cellsOf' P.encP (f (i + (1 : Nat))).prods)) ∧ (true = true ∧ List.length (f (i + (1 : Nat))).cons = List.length (f (i + (1 : Nat))).cons ∧ contLe (List.length (f (i + (1 : Nat))).cons) (2 : Nat) (cellsOf' encC (f (i + (1 : Nat))).cons) (cellsOf' encC (f (i + (1 : Nat))).cons)) ∧ True) ∧ True) ∧ True ∧ PartIn (f (i + (1 : Nat))) ∧ ((!samePt (f (i + (1 : Nat))) (f (i + (1 : Nat)))) = true → False) ∧ ((!samePt (f (i + (1 : Nat))) (f (i + (1 : Nat)))) = false → (((y i).err != (x i).err) = true → False) ∧ (((y i).err != (x i).err) = false → (((x i).err == (0 : Int)) = true → (true && decide ((↑i : Int) < (↑(List.length l) : Int))) = true ∧ (((List.getD l (Int.toNat (↑i : Int)) (@default Cmd instInhabitedCmd)).kind == (3 : Int)) = true → ((!(y i).old) = true → False) ∧ ((!(y i).old) = false → ∃ (j : Nat), List.length l - j < List.length l - i ∧ (((true = true ∧ List.length l = List.length l ∧ contLe (List.length l) (10 : Nat) (cellsOf' encCm l) (cellsOf' encCm l)) ∧ ((0 : Nat) = (0 : Nat) ∧ (0 : Nat) = (0 : Nat)) ∧ true = true ∧ IntKind.wrap IntKind.i64 ((↑i : Int) + (1 : Int)) = (↑j : Int) ∧ True) ∧ (((f (i + (1 : Nat))).rng.lo = (f j).rng.lo ∧ (f (i + (1 : Nat))).rng.hi = (f j).rng.hi ∧ (f (i + (1 : Nat))).epoch = (f j).epoch ∧ (f (i + (1 : Nat))).frozen = (f j).frozen ∧ (true = true ∧ List.length (f (i + (1 : Nat))).recs = List.length (f j).recs ∧ contLe (List.length (f (i + (1 : Nat))).recs) (5 : Nat) (cellsOf' encR (f (i + (1 : Nat))).recs) (cellsOf' encR (f j).recs)) ∧ (true = true ∧ List.length (f (i + (1 : Nat))).prods = List.length (f j).prods ∧ contLe (List.length (f (i + (1 : Nat))).prods) (4 : Nat) (cellsOf' P.encP (f (i + (1 : Nat))).prods) (cellsOf' P.encP (f j).prods)) ∧ (true = true ∧ List.length (f (i + (1 : Nat))).cons = List.length (f j).cons ∧ contLe (List.length (f (i + (1 : Nat))).cons) (2 : Nat) (cellsOf' encC (f (i + (1 : Nat))).cons) (cellsOf' encC (f j).cons)) ∧ True) ∧ True) ∧ true = true) ∧ true = true ∧ () = ())) ∧ (((List.getD l (Int.toNat (↑i : Int)) (@default Cmd instInhabitedCmd)).kind == (3 : Int)) = false → ∃ (j : Nat), List.length l - j < List.length l - i ∧ (((true = true ∧ List.length l = List.length l ∧ contLe (List.length l) (10 : Nat) (cellsOf' encCm l) (cellsOf' encCm l)) ∧ ((0 : Nat) = (0 : Nat) ∧ (0 : Nat) = (0 : Nat)) ∧ true = true ∧ IntKind.wrap IntKind.i64 ((↑i : Int) + (1 : Int)) = (↑j : Int) ∧ True) ∧ (((f (i + (1 : Nat))).rng.lo = (f j).rng.lo ∧ (f (i + (1 : Nat))).rng.hi = (f j).rng.hi ∧ (f (i + (1 : Nat))).epoch = (f j).epoch ∧ (f (i + (1 : Nat))).frozen = (f j).frozen ∧ (true = true ∧ List.length (f (i + (1 : Nat))).recs = List.length (f j).recs ∧ contLe (List.length (f (i + (1 : Nat))).recs) (5 : Nat) (cellsOf' encR (f (i + (1 : Nat))).recs) (cellsOf' encR (f j).recs)) ∧ (true = true ∧ List.length (f (i + (1 : Nat))).prods = List.length (f j).prods ∧ contLe (List.length (f (i + (1 : Nat))).prods) (4 : Nat) (cellsOf' P.encP (f (i + (1 : Nat))).prods) (cellsOf' P.encP (f j).prods)) ∧ (true = true ∧ List.length (f (i + (1 : Nat))).cons = List.length (f j).cons ∧ contLe (List.length (f (i + (1 : Nat))).cons) (2 : Nat) (cellsOf' encC (f (i + (1 : Nat))).cons) (cellsOf' encC (f j).cons)) ∧ True) ∧ True) ∧ true = true) ∧ true = true ∧ () = ())) ∧ (((x i).err == (0 : Int)) = false → ∃ (j : Nat), List.length l - j < List.length l - i ∧ (((true = true ∧ List.length l = List.length l ∧ contLe (List.length l) (10 : Nat) (cellsOf' encCm l) (cellsOf' encCm l)) ∧ ((0 : Nat) = (0 : Nat) ∧ (0 : Nat) = (0 : Nat)) ∧ true = true ∧ IntKind.wrap IntKind.i64 ((↑i : Int) + (1 : Int)) = (↑j : Int) ∧ True) ∧ (((f (i + (1 : Nat))).rng.lo = (f j).rng.lo ∧ (f (i + (1 : Nat))).rng.hi = (f j).rng.hi ∧ (f (i + (1 : Nat))).epoch = (f j).epoch ∧ (f (i + (1 : Nat))).frozen = (f j).frozen ∧ (true = true ∧ List.length (f (i + (1 : Nat))).recs = List.length (f j).recs ∧ contLe (List.length (f (i + (1 : Nat))).recs) (5 : Nat) (cellsOf' encR (f (i + (1 : Nat))).recs) (cellsOf' encR (f j).recs)) ∧ (true = true ∧ List.length (f (i + (1 : Nat))).prods = List.length (f j).prods ∧ contLe (List.length (f (i + (1 : Nat))).prods) (4 : Nat) (cellsOf' P.encP (f (i + (1 : Nat))).prods) (cellsOf' P.encP (f j).prods)) ∧ (true = true ∧ List.length (f (i + (1 : Nat))).cons = List.length (f j).cons ∧ contLe (List.length (f (i + (1 : Nat))).cons) (2 : Nat) (cellsOf' encC (f (i + (1 : Nat))).cons) (cellsOf' encC (f j).cons)) ∧ True) ∧ True) ∧ true = true) ∧ true = true ∧ () = ()))))))) ∧ (((x i).err == (0 : Int)) = false → (true && decide ((↑i : Int) < (↑(List.length l) : Int))) = true ∧ (((f (i + (1 : Nat))).rng.lo = (f (i + (1 : Nat))).rng.lo ∧ (f (i + (1 : Nat))).rng.hi = (f (i + (1 : Nat))).rng.hi ∧ (f (i + (1 : Nat))).epoch = (f (i + (1 : Nat))).epoch ∧ (f (i + (1 : Nat))).frozen = (f (i + (1 : Nat))).frozen ∧ (true = true ∧ List.length (f (i + (1 : Nat))).recs = List.length (f (i + (1 : Nat))).recs ∧ contLe (List.length (f (i + (1 : Nat))).recs) (5 : Nat) (cellsOf' encR (f (i + (1 : Nat))).recs) (cellsOf' encR (f (i + (1 : Nat))).recs)) ∧ (true = true ∧ List.length (f (i + (1 : Nat))).prods = List.length (f (i + (1 : Nat))).prods ∧ contLe (List.length (f (i + (1 : Nat))).prods) (4 : Nat) (cellsOf' P.encP (f (i + (1 : Nat))).prods) (cellsOf' P.encP (f (i + (1 : Nat))).prods)) ∧ (true = true ∧ List.length (f (i + (1 : Nat))).cons = List.length (f (i + (1 : Nat))).cons ∧ contLe (List.length (f (i + (1 : Nat))).cons) (2 : Nat) (cellsOf' encC (f (i + (1 : Nat))).cons) (cellsOf' encC (f (i + (1 : Nat))).cons)) ∧ True) ∧ ((List.getD l (Int.toNat (↑i : Int)) (@default Cmd instInhabitedCmd)).kind = (List.getD l i (@default Cmd instInhabitedCmd)).kind ∧ (List.getD l (Int.toNat (↑i : Int)) (@default Cmd instInhabitedCmd)).epoch = (List.getD l i (@default Cmd instInhabitedCmd)).epoch ∧ (List.getD l (Int.toNat (↑i : Int)) (@default Cmd instInhabitedCmd)).prod = (List.getD l i (@default Cmd instInhabitedCmd)).prod ∧ (List.getD l (Int.toNat (↑i : Int)) (@default Cmd instInhabitedCmd)).seq = (List.getD l i (@default Cmd instInhabitedCmd)).seq ∧ (List.getD l (Int.toNat (↑i : Int)) (@default Cmd instInhabitedCmd)).key = (List.getD l i (@default Cmd instInhabitedCmd)).key ∧ (true = true ∧ List.length (List.getD l (Int.toNat (↑i : Int)) (@default Cmd instInhabitedCmd)).val = List.length (List.getD l i (@default Cmd instInhabitedCmd)).val ∧ contLe (List.length (List.getD l (Int.toNat (↑i : Int)) (@default Cmd instInhabitedCmd)).val) (1 : Nat) (cellsOf' encB (List.getD l (Int.toNat (↑i : Int)) (@default Cmd instInhabitedCmd)).val) (cellsOf' encB (List.getD l i (@default Cmd instInhabitedCmd)).val)) ∧ (List.getD l (Int.toNat (↑i : Int)) (@default Cmd instInhabitedCmd)).off = (List.getD l i (@default Cmd instInhabitedCmd)).off ∧ (List.getD l (Int.toNat (↑i : Int)) (@default Cmd instInhabitedCmd)).most = (List.getD l i (@default Cmd instInhabitedCmd)).most ∧ (List.getD l (Int.toNat (↑i : Int)) (@default Cmd instInhabitedCmd)).name = (List.getD l i (@default Cmd instInhabitedCmd)).name ∧ (List.getD l (Int.toNat (↑i : Int)) (@default Cmd instInhabitedCmd)).plan = (List.getD l i (@default Cmd instInhabitedCmd)).plan ∧ True) ∧ True) ∧ True ∧ DoR (f (i + (1 : Nat))) (List.getD l i (@default Cmd instInhabitedCmd)) (f (i + (1 : Nat))) (y i) ∧ (((f (i + (1 : Nat))).rng.lo = (f (i + (1 : Nat))).rng.lo ∧ (f (i + (1 : Nat))).rng.hi = (f (i + (1 : Nat))).rng.hi ∧ (f (i + (1 : Nat))).epoch = (f (i + (1 : Nat))).epoch ∧ (f (i + (1 : Nat))).frozen = (f (i + (1 : Nat))).frozen ∧ (true = true ∧ List.length (f (i + (1 : Nat))).recs = List.length (f (i + (1 : Nat))).recs ∧ contLe (List.length (f (i + (1 : Nat))).recs) (5 : Nat) (cellsOf' encR (f (i + (1 : Nat))).recs) (cellsOf' encR (f (i + (1 : Nat))).recs)) ∧ (true = true ∧ List.length (f (i + (1 : Nat))).prods = List.length (f (i + (1 : Nat))).prods ∧ contLe (List.length (f (i + (1 : Nat))).prods) (4 : Nat) (cellsOf' P.encP (f (i + (1 : Nat))).prods) (cellsOf' P.encP (f (i + (1 : Nat))).prods)) ∧ (true = true ∧ List.length (f (i + (1 : Nat))).cons = List.length (f (i + (1 : Nat))).cons ∧ contLe (List.length (f (i + (1 : Nat))).cons) (2 : Nat) (cellsOf' encC (f (i + (1 : Nat))).cons) (cellsOf' encC (f (i + (1 : Nat))).cons)) ∧ True) ∧ ((f (i + (1 : Nat))).rng.lo = (f (i + (1 : Nat))).rng.lo ∧ (f (i + (1 : Nat))).rng.hi = (f (i + (1 : Nat))).rng.hi ∧ (f (i + (1 : Nat))).epoch = (f (i + (1 : Nat))).epoch ∧ (f (i + (1 : Nat))).frozen = (f (i + (1 : Nat))).frozen ∧ (true = true ∧ List.length (f (i + (1 : Nat))).recs = List.length (f (i + (1 : Nat))).recs ∧ contLe (List.length (f (i + (1 : Nat))).recs) (5 : Nat) (cellsOf' encR (f (i + (1 : Nat))).recs) (cellsOf' encR (f (i + (1 : Nat))).recs)) ∧ (true = true ∧ List.length (f (i + (1 : Nat))).prods = List.length (f (i + (1 : Nat))).prods ∧ contLe (List.length (f (i + (1 : Nat))).prods) (4 : Nat) (cellsOf' P.encP (f (i + (1 : Nat))).prods) (cellsOf' P.encP (f (i + (1 : Nat))).prods)) ∧ (true = true ∧ List.length (f (i + (1 : Nat))).cons = List.length (f (i + (1 : Nat))).cons ∧ contLe (List.length (f (i + (1 : Nat))).cons) (2 : Nat) (cellsOf' encC (f (i + (1 : Nat))).cons) (cellsOf' encC (f (i + (1 : Nat))).cons)) ∧ True) ∧ True) ∧ True ∧ PartIn (f (i + (1 : Nat))) ∧ ((!samePt (f (i + (1 : Nat))) (f (i + (1 : Nat)))) = true → False) ∧ ((!samePt (f (i + (1 : Nat))) (f (i + (1 : Nat)))) = false → (((y i).err != (x i).err) = true → False) ∧ (((y i).err != (x i).err) = false → (((x i).err == (0 : Int)) = true → (true && decide ((↑i : Int) < (↑(List.length l) : Int))) = true ∧ (((List.getD l (Int.toNat (↑i : Int)) (@default Cmd instInhabitedCmd)).kind == (3 : Int)) = true → ((!(y i).old) = true → False) ∧ ((!(y i).old) = false → ∃ (j : Nat), List.length l - j < List.length l - i ∧ (((true = true ∧ List.length l = List.length l ∧ contLe (List.length l) (10 : Nat) (cellsOf' encCm l) (cellsOf' encCm l)) ∧ ((0 : Nat) = (0 : Nat) ∧ (0 : Nat) = (0 : Nat)) ∧ true = true ∧ IntKind.wrap IntKind.i64 ((↑i : Int) + (1 : Int)) = (↑j : Int) ∧ True) ∧ (((f (i + (1 : Nat))).rng.lo = (f j).rng.lo ∧ (f (i + (1 : Nat))).rng.hi = (f j).rng.hi ∧ (f (i + (1 : Nat))).epoch = (f j).epoch ∧ (f (i + (1 : Nat))).frozen = (f j).frozen ∧ (true = true ∧ List.length (f (i + (1 : Nat))).recs = List.length (f j).recs ∧ contLe (List.length (f (i + (1 : Nat))).recs) (5 : Nat) (cellsOf' encR (f (i + (1 : Nat))).recs) (cellsOf' encR (f j).recs)) ∧ (true = true ∧ List.length (f (i + (1 : Nat))).prods = List.length (f j).prods ∧ contLe (List.length (f (i + (1 : Nat))).prods) (4 : Nat) (cellsOf' P.encP (f (i + (1 : Nat))).prods) (cellsOf' P.encP (f j).prods)) ∧ (true = true ∧ List.length (f (i + (1 : Nat))).cons = List.length (f j).cons ∧ contLe (List.length (f (i + (1 : Nat))).cons) (2 : Nat) (cellsOf' encC (f (i + (1 : Nat))).cons) (cellsOf' encC (f j).cons)) ∧ True) ∧ True) ∧ true = true) ∧ true = true ∧ () = ())) ∧ (((List.getD l (Int.toNat (↑i : Int)) (@default Cmd instInhabitedCmd)).kind == (3 : Int)) = false → ∃ (j : Nat), List.length l - j < List.length l - i ∧ (((true = true ∧ List.length l = List.length l ∧ contLe (List.length l) (10 : Nat) (cellsOf' encCm l) (cellsOf' encCm l)) ∧ ((0 : Nat) = (0 : Nat) ∧ (0 : Nat) = (0 : Nat)) ∧ true = true ∧ IntKind.wrap IntKind.i64 ((↑i : Int) + (1 : Int)) = (↑j : Int) ∧ True) ∧ (((f (i + (1 : Nat))).rng.lo = (f j).rng.lo ∧ (f (i + (1 : Nat))).rng.hi = (f j).rng.hi ∧ (f (i + (1 : Nat))).epoch = (f j).epoch ∧ (f (i + (1 : Nat))).frozen = (f j).frozen ∧ (true = true ∧ List.length (f (i + (1 : Nat))).recs = List.length (f j).recs ∧ contLe (List.length (f (i + (1 : Nat))).recs) (5 : Nat) (cellsOf' encR (f (i + (1 : Nat))).recs) (cellsOf' encR (f j).recs)) ∧ (true = true ∧ List.length (f (i + (1 : Nat))).prods = List.length (f j).prods ∧ contLe (List.length (f (i + (1 : Nat))).prods) (4 : Nat) (cellsOf' P.encP (f (i + (1 : Nat))).prods) (cellsOf' P.encP (f j).prods)) ∧ (true = true ∧ List.length (f (i + (1 : Nat))).cons = List.length (f j).cons ∧ contLe (List.length (f (i + (1 : Nat))).cons) (2 : Nat) (cellsOf' encC (f (i + (1 : Nat))).cons) (cellsOf' encC (f j).cons)) ∧ True) ∧ True) ∧ true = true) ∧ true = true ∧ () = ())) ∧ (((x i).err == (0 : Int)) = false → ∃ (j : Nat), List.length l - j < List.length l - i ∧ (((true = true ∧ List.length l = List.length l ∧ contLe (List.length l) (10 : Nat) (cellsOf' encCm l) (cellsOf' encCm l)) ∧ ((0 : Nat) = (0 : Nat) ∧ (0 : Nat) = (0 : Nat)) ∧ true = true ∧ IntKind.wrap IntKind.i64 ((↑i : Int) + (1 : Int)) = (↑j : Int) ∧ True) ∧ (((f (i + (1 : Nat))).rng.lo = (f j).rng.lo ∧ (f (i + (1 : Nat))).rng.hi = (f j).rng.hi ∧ (f (i + (1 : Nat))).epoch = (f j).epoch ∧ (f (i + (1 : Nat))).frozen = (f j).frozen ∧ (true = true ∧ List.length (f (i + (1 : Nat))).recs = List.length (f j).recs ∧ contLe (List.length (f (i + (1 : Nat))).recs) (5 : Nat) (cellsOf' encR (f (i + (1 : Nat))).recs) (cellsOf' encR (f j).recs)) ∧ (true = true ∧ List.length (f (i + (1 : Nat))).prods = List.length (f j).prods ∧ contLe (List.length (f (i + (1 : Nat))).prods) (4 : Nat) (cellsOf' P.encP (f (i + (1 : Nat))).prods) (cellsOf' P.encP (f j).prods)) ∧ (true = true ∧ List.length (f (i + (1 : Nat))).cons = List.length (f j).cons ∧ contLe (List.length (f (i + (1 : Nat))).cons) (2 : Nat) (cellsOf' encC (f (i + (1 : Nat))).cons) (cellsOf' encC (f j).cons)) ∧ True) ∧ True) ∧ true = true) ∧ true = true ∧ () = ()))))) ∧ (((List.getD l (Int.toNat (↑i : Int)) (@default Cmd instInhabitedCmd)).kind == (1 : Int)) = false → (true && decide ((↑i : Int) < (↑(List.length l) : Int))) = true ∧ (((f (i + (1 : Nat))).rng.lo = (f (i + (1 : Nat))).rng.lo ∧ (f (i + (1 : Nat))).rng.hi = (f (i + (1 : Nat))).rng.hi ∧ (f (i + (1 : Nat))).epoch = (f (i + (1 : Nat))).epoch ∧ (f (i + (1 : Nat))).frozen = (f (i + (1 : Nat))).frozen ∧ (true = true ∧ List.length (f (i + (1 : Nat))).recs = List.length (f (i + (1 : Nat))).recs ∧ contLe (List.length (f (i + (1 : Nat))).recs) (5 : Nat) (cellsOf' encR (f (i + (1 : Nat))).recs) (cellsOf' encR (f (i + (1 : Nat))).recs)) ∧ (true = true ∧ List.length (f (i + (1 : Nat))).prods = List.length (f (i + (1 : Nat))).prods ∧ contLe (List.length (f (i + (1 : Nat))).prods) (4 : Nat) (cellsOf' P.encP (f (i + (1 : Nat))).prods) (cellsOf' P.encP (f (i + (1 : Nat))).prods)) ∧ (true = true ∧ List.length (f (i + (1 : Nat))).cons = List.length (f (i + (1 : Nat))).cons ∧ contLe (List.length (f (i + (1 : Nat))).cons) (2 : Nat) (cellsOf' encC (f (i + (1 : Nat))).cons) (cellsOf' encC (f (i + (1 : Nat))).cons)) ∧ True) ∧ ((List.getD l (Int.toNat (↑i : Int)) (@default Cmd instInhabitedCmd)).kind = (List.getD l i (@default Cmd instInhabitedCmd)).kind ∧ (List.getD l (Int.toNat (↑i : Int)) (@default Cmd instInhabitedCmd)).epoch = (List.getD l i (@default Cmd instInhabitedCmd)).epoch ∧ (List.getD l (Int.toNat (↑i : Int)) (@default Cmd instInhabitedCmd)).prod = (List.getD l i (@default Cmd instInhabitedCmd)).prod ∧ (List.getD l (Int.toNat (↑i : Int)) (@default Cmd instInhabitedCmd)).seq = (List.getD l i (@default Cmd instInhabitedCmd)).seq ∧ (List.getD l (Int.toNat (↑i : Int)) (@default Cmd instInhabitedCmd)).key = (List.getD l i (@default Cmd instInhabitedCmd)).key ∧ (true = true ∧ List.length (List.getD l (Int.toNat (↑i : Int)) (@default Cmd instInhabitedCmd)).val = List.length (List.getD l i (@default Cmd instInhabitedCmd)).val ∧ contLe (List.length (List.getD l (Int.toNat (↑i : Int)) (@default Cmd instInhabitedCmd)).val) (1 : Nat) (cellsOf' encB (List.getD l (Int.toNat (↑i : Int)) (@default Cmd instInhabitedCmd)).val) (cellsOf' encB (List.getD l i (@default Cmd instInhabitedCmd)).val)) ∧ (List.getD l (Int.toNat (↑i : Int)) (@default Cmd instInhabitedCmd)).off = (List.getD l i (@default Cmd instInhabitedCmd)).off ∧ (List.getD l (Int.toNat (↑i : Int)) (@default Cmd instInhabitedCmd)).most = (List.getD l i (@default Cmd instInhabitedCmd)).most ∧ (List.getD l (Int.toNat (↑i : Int)) (@default Cmd instInhabitedCmd)).name = (List.getD l i (@default Cmd instInhabitedCmd)).name ∧ (List.getD l (Int.toNat (↑i : Int)) (@default Cmd instInhabitedCmd)).plan = (List.getD l i (@default Cmd instInhabitedCmd)).plan ∧ True) ∧ True) ∧ True ∧ DoR (f (i + (1 : Nat))) (List.getD l i (@default Cmd instInhabitedCmd)) (f (i + (1 : Nat))) (y i) ∧ (((f (i + (1 : Nat))).rng.lo = (f (i + (1 : Nat))).rng.lo ∧ (f (i + (1 : Nat))).rng.hi = (f (i + (1 : Nat))).rng.hi ∧ (f (i + (1 : Nat))).epoch = (f (i + (1 : Nat))).epoch ∧ (f (i + (1 : Nat))).frozen = (f (i + (1 : Nat))).frozen ∧ (true = true ∧ List.length (f (i + (1 : Nat))).recs = List.length (f (i + (1 : Nat))).recs ∧ contLe (List.length (f (i + (1 : Nat))).recs) (5 : Nat) (cellsOf' encR (f (i + (1 : Nat))).recs) (cellsOf' encR (f (i + (1 : Nat))).recs)) ∧ (true = true ∧ List.length (f (i + (1 : Nat))).prods = List.length (f (i + (1 : Nat))).prods ∧ contLe (List.length (f (i + (1 : Nat))).prods) (4 : Nat) (cellsOf' P.encP (f (i + (1 : Nat))).prods) (cellsOf' P.encP (f (i + (1 : Nat))).prods)) ∧ (true = true ∧ List.length (f (i + (1 : Nat))).cons = List.length (f (i + (1 : Nat))).cons ∧ contLe (List.length (f (i + (1 : Nat))).cons) (2 : Nat) (cellsOf' encC (f (i + (1 : Nat))).cons) (cellsOf' encC (f (i + (1 : Nat))).cons)) ∧ True) ∧ ((f (i + (1 : Nat))).rng.lo = (f (i + (1 : Nat))).rng.lo ∧ (f (i + (1 : Nat))).rng.hi = (f (i + (1 : Nat))).rng.hi ∧ (f (i + (1 : Nat))).epoch = (f (i + (1 : Nat))).epoch ∧ (f (i + (1 : Nat))).frozen = (f (i + (1 : Nat))).frozen ∧ (true = true ∧ List.length (f (i + (1 : Nat))).recs = List.length (f (i + (1 : Nat))).recs ∧ contLe (List.length (f (i + (1 : Nat))).recs) (5 : Nat) (cellsOf' encR (f (i + (1 : Nat))).recs) (cellsOf' encR (f (i + (1 : Nat))).recs)) ∧ (true = true ∧ List.length (f (i + (1 : Nat))).prods = List.length (f (i + (1 : Nat))).prods ∧ contLe (List.length (f (i + (1 : Nat))).prods) (4 : Nat) (cellsOf' P.encP (f (i + (1 : Nat))).prods) (cellsOf' P.encP (f (i + (1 : Nat))).prods)) ∧ (true = true ∧ List.length (f (i + (1 : Nat))).cons = List.length (f (i + (1 : Nat))).cons ∧ contLe (List.length (f (i + (1 : Nat))).cons) (2 : Nat) (cellsOf' encC (f (i + (1 : Nat))).cons) (cellsOf' encC (f (i + (1 : Nat))).cons)) ∧ True) ∧ True) ∧ True ∧ PartIn (f (i + (1 : Nat))) ∧ ((!samePt (f (i + (1 : Nat))) (f (i + (1 : Nat)))) = true → False) ∧ ((!samePt (f (i + (1 : Nat))) (f (i + (1 : Nat)))) = false → (((y i).err != (x i).err) = true → False) ∧ (((y i).err != (x i).err) = false → (((x i).err == (0 : Int)) = true → (true && decide ((↑i : Int) < (↑(List.length l) : Int))) = true ∧ (((List.getD l (Int.toNat (↑i : Int)) (@default Cmd instInhabitedCmd)).kind == (3 : Int)) = true → ((!(y i).old) = true → False) ∧ ((!(y i).old) = false → ∃ (j : Nat), List.length l - j < List.length l - i ∧ (((true = true ∧ List.length l = List.length l ∧ contLe (List.length l) (10 : Nat) (cellsOf' encCm l) (cellsOf' encCm l)) ∧ ((0 : Nat) = (0 : Nat) ∧ (0 : Nat) = (0 : Nat)) ∧ true = true ∧ IntKind.wrap IntKind.i64 ((↑i : Int) + (1 : Int)) = (↑j : Int) ∧ True) ∧ (((f (i + (1 : Nat))).rng.lo = (f j).rng.lo ∧ (f (i + (1 : Nat))).rng.hi = (f j).rng.hi ∧ (f (i + (1 : Nat))).epoch = (f j).epoch ∧ (f (i + (1 : Nat))).frozen = (f j).frozen ∧ (true = true ∧ List.length (f (i + (1 : Nat))).recs = List.length (f j).recs ∧ contLe (List.length (f (i + (1 : Nat))).recs) (5 : Nat) (cellsOf' encR (f (i + (1 : Nat))).recs) (cellsOf' encR (f j).recs)) ∧ (true = true ∧ List.length (f (i + (1 : Nat))).prods = List.length (f j).prods ∧ contLe (List.length (f (i + (1 : Nat))).prods) (4 : Nat) (cellsOf' P.encP (f (i + (1 : Nat))).prods) (cellsOf' P.encP (f j).prods)) ∧ (true = true ∧ List.length (f (i + (1 : Nat))).cons = List.length (f j).cons ∧ contLe (List.length (f (i + (1 : Nat))).cons) (2 : Nat) (cellsOf' encC (f (i + (1 : Nat))).cons) (cellsOf' encC (f j).cons)) ∧ True) ∧ True) ∧ true = true) ∧ true = true ∧ () = ())) ∧ (((List.getD l (Int.toNat (↑i : Int)) (@default Cmd instInhabitedCmd)).kind == (3 : Int)) = false → ∃ (j : Nat), List.length l - j < List.length l - i ∧ (((true = true ∧ List.length l = List.length l ∧ contLe (List.length l) (10 : Nat) (cellsOf' encCm l) (cellsOf' encCm l)) ∧ ((0 : Nat) = (0 : Nat) ∧ (0 : Nat) = (0 : Nat)) ∧ true = true ∧ IntKind.wrap IntKind.i64 ((↑i : Int) + (1 : Int)) = (↑j : Int) ∧ True) ∧ (((f (i + (1 : Nat))).rng.lo = (f j).rng.lo ∧ (f (i + (1 : Nat))).rng.hi = (f j).rng.hi ∧ (f (i + (1 : Nat))).epoch = (f j).epoch ∧ (f (i + (1 : Nat))).frozen = (f j).frozen ∧ (true = true ∧ List.length (f (i + (1 : Nat))).recs = List.length (f j).recs ∧ contLe (List.length (f (i + (1 : Nat))).recs) (5 : Nat) (cellsOf' encR (f (i + (1 : Nat))).recs) (cellsOf' encR (f j).recs)) ∧ (true = true ∧ List.length (f (i + (1 : Nat))).prods = List.length (f j).prods ∧ contLe (List.length (f (i + (1 : Nat))).prods) (4 : Nat) (cellsOf' P.encP (f (i + (1 : Nat))).prods) (cellsOf' P.encP (f j).prods)) ∧ (true = true ∧ List.length (f (i + (1 : Nat))).cons = List.length (f j).cons ∧ contLe (List.length (f (i + (1 : Nat))).cons) (2 : Nat) (cellsOf' encC (f (i + (1 : Nat))).cons) (cellsOf' encC (f j).cons)) ∧ True) ∧ True) ∧ true = true) ∧ true = true ∧ () = ())) ∧ (((x i).err == (0 : Int)) = false → ∃ (j : Nat), List.length l - j < List.length l - i ∧ (((true = true ∧ List.length l = List.length l ∧ contLe (List.length l) (10 : Nat) (cellsOf' encCm l) (cellsOf' encCm l)) ∧ ((0 : Nat) = (0 : Nat) ∧ (0 : Nat) = (0 : Nat)) ∧ true = true ∧ IntKind.wrap IntKind.i64 ((↑i : Int) + (1 : Int)) = (↑j : Int) ∧ True) ∧ (((f (i + (1 : Nat))).rng.lo = (f j).rng.lo ∧ (f (i + (1 : Nat))).rng.hi = (f j).rng.hi ∧ (f (i + (1 : Nat))).epoch = (f j).epoch ∧ (f (i + (1 : Nat))).frozen = (f j).frozen ∧ (true = true ∧ List.length (f (i + (1 : Nat))).recs = List.length (f j).recs ∧ contLe (List.length (f (i + (1 : Nat))).recs) (5 : Nat) (cellsOf' encR (f (i + (1 : Nat))).recs) (cellsOf' encR (f j).recs)) ∧ (true = true ∧ List.length (f (i + (1 : Nat))).prods = List.length (f j).prods ∧ contLe (List.length (f (i + (1 : Nat))).prods) (4 : Nat) (cellsOf' P.encP (f (i + (1 : Nat))).prods) (cellsOf' P.encP (f j).prods)) ∧ (true = true ∧ List.length (f (i + (1 : Nat))).cons = List.length (f j).cons ∧ contLe (List.length (f (i + (1 : Nat))).cons) (2 : Nat) (cellsOf' encC (f (i + (1 : Nat))).cons) (cellsOf' encC (f j).cons)) ∧ True) ∧ True) ∧ true = true) ∧ true = true ∧ () = ()))))))) ∧ (decide ((↑i : Int) < (↑(List.length l) : Int)) = false → (((0 : Nat) = (0 : Nat) ∧ (0 : Nat) = (0 : Nat)) ∧ true = true ∧ True) ∧ (((f i).rng.lo = (f (List.length l)).rng.lo ∧ (f i).rng.hi = (f (List.length l)).rng.hi ∧ (f i).epoch = (f (List.length l)).epoch ∧ (f i).frozen = (f (List.length l)).frozen ∧ (true = true ∧ List.length (f i).recs = List.length (f (List.length l)).recs ∧ contLe (List.length (f i).recs) (5 : Nat) (cellsOf' encR (f i).recs) (cellsOf' encR (f (List.length l)).recs)) ∧ (true = true ∧ List.length (f i).prods = List.length (f (List.length l)).prods ∧ contLe (List.length (f i).prods) (4 : Nat) (cellsOf' P.encP (f i).prods) (cellsOf' P.encP (f (List.length l)).prods)) ∧ (true = true ∧ List.length (f i).cons = List.length (f (List.length l)).cons ∧ contLe (List.length (f i).cons) (2 : Nat) (cellsOf' encC (f i).cons) (cellsOf' encC (f (List.length l)).cons)) ∧ True) ∧ True) ∧ true = true)
set_option maxRecDepth 1000000 in
theorem vcOoL_eq (l : List Cmd) (f : Nat → Part) (x : Nat → Res) (y : Nat → Res) (i : Nat) : (loopVC Tryz.prog (ooH l f x y i) 6 5 (fun i => l.length - i) (ooT l) (stM f) oX (fun _ => .ret ()) (ooS (f l.length)) i) = vcOoL l f x y i := by kernel_rfl
def epM (p : Part) : List Blk := [.box 30 (encPt true p)]
def ejT (i k : Nat) : List AV := mkT 261 [(2, .ptr 0 0 0 0), (5, .y (.bool true)), (13, .y (.int .i64 i)), (14, .y (.int .i64 k))]
def ejS (p : Part) (i : Nat) (_ : Unit) : Exit × List AV × List Blk := (.exit 6, mkT 261 [(2, .ptr 0 0 0 0), (5, .y (.bool true)), (13, .y (.int .i64 i))], epM p)
def vcEjL (p : Part) (i : Nat) (k : Nat) : Prop :=
  (decide ((↑k : Int) < (↑i : Int)) = true → (true && decide ((↑i : Int) < (↑(List.length p.recs) : Int))) = true ∧ (true && decide ((↑k : Int) < (↑(List.length p.recs) : Int))) = true ∧ (((List.getD p.recs (Int.toNat (↑i : Int)) (@default Rec instInhabitedRec)).prod == (List.getD p.recs (Int.toNat (↑k : Int)) (@default Rec instInhabitedRec)).prod) = true → (true && decide ((↑i : Int) < (↑(List.length p.recs) : Int))) = true ∧ (true && decide ((↑k : Int) < (↑(List.length p.recs) : Int))) = true ∧ (decide ((List.getD p.recs (Int.toNat (↑i : Int)) (@default Rec instInhabitedRec)).seq ≤ (List.getD p.recs (Int.toNat (↑k : Int)) (@default Rec instInhabitedRec)).seq) = true → False) ∧ (decide ((List.getD p.recs (Int.toNat (↑i : Int)) (@default Rec instInhabitedRec)).seq ≤ (List.getD p.recs (Int.toNat (↑k : Int)) (@default Rec instInhabitedRec)).seq) = false → ∃ (j : Nat), i - j < i - k ∧ ((((0 : Nat) = (0 : Nat) ∧ (0 : Nat) = (0 : Nat)) ∧ true = true ∧ (↑i : Int) = (↑i : Int) ∧ IntKind.wrap IntKind.i64 ((↑k : Int) + (1 : Int)) = (↑j : Int) ∧ True) ∧ ((p.rng.lo = p.rng.lo ∧ p.rng.hi = p.rng.hi ∧ p.epoch = p.epoch ∧ p.frozen = p.frozen ∧ (true = true ∧ List.length p.recs = List.length p.recs ∧ contLe (List.length p.recs) (5 : Nat) (cellsOf' encR p.recs) (cellsOf' encR p.recs)) ∧ (true = true ∧ List.length p.prods = List.length p.prods ∧ contLe (List.length p.prods) (4 : Nat) (cellsOf' P.encP p.prods) (cellsOf' P.encP p.prods)) ∧ (true = true ∧ List.length p.cons = List.length p.cons ∧ contLe (List.length p.cons) (2 : Nat) (cellsOf' encC p.cons) (cellsOf' encC p.cons)) ∧ True) ∧ True) ∧ true = true) ∧ true = true ∧ () = ())) ∧ (((List.getD p.recs (Int.toNat (↑i : Int)) (@default Rec instInhabitedRec)).prod == (List.getD p.recs (Int.toNat (↑k : Int)) (@default Rec instInhabitedRec)).prod) = false → ∃ (j : Nat), i - j < i - k ∧ ((((0 : Nat) = (0 : Nat) ∧ (0 : Nat) = (0 : Nat)) ∧ true = true ∧ (↑i : Int) = (↑i : Int) ∧ IntKind.wrap IntKind.i64 ((↑k : Int) + (1 : Int)) = (↑j : Int) ∧ True) ∧ ((p.rng.lo = p.rng.lo ∧ p.rng.hi = p.rng.hi ∧ p.epoch = p.epoch ∧ p.frozen = p.frozen ∧ (true = true ∧ List.length p.recs = List.length p.recs ∧ contLe (List.length p.recs) (5 : Nat) (cellsOf' encR p.recs) (cellsOf' encR p.recs)) ∧ (true = true ∧ List.length p.prods = List.length p.prods ∧ contLe (List.length p.prods) (4 : Nat) (cellsOf' P.encP p.prods) (cellsOf' P.encP p.prods)) ∧ (true = true ∧ List.length p.cons = List.length p.cons ∧ contLe (List.length p.cons) (2 : Nat) (cellsOf' encC p.cons) (cellsOf' encC p.cons)) ∧ True) ∧ True) ∧ true = true) ∧ true = true ∧ () = ())) ∧ (decide ((↑k : Int) < (↑i : Int)) = false → (((0 : Nat) = (0 : Nat) ∧ (0 : Nat) = (0 : Nat)) ∧ true = true ∧ (↑i : Int) = (↑i : Int) ∧ True) ∧ ((p.rng.lo = p.rng.lo ∧ p.rng.hi = p.rng.hi ∧ p.epoch = p.epoch ∧ p.frozen = p.frozen ∧ (true = true ∧ List.length p.recs = List.length p.recs ∧ contLe (List.length p.recs) (5 : Nat) (cellsOf' encR p.recs) (cellsOf' encR p.recs)) ∧ (true = true ∧ List.length p.prods = List.length p.prods ∧ contLe (List.length p.prods) (4 : Nat) (cellsOf' P.encP p.prods) (cellsOf' P.encP p.prods)) ∧ (true = true ∧ List.length p.cons = List.length p.cons ∧ contLe (List.length p.cons) (2 : Nat) (cellsOf' encC p.cons) (cellsOf' encC p.cons)) ∧ True) ∧ True) ∧ true = true)
set_option maxRecDepth 1000000 in
theorem vcEjL_eq (p : Part) (i : Nat) (k : Nat) : (loopVC Tryz.prog (hT _) 6 27 (fun k => i - k) (ejT i) (fun _ => epM p) oX (fun _ => .ret ()) (ejS p i) k) = vcEjL p i k := by kernel_rfl
def eiT (i : Nat) : List AV := mkT 261 [(2, .ptr 0 0 0 0), (5, .y (.bool true)), (13, .y (.int .i64 i))]
def eiS (p : Part) (_ : Unit) : Exit × List AV × List Blk := (.exit 4, mkT 261 [(5, .y (.bool true))], [])
noncomputable def eiH (p : Part) (i : Nat) : HintsT Tryz.prog := hh _ (lp1 6 27 (jobOf (ejT i) (fun _ => epM p) oX (fun _ => .ret ()) (ejS p i) 0) noLp) noCs noOp
def vcEiL (p : Part) (i : Nat) : Prop :=
  (decide ((↑i : Int) < (↑(List.length p.recs) : Int)) = true → ((((0 : Nat) = (0 : Nat) ∧ (0 : Nat) = (0 : Nat)) ∧ true = true ∧ (↑i : Int) = (↑i : Int) ∧ (0 : Int) = (0 : Int) ∧ True) ∧ ((p.rng.lo = p.rng.lo ∧ p.rng.hi = p.rng.hi ∧ p.epoch = p.epoch ∧ p.frozen = p.frozen ∧ (true = true ∧ List.length p.recs = List.length p.recs ∧ contLe (List.length p.recs) (5 : Nat) (cellsOf' encR p.recs) (cellsOf' encR p.recs)) ∧ (true = true ∧ List.length p.prods = List.length p.prods ∧ contLe (List.length p.prods) (4 : Nat) (cellsOf' P.encP p.prods) (cellsOf' P.encP p.prods)) ∧ (true = true ∧ List.length p.cons = List.length p.cons ∧ contLe (List.length p.cons) (2 : Nat) (cellsOf' encC p.cons) (cellsOf' encC p.cons)) ∧ True) ∧ True) ∧ true = true) ∧ LoopOk Tryz.prog (6 : Nat) (27 : Nat) (loopAt Tryz.prog (6 : Nat) (27 : Nat)) { t := ejT i (0 : Nat), m := epM p, mv := [] : St } (T.map (lout oX (ejS p i)) ((fun (x : Nat) => T.ret ()) (0 : Nat))) ∧ ∃ (j : Nat), List.length p.recs - j < List.length p.recs - i ∧ ((((0 : Nat) = (0 : Nat) ∧ (0 : Nat) = (0 : Nat)) ∧ true = true ∧ IntKind.wrap IntKind.i64 ((↑i : Int) + (1 : Int)) = (↑j : Int) ∧ True) ∧ ((p.rng.lo = p.rng.lo ∧ p.rng.hi = p.rng.hi ∧ p.epoch = p.epoch ∧ p.frozen = p.frozen ∧ (true = true ∧ List.length p.recs = List.length p.recs ∧ contLe (List.length p.recs) (5 : Nat) (cellsOf' encR p.recs) (cellsOf' encR p.recs)) ∧ (true = true ∧ List.length p.prods = List.length p.prods ∧ contLe (List.length p.prods) (4 : Nat) (cellsOf' P.encP p.prods) (cellsOf' P.encP p.prods)) ∧ (true = true ∧ List.length p.cons = List.length p.cons ∧ contLe (List.length p.cons) (2 : Nat) (cellsOf' encC p.cons) (cellsOf' encC p.cons)) ∧ True) ∧ True) ∧ true = true) ∧ true = true ∧ () = ()) ∧ (decide ((↑i : Int) < (↑(List.length p.recs) : Int)) = false → (true = true ∧ True) ∧ True ∧ true = true)
set_option maxRecDepth 1000000 in
theorem vcEiL_eq (p : Part) (i : Nat) : (loopVC Tryz.prog (eiH p i) 6 24 (fun i => p.recs.length - i) eiT (fun _ => epM p) oX (fun _ => .ret ()) (eiS p) i) = vcEiL p i := by kernel_rfl
noncomputable def oncH (p : Part) (l : List Cmd) (f : Nat → Part) : HintsT Tryz.prog := hh _ (lp1 6 5 (jobOf (ooT l) (stM f) oX (fun _ => .ret ()) (ooS (f l.length)) 0) (lp1 6 24 (jobOf eiT (fun _ => epM (f l.length)) oX (fun _ => .ret ()) (eiS (f l.length)) 0) noLp)) (cs1 6 1 0 livC (cs1 6 2 1 (pcC true p) noCs)) noOp
def vcOnc (p : Part) (l : List Cmd) (f : Nat → Part) : Prop :=
  True ∧ True ∧ ((p.rng.lo = p.rng.lo ∧ p.rng.hi = p.rng.hi ∧ p.epoch = p.epoch ∧ p.frozen = p.frozen ∧ (true = true ∧ List.length p.recs = List.length p.recs ∧ contLe (List.length p.recs) (5 : Nat) (cellsOf' encR p.recs) (cellsOf' encR p.recs)) ∧ (true = true ∧ List.length p.prods = List.length p.prods ∧ contLe (List.length p.prods) (4 : Nat) (cellsOf' P.encP p.prods) (cellsOf' P.encP p.prods)) ∧ (true = true ∧ List.length p.cons = List.length p.cons ∧ contLe (List.length p.cons) (2 : Nat) (cellsOf' encC p.cons) (cellsOf' encC p.cons)) ∧ True) ∧ True) ∧ True ∧ PartIn p ∧ (partOk p = true → (((true = true ∧ List.length l = List.length l ∧ contLe (List.length l) (10 : Nat) (cellsOf' encCm l) (cellsOf' encCm l)) ∧ ((0 : Nat) = (0 : Nat) ∧ (0 : Nat) = (0 : Nat)) ∧ true = true ∧ (0 : Int) = (0 : Int) ∧ True) ∧ ((p.rng.lo = (f (0 : Nat)).rng.lo ∧ p.rng.hi = (f (0 : Nat)).rng.hi ∧ p.epoch = (f (0 : Nat)).epoch ∧ p.frozen = (f (0 : Nat)).frozen ∧ (true = true ∧ List.length p.recs = List.length (f (0 : Nat)).recs ∧ contLe (List.length p.recs) (5 : Nat) (cellsOf' encR p.recs) (cellsOf' encR (f (0 : Nat)).recs)) ∧ (true = true ∧ List.length p.prods = List.length (f (0 : Nat)).prods ∧ contLe (List.length p.prods) (4 : Nat) (cellsOf' P.encP p.prods) (cellsOf' P.encP (f (0 : Nat)).prods)) ∧ (true = true ∧ List.length p.cons = List.length (f (0 : Nat)).cons ∧ contLe (List.length p.cons) (2 : Nat) (cellsOf' encC p.cons) (cellsOf' encC (f (0 : Nat)).cons)) ∧ True) ∧ True) ∧ true = true) ∧ LoopOk Tryz.prog (6 : Nat) (5 : Nat) (loopAt Tryz.prog (6 : Nat) (5 : Nat)) { t := ooT l (0 : Nat), m := stM f (0 : Nat), mv := [] : St } (T.map (lout oX (ooS (f (List.length l)))) ((fun (x : Nat) => T.ret ()) (0 : Nat))) ∧ ((((0 : Nat) = (0 : Nat) ∧ (0 : Nat) = (0 : Nat)) ∧ true = true ∧ (0 : Int) = (0 : Int) ∧ True) ∧ (((f (List.length l)).rng.lo = (f (List.length l)).rng.lo ∧ (f (List.length l)).rng.hi = (f (List.length l)).rng.hi ∧ (f (List.length l)).epoch = (f (List.length l)).epoch ∧ (f (List.length l)).frozen = (f (List.length l)).frozen ∧ (true = true ∧ List.length (f (List.length l)).recs = List.length (f (List.length l)).recs ∧ contLe (List.length (f (List.length l)).recs) (5 : Nat) (cellsOf' encR (f (List.length l)).recs) (cellsOf' encR (f (List.length l)).recs)) ∧ (true = true ∧ List.length (f (List.length l)).prods = List.length (f (List.length l)).prods ∧ contLe (List.length (f (List.length l)).prods) (4 : Nat) (cellsOf' P.encP (f (List.length l)).prods) (cellsOf' P.encP (f (List.length l)).prods)) ∧ (true = true ∧ List.length (f (List.length l)).cons = List.length (f (List.length l)).cons ∧ contLe (List.length (f (List.length l)).cons) (2 : Nat) (cellsOf' encC (f (List.length l)).cons) (cellsOf' encC (f (List.length l)).cons)) ∧ True) ∧ True) ∧ true = true) ∧ LoopOk Tryz.prog (6 : Nat) (24 : Nat) (loopAt Tryz.prog (6 : Nat) (24 : Nat)) { t := eiT (0 : Nat), m := epM (f (List.length l)), mv := [] : St } (T.map (lout oX (eiS (f (List.length l)))) ((fun (x : Nat) => T.ret ()) (0 : Nat))) ∧ true = true ∧ True) ∧ (partOk p = false → true = true ∧ True)
set_option maxRecDepth 1000000 in
theorem vcOnc_eq (p : Part) (l : List Cmd) (f : Nat → Part) : (ctrVC Tryz.prog (oncH p l f) 6 [.agg (encPt true p), encCms true l] [] (boolR true)) = vcOnc p l f := by kernel_rfl
end Go.Proofs.YtnbhdjadlbhknaaGreatDoor.R

/-! Shards' states, plain: what was done stays done. -/
namespace Go.Proofs.YtnbhdjadlbhknaaGreatDoor.R
open Go.Ax
set_option maxRecDepth 1000000
/-- what a command does and what it answers, by the case -/
theorem do_cases (p : Part) (c : Cmd) (h : partOk p = true) :
    (dQ p c = p ∧ (dX p c).err ≠ 0) ∨
    ((dX p c).err = 0 ∧ wellB c = true ∧ c.epoch = p.epoch ∧ (
      (c.kind = 1 ∧ prE p c = 0 ∧ dQ p c = prQ p c ∧ dX p c = ⟨0, p.recs.length, false, []⟩) ∨
      (c.kind = 1 ∧ prE p c = 999 ∧ dQ p c = p ∧ dX p c = ⟨0, P.judgeO p.prods c.prod c.seq, true, []⟩) ∨
      (c.kind = 3 ∧ cmE p c = 0 ∧ dQ p c = cmQ p c ∧ dX p c = ⟨0, c.off, false, []⟩) ∨
      (c.kind = 3 ∧ cmE p c = 999 ∧ dQ p c = p ∧ dX p c = ⟨0, 0, true, []⟩) ∨
      ((c.kind = 5 ∨ c.kind = 6) ∧ frB p c = false ∧ dQ p c = frQ p (byOf c) ∧ dX p c = ⟨0, 0, p.frozen == byOf c, []⟩) ∨
      (c.kind ≠ 1 ∧ c.kind ≠ 3 ∧ dQ p c = p))) := by
  unfold dQ dX doQ doX
  simp only [h]
  by_cases h1 : wellB c = false
  · simp [h1]
  · by_cases h2 : c.epoch = p.epoch
    · by_cases h3 : actE p c = 0
      · have h1' : wellB c = true := by simpa using h1
        simp only [h1', h2, h3]
        simp
        unfold actQ actX
        unfold actE un9 at h3
        by_cases k1 : c.kind = 1
        · by_cases e0 : prE p c = 0
          · simp [k1, e0]
          · by_cases e9 : prE p c = 999
            · simp [k1, e9]
            · simp [k1, e0, e9] at h3
        · by_cases k3 : c.kind = 3
          · by_cases e0 : cmE p c = 0
            · simp [k3, e0]
            · by_cases e9 : cmE p c = 999
              · simp [k3, e9]
              · simp [k3, e0, e9] at h3
          · by_cases k5 : c.kind = 5
            · cases f : frB p c
              · simp [k5, f]
              · simp [k5, f] at h3
            · by_cases k6 : c.kind = 6
              · cases f : frB p c
                · simp [k6, f]
                · simp [k6, f] at h3
              · by_cases fz : p.frozen = 0
                · by_cases k4 : c.kind = 4
                  · simp [k4, fz]
                  · by_cases k2 : c.kind = 2
                    · by_cases e0 : feE p.recs c.off = 0
                      · simp [k2, fz, e0]
                      · simp [k2, fz, e0] at h3
                    · simp [k1, k2, k3, k4, k5, k6, fz]
                · simp [k1, k3, k5, k6, fz] at h3
      · simp [h1, h2, h3]
    · simp [h1, h2]
theorem judge_has {l : List P.Producer} (h : P.rising l) {x : P.Producer} (hx : x ∈ l) (hb : P.badN x.id x.seq = false) : P.judgeV l x.id x.seq ≠ 1 ∧ (x.here = true → P.judgeV l x.id x.seq = 2) := by
  have hf : P.findI l x.id = true := by
    cases hf : P.findI l x.id
    · exact absurd rfl (P.find_none hf x hx)
    · rfl
  have ⟨h1, h2⟩ := P.find_of hf
  have e : P.findD l x.id = x := P.pw_unique ((P.rising_pw l).1 h) h1 hx h2
  constructor
  · intro h3
    rcases ((P.judge_new _ _ _).1 h3).2 with h4 | h4
    · rw [hf] at h4; cases h4
    · rw [e] at h4; omega
  · intro hh
    unfold P.judgeV
    simp [hb, hf, e, hh]
theorem acc_rises {l : List P.Producer} {x : P.Producer} (h : P.takeE l x = 0) : P.rising (P.putL l x) ∧ P.badN x.id x.seq = false := by
  have ⟨h1, h2, _⟩ := take_zero.1 h
  exact ⟨P.putL_rising (P.table_rising h1), ((P.judge_new _ _ _).1 h2).1⟩
/-- at once again, nothing changes -/
structure Again (p : Part) (c : Cmd) (q : Part) (x : Res) (r : Part) (y : Res) : Prop where
  r : r = q
  e : y.err = x.err
  o : x.err = 0 → c.kind = 3 → y.old = true
theorem again_of {p : Part} {c : Cmd} (hp : D.PartTy p) (h : partOk p = true) (hc : 0 ≤ c.off ∧ c.off < 18446744073709551616) : Again p c (dQ p c) (dX p c) (dQ (dQ p c) c) (dX (dQ p c) c) := by
  have hq := dQ_ok hp h hc
  have h0 := do_cases p c h
  rcases h0 with ⟨e, he⟩ | ⟨e0, w, ep, hh⟩
  · rw [e]
    exact ⟨e, rfl, fun h1 => absurd h1 he⟩
  · rcases hh with ⟨k, e1, e2, e3⟩ | ⟨k, e1, e2, e3⟩ | ⟨k, e1, e2, e3⟩ | ⟨k, e1, e2, e3⟩ | ⟨k, e1, e2, e3⟩ | ⟨k1, k3, e2⟩
    · have hz := pr_zero e1
      have ⟨hr, hb⟩ := acc_rises hz.2.2.2
      have hj := (judge_has hr (x := accP p c) (P.mem_putL'.2 (.inl rfl)) hb).2 rfl
      have hj' : P.judgeV (prQ p c).prods c.prod c.seq = 2 := hj
      have e9 : prE (prQ p c) c = 999 := by
        unfold prE
        have : hasK (prQ p c).rng c.key = true := hz.1
        simp [this, hj']
      rw [e2] at hq ⊢
      rcases do_cases (prQ p c) c hq.1 with ⟨f, fe⟩ | ⟨_, _, _, g⟩
      · exfalso
        apply fe
        unfold dX doX
        have he : actE (prQ p c) c = 0 := by unfold actE; simp [k, e9, un9]
        have hx : actX (prQ p c) c = ⟨0, P.judgeO (prQ p c).prods c.prod c.seq, true, []⟩ := by unfold actX; simp [k, e9]
        have ep' : c.epoch = (prQ p c).epoch := ep
        rw [he, hx]
        simp [hq.1, w, ep']
      · simp [k, e9] at g
        rcases g with ⟨g1, g2⟩
        rw [g1, g2, e3]
        exact ⟨rfl, rfl, fun _ h3 => by omega⟩
    · rw [e2]
      exact ⟨e2, rfl, fun _ h3 => by omega⟩
    · have hz := cm_zero e1
      have ⟨hr, hb⟩ := acc_rises hz.2.2
      have hj := (judge_has hr (x := pasP c) (P.mem_putL'.2 (.inl rfl)) hb).1
      have hj' : ¬ P.judgeV (cmQ p c).prods c.prod c.seq = 1 := hj
      have e9 : cmE (cmQ p c) c = 999 := by
        unfold cmE
        simp [hj']
      rw [e2] at hq ⊢
      rcases do_cases (cmQ p c) c hq.1 with ⟨f, fe⟩ | ⟨_, _, _, g⟩
      · exfalso
        apply fe
        unfold dX doX
        have he : actE (cmQ p c) c = 0 := by unfold actE; simp [k, e9, un9]
        have hx : actX (cmQ p c) c = ⟨0, 0, true, []⟩ := by unfold actX; simp [k, e9]
        have ep' : c.epoch = (cmQ p c).epoch := ep
        rw [he, hx]
        simp [hq.1, w, ep']
      · simp [k, e9] at g
        rcases g with ⟨g1, g2⟩
        rw [g1, g2, e3]
        exact ⟨rfl, rfl, fun _ _ => rfl⟩
    · rw [e2]
      exact ⟨e2, rfl, fun _ _ => by rw [e3]⟩
    · have k1 : c.kind ≠ 1 := by omega
      have k3 : c.kind ≠ 3 := by omega
      have fb : frB (frQ p (byOf c)) c = false := by
        unfold frB frQ byOf
        rcases k with k | k <;> simp [k]
      have fq : frQ (frQ p (byOf c)) (byOf c) = frQ p (byOf c) := rfl
      rw [e2] at hq ⊢
      rcases do_cases (frQ p (byOf c)) c hq.1 with ⟨f, fe⟩ | ⟨f0, _, _, g⟩
      · exfalso
        apply fe
        unfold dX doX
        have he : actE (frQ p (byOf c)) c = 0 := by unfold actE; simp [k1, k3, k, fb]
        have hx : actX (frQ p (byOf c)) c = ⟨0, 0, (frQ p (byOf c)).frozen == byOf c, []⟩ := by unfold actX; simp [k1, k3, k, fb]
        have ep' : c.epoch = (frQ p (byOf c)).epoch := ep
        rw [he, hx]
        simp [hq.1, w, ep']
      · refine ⟨?_, by rw [f0, e0], fun _ h3 => absurd h3 k3⟩
        rcases g with g | g | g | g | g | g
        · omega
        · omega
        · omega
        · omega
        · rw [g.2.2.1, fq]
        · exact g.2.2
    · rw [e2]
      exact ⟨e2, rfl, fun _ h3 => absurd h3 k3⟩
/-- what was there stays -/
theorem keep_recs {p : Part} {c : Cmd} (h : partOk p = true) : ((dQ p c).recs = p.recs ∨ ((dQ p c).recs = appL p.recs (newR c) ∧ c.kind = 1)) := by
  rcases dQ_cases (c := c) h with e | ⟨_, _, _, ⟨k, _, e⟩ | ⟨_, _, e⟩ | ⟨_, _, e⟩⟩
  · rw [e]; exact .inl rfl
  · rw [e]; exact .inr ⟨rfl, k⟩
  · rw [e]; exact .inl rfl
  · rw [e]; exact .inl rfl
/-- what was answered is there -/
theorem there {p : Part} {c : Cmd} (hp : D.PartTy p) (h : partOk p = true) (hk : c.kind = 1) (he : (dX p c).err = 0) : ∃ o : Nat, (dX p c).off = o ∧ o < (dQ p c).recs.length ∧ ((dQ p c).recs.getD o default).prod = c.prod ∧ ((dQ p c).recs.getD o default).seq = c.seq := by
  rcases do_cases p c h with ⟨_, h1⟩ | ⟨_, _, _, hh⟩
  · exact absurd he h1
  · rcases hh with ⟨_, e1, e2, e3⟩ | ⟨_, e1, e2, e3⟩ | ⟨k, _⟩ | ⟨k, _⟩ | ⟨k, _⟩ | ⟨k, _⟩
    · rw [e2, e3]
      have hL : (prQ p c).recs.length = p.recs.length + 1 := by simp [prQ, appL]
      have hlast : (prQ p c).recs.getD p.recs.length default = (newR c).to (IntKind.u64.wrap (p.recs.length : Nat)) := by simp [prQ, appL]
      refine ⟨p.recs.length, rfl, by omega, ?_, ?_⟩
      · rw [hlast]; rfl
      · rw [hlast]; rfl
    · rw [e2, e3]
      obtain ⟨_, _, _, ht, _, _, hlo, _⟩ := ok_un h
      have hj : P.judgeV p.prods c.prod c.seq = 2 := by
        unfold prE at e1
        cases h1 : hasK p.rng c.key
        · simp [h1] at e1
        · by_cases h2 : P.judgeV p.prods c.prod c.seq = 2
          · exact h2
          · by_cases h3 : P.judgeV p.prods c.prod c.seq = 3
            · simp [h1, h3] at e1
            · by_cases h4 : p.frozen = 0
              · by_cases h5 : appE p.recs (newR c) = 0
                · simp [h1, h2, h3, h4, h5] at e1
                  exact absurd e1 (take_999 _ _)
                · simp [h1, h2, h3, h4, h5] at e1
                  exact absurd e1 (app_999 _ _)
              · simp [h1, h2, h3, h4] at e1
      unfold P.judgeV at hj
      cases hb : P.badN c.prod c.seq
      · cases hf : P.findI p.prods c.prod
        · simp [hb, hf] at hj
        · by_cases hl : (P.findD p.prods c.prod).seq < c.seq
          · simp [hb, hf, hl] at hj
          · have ⟨m1, m2⟩ := P.find_of hf
            have hs : c.seq = (P.findD p.prods c.prod).seq ∧ (P.findD p.prods c.prod).here = true := by
              simp [hb, hf, hl] at hj
              exact hj
            have ho : P.judgeO p.prods c.prod c.seq = (P.findD p.prods c.prod).offset := by
              unfold P.judgeO
              have hb2 := hb
              rw [hs.1] at hb2
              simp [hb, hf, hl, hs, hb2]
            rw [ho]
            have h5 := D.lost_iff.1 (hlo _ m1) hs.2
            have h6 := hp.po _ m1
            generalize P.findD p.prods c.prod = z at *
            refine ⟨z.offset.toNat, by show z.offset = _; omega, by omega, ?_, ?_⟩
            · rw [h5.2.1, m2]
            · rw [h5.2.2, hs.1]
      · simp [hb] at hj
    · omega
    · omega
    · omega
    · exact absurd hk k
end Go.Proofs.YtnbhdjadlbhknaaGreatDoor.R
