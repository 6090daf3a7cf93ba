import Derived.Test.YtjdnbdgekkdlgaaQl
/-! Producers: what is new stays new: the plain law of Kept. -/
namespace Go.Proofs.Ytjdnbdgekkdlgaa
open Go.Ax
set_option maxRecDepth 1000000
theorem mv_id (to : List Int) (x : Producer) : (mvP to x).id = x.id := by unfold mvP; split <;> rfl
theorem mv_seq (to : List Int) (x : Producer) : (mvP to x).seq = x.seq := by unfold mvP; split <;> rfl
theorem find_move (l : List Producer) (to : List Int) (id : Int) : (moveL l to).find? (has id) = (l.find? (has id)).map (mvP to) := by
  unfold moveL
  rw [List.find?_map]
  have : (has id ∘ mvP to) = has id := by
    funext x
    simp [has, mv_id]
  rw [this]
theorem findI_move (l : List Producer) (to : List Int) (id : Int) : findI (moveL l to) id = findI l id := by
  unfold findI
  rw [find_move]
  cases l.find? (has id) <;> rfl
theorem findD_move {l : List Producer} {to : List Int} {id : Int} (h : findI l id = true) : (findD (moveL l to) id).seq = (findD l id).seq := by
  unfold findI at h
  unfold findD
  rw [find_move]
  cases hf : l.find? (has id) with
  | none => rw [hf] at h; cases h
  | some x => simp [mv_seq]
theorem judge_new (l : List Producer) (id seq : Int) : judgeV l id seq = 1 ↔ badN id seq = false ∧ (findI l id = false ∨ (findD l id).seq < seq) := by
  unfold judgeV
  cases hb : badN id seq
  · cases hf : findI l id
    · simp
    · by_cases h : (findD l id).seq < seq
      · simp [h]
      · simp [h]
        split <;> decide
  · simp
theorem judge_move (l : List Producer) (to : List Int) (id seq : Int) : judgeV (moveL l to) id seq = 1 ↔ judgeV l id seq = 1 := by
  rw [judge_new, judge_new, findI_move]
  cases hf : findI l id
  · simp
  · rw [findD_move hf]
theorem mem_oth {l : List Producer} {x z : Producer} : z ∈ oth l x ↔ z ∈ l ∧ ¬ z.id = x.id := by
  unfold oth
  rw [List.mem_filter]
  simp [keep]
theorem mem_putL' {l : List Producer} {x z : Producer} : z ∈ putL l x ↔ z = x ∨ (z ∈ l ∧ ¬ z.id = x.id) := by
  rw [← mem_oth]
  unfold putL
  rw [List.mem_append, List.mem_cons]
  constructor
  · rintro (h | h | h)
    · exact Or.inr (List.mem_of_mem_take h)
    · exact Or.inl h
    · exact Or.inr (List.mem_of_mem_drop h)
  · rintro (h | h)
    · exact Or.inr (Or.inl h)
    · rw [← List.take_append_drop (below (oth l x) x.id) (oth l x), List.mem_append] at h
      rcases h with h | h
      · exact Or.inl h
      · exact Or.inr (Or.inr h)
theorem find_of {l : List Producer} {id : Int} (h : findI l id = true) : findD l id ∈ l ∧ (findD l id).id = id := by
  unfold findI at h
  unfold findD
  cases hf : l.find? (has id) with
  | none => rw [hf] at h; cases h
  | some x =>
    have h1 := List.find?_some hf
    have h2 := List.mem_of_find?_eq_some hf
    exact ⟨h2, by simpa [has] using h1⟩
theorem find_none {l : List Producer} {id : Int} (h : findI l id = false) : ∀ x ∈ l, ¬ x.id = id := by
  intro x hx hid
  unfold findI at h
  have : (l.find? (has id)).isSome = true := by
    rw [List.find?_isSome]
    exact ⟨x, hx, by simp [has, hid]⟩
  rw [h] at this; cases this
theorem pw_unique {l : List Producer} (h : l.Pairwise (fun a b => a.id < b.id)) : ∀ {x y : Producer}, x ∈ l → y ∈ l → x.id = y.id → x = y := by
  induction h with
  | nil => intro x y hx; cases hx
  | cons h1 _ ih =>
    intro x y hx hy e
    rcases List.mem_cons.1 hx with e1 | hx' <;> rcases List.mem_cons.1 hy with e2 | hy'
    · rw [e1, e2]
    · have := h1 _ hy'; rw [← e1] at this; omega
    · have := h1 _ hx'; rw [← e2] at this; omega
    · exact ih hx' hy' e
/-- no one of that name came so far -/
def fresh (l : List Producer) (id seq : Int) : Prop := ∀ x ∈ l, x.id = id → x.seq < seq
theorem judge_fresh {l : List Producer} (h : rising l) (id seq : Int) : judgeV l id seq = 1 ↔ badN id seq = false ∧ fresh l id seq := by
  rw [judge_new]
  refine and_congr Iff.rfl ?_
  cases hf : findI l id
  · exact ⟨fun _ x hx e => absurd e (find_none hf x hx), fun _ => Or.inl rfl⟩
  · have ⟨h1, h2⟩ := find_of hf
    constructor
    · rintro (h3 | h3)
      · cases h3
      · intro x hx e
        rw [pw_unique ((rising_pw l).1 h) hx h1 (by omega)]; exact h3
    · intro h3
      exact Or.inr (h3 _ h1 h2)
theorem fresh_bst {s : List Producer} (hs : rising s) (x : Producer) (id seq : Int) : fresh (bst s x) id seq ↔ fresh s id seq ∧ (x.id = id → x.seq < seq) := by
  unfold bst
  cases hf : findI s x.id
  · simp only [Bool.not_false, Bool.true_or, if_true]
    have hn := find_none hf
    constructor
    · intro h
      exact ⟨fun z hz e => h z (mem_putL'.2 (Or.inr ⟨hz, hn z hz⟩)) e, fun e => h x (mem_putL'.2 (Or.inl rfl)) e⟩
    · rintro ⟨h1, h2⟩ z hz e
      rcases mem_putL'.1 hz with rfl | ⟨hz, _⟩
      · exact h2 e
      · exact h1 z hz e
  · have ⟨h1, h2⟩ := find_of hf
    by_cases hl : lat x (findD s x.id) = true
    · simp only [hl, Bool.or_true, if_true]
      have hle : (findD s x.id).seq ≤ x.seq := by
        simp [lat] at hl
        rcases hl with h | h
        · omega
        · omega
      constructor
      · intro h
        refine ⟨fun z hz e => ?_, fun e => h x (mem_putL'.2 (Or.inl rfl)) e⟩
        by_cases hzx : z.id = x.id
        · have := h x (mem_putL'.2 (Or.inl rfl)) (by omega)
          rw [pw_unique ((rising_pw s).1 hs) hz h1 (by omega)]
          omega
        · exact h z (mem_putL'.2 (Or.inr ⟨hz, hzx⟩)) e
      · rintro ⟨h3, h4⟩ z hz e
        rcases mem_putL'.1 hz with rfl | ⟨hz, _⟩
        · exact h4 e
        · exact h3 z hz e
    · simp only [hl, Bool.not_true, Bool.or_self, Bool.false_eq_true, if_false]
      have hle : x.seq ≤ (findD s x.id).seq := by
        simp [lat] at hl
        omega
      constructor
      · intro h
        refine ⟨h, fun e => ?_⟩
        have := h _ h1 (by omega)
        omega
      · exact fun h => h.1
theorem fresh_both {s : List Producer} (hs : rising s) (m : List Producer) (id seq : Int) : ∀ k, k ≤ m.length → (fresh (both s m k) id seq ↔ fresh s id seq ∧ fresh (m.take k) id seq) := by
  intro k
  induction k with
  | zero => intro _; simp [both, fresh]
  | succ k ih =>
    intro hk
    rw [both_step (by omega), fresh_bst (both_inv hs k).1, ih (by omega), take_snoc m k (by omega)]
    generalize m[k]?.getD default = x
    unfold fresh
    constructor
    · rintro ⟨⟨h1, h2⟩, h3⟩
      refine ⟨h1, fun z hz e => ?_⟩
      rcases List.mem_append.1 hz with hz | hz
      · exact h2 z hz e
      · rw [List.mem_singleton] at hz
        subst hz; exact h3 e
    · rintro ⟨h1, h2⟩
      exact ⟨⟨h1, fun z hz e => h2 z (List.mem_append_left _ hz) e⟩, fun e => h2 x (List.mem_append_right _ (List.mem_singleton.2 rfl)) e⟩
theorem judge_both {a b : List Producer} {ta tb : List Int} (ha : isTable a = true) (hb : isTable b = true) (id seq : Int) : judgeV (bothL a b ta tb) id seq = 1 ↔ judgeV a id seq = 1 ∧ judgeV b id seq = 1 := by
  have h1 := move_rising (to := ta) (table_rising ha)
  have h2 := move_rising (to := tb) (table_rising hb)
  rw [← judge_move a ta, ← judge_move b tb, judge_fresh h1, judge_fresh h2, bothL, judge_fresh (both_inv h1 _).1, fresh_both h1 _ _ _ _ (Nat.le_refl _), List.take_length]
  constructor
  · rintro ⟨h, h3, h4⟩; exact ⟨⟨h, h3⟩, h, h4⟩
  · rintro ⟨⟨h, h3⟩, _, h4⟩; exact ⟨h, h3, h4⟩
/-- a table, element by element -/
def good (x : Producer) : Prop := ¬ x.id = 0 ∧ 1 ≤ x.seq ∧ x.seq ≤ 9223372036854775807 ∧ (x.here = true ∨ x.offset = 0)
theorem table_iff (l : List Producer) : isTable l = true ↔ (∀ x ∈ l, good x) ∧ rising l ∧ l.length ≤ 256 := by
  constructor
  · intro h
    have hr := table_rising h
    unfold isTable at h
    rw [Bool.and_eq_true, decide_eq_true_eq] at h
    refine ⟨fun x hx => ?_, hr, h.2⟩
    obtain ⟨i, hi, rfl⟩ := List.mem_iff_getElem.1 hx
    have := okFrom_all _ 0 rfl h.1 i (Nat.zero_le _) hi
    simp [okP, hi] at this
    unfold good
    grind
  · rintro ⟨h1, h2, h3⟩
    unfold isTable
    rw [Bool.and_eq_true, decide_eq_true_eq]
    refine ⟨?_, h3⟩
    unfold okFrom
    rw [List.all_eq_true]
    intro j hj
    have hj' : j < l.length := by
      simp at hj; exact hj
    have hg := h1 l[j] (List.getElem_mem hj')
    unfold good at hg
    simp [okP, hj']
    have hr : 0 < j → (l[j - 1]?.getD default).id < l[j].id := fun h => by
      have := h2 (j - 1) j (by omega) hj'
      simpa [hj'] using this
    grind
theorem good_mv {x : Producer} (to : List Int) (h : good x) : good (mvP to x) := by
  unfold good at *
  unfold mvP
  split
  · exact ⟨h.1, h.2.1, h.2.2.1, Or.inl rfl⟩
  · exact ⟨h.1, h.2.1, h.2.2.1, Or.inr rfl⟩
theorem good_both {s : List Producer} (hs : ∀ x ∈ s, good x) (m : List Producer) (hm : ∀ x ∈ m, good x) : ∀ k, k ≤ m.length → ∀ x ∈ both s m k, good x := by
  intro k
  induction k with
  | zero => intro _; simpa [both] using hs
  | succ k ih =>
    intro hk x hx
    rw [both_step (by omega)] at hx
    have hmk : good (m[k]?.getD default) := by
      have h : k < m.length := by omega
      have := hm m[k] (List.getElem_mem h)
      simpa [h] using this
    unfold bst at hx
    split at hx
    · rcases mem_putL'.1 hx with rfl | ⟨hx, _⟩
      · exact hmk
      · exact ih (by omega) x hx
    · exact ih (by omega) x hx
theorem bothE_ok {a b : List Producer} {ta tb : List Int} (h : bothE a b ta tb = 0) : isTable a = true ∧ isTable b = true := by
  unfold bothE at h
  by_cases h1 : (isTable a && isTable b) = true
  · simpa using h1
  · simp [h1] at h
theorem table_both {a b : List Producer} {ta tb : List Int} (h : bothE a b ta tb = 0) : isTable (bothL a b ta tb) = true := by
  have ⟨ha, hb⟩ := bothE_ok h
  have ⟨a1, a2, _⟩ := (table_iff a).1 ha
  have ⟨b1, b2, _⟩ := (table_iff b).1 hb
  refine (table_iff _).2 ⟨good_both (fun x hx => ?_) _ (fun x hx => ?_) _ (Nat.le_refl _), (both_inv (move_rising a2) _).1, both_len h⟩
  · obtain ⟨y, hy, rfl⟩ := List.mem_map.1 hx
    exact good_mv _ (a1 y hy)
  · obtain ⟨y, hy, rfl⟩ := List.mem_map.1 hx
    exact good_mv _ (b1 y hy)
end Go.Proofs.Ytjdnbdgekkdlgaa
