import Derived.Test.YtjdnbdgekkdlgaaQs
/-! Producers: each number once: the plain law of Once. -/
namespace Go.Proofs.Ytjdnbdgekkdlgaa
open Go.Ax
set_option maxRecDepth 1000000
structure Two2 where
  (l : List Producer) (d : List Num)
def onStep (s : Two2) (y : Num) : Two2 := if takeE s.l (acX y) = 0 then ⟨putL s.l (acX y), s.d ++ [y]⟩ else s
def onRun (n : List Num) : Nat → Two2
  | 0 => ⟨[], []⟩
  | k + 1 => if k < n.length then onStep (onRun n k) (n.getD k default) else onRun n k
/-- what the inner loop finds -/
def abv (d : List Num) (y : Num) : Bool := d.all fun z => !(z.id == y.id) || decide (z.seq < y.seq)
def lastOf (d : List Num) (id : Int) : Num := d.foldl (fun s z => if z.id = id then z else s) ⟨0, 0, 0⟩
structure OnOk (s : Two2) : Prop where
  tab : isTable s.l = true
  le : ∀ z ∈ s.d, ∃ x ∈ s.l, x.id = z.id ∧ z.seq ≤ x.seq
  last : ∀ x ∈ s.l, x.here = true ∧ (lastOf s.d x.id).seq = x.seq ∧ (lastOf s.d x.id).offset = x.offset
theorem lastOf_snoc (d : List Num) (y : Num) (id : Int) : lastOf (d ++ [y]) id = if y.id = id then y else lastOf d id := by
  unfold lastOf
  rw [List.foldl_append]; rfl
theorem takeE_zero {l : List Producer} {x : Producer} : takeE l x = 0 ↔ isTable l = true ∧ judgeV l x.id x.seq = 1 ∧ (findI l x.id = true ∨ ¬ l.length = 256) := by
  unfold takeE
  by_cases ht : isTable l = true
  · by_cases h4 : judgeV l x.id x.seq = 4
    · simp [ht, h4]
    · by_cases h5 : judgeV l x.id x.seq = 1
      · cases hf : findI l x.id
        · by_cases hn : l.length = 256
          · simp [ht, h5, hn]
          · simp [ht, h5, hn]
        · simp [ht, h5]
      · simp [ht, h4, h5]
  · simp [ht]
theorem bad_of {l : List Producer} {id seq : Int} (h : judgeV l id seq = 1) : badN id seq = false := ((judge_new l id seq).1 h).1
theorem oth_len_le (l : List Producer) (x : Producer) : (oth l x).length ≤ l.length := List.length_filter_le _ _
theorem oth_len_lt {l : List Producer} {x : Producer} (h : findI l x.id = true) : (oth l x).length < l.length := by
  have ⟨h1, h2⟩ := find_of h
  unfold oth
  rw [List.length_filter_lt_length_iff_exists]
  exact ⟨_, h1, by simp [keep, h2]⟩
theorem put_table {l : List Producer} {y : Num} (h : takeE l (acX y) = 0) : isTable (putL l (acX y)) = true := by
  have ⟨h1, h2, h3⟩ := takeE_zero.1 h
  have ⟨g, r, n⟩ := (table_iff l).1 h1
  rw [table_iff]
  refine ⟨fun x hx => ?_, putL_rising r, ?_⟩
  · rcases mem_putL'.1 hx with rfl | ⟨hx, _⟩
    · have hb := bad_of h2
      simp [badN] at hb
      exact ⟨hb.1, hb.2.1, hb.2.2, Or.inl rfl⟩
    · exact g x hx
  · rw [putL_len]
    rcases h3 with h3 | h3
    · have := oth_len_lt h3; omega
    · have := oth_len_le l (acX y); omega
theorem onOk_step {s : Two2} (h : OnOk s) (y : Num) : OnOk (onStep s y) := by
  unfold onStep
  by_cases he : takeE s.l (acX y) = 0
  · rw [if_pos he]
    have ⟨h1, h2, h3⟩ := takeE_zero.1 he
    have ⟨_, r, _⟩ := (table_iff s.l).1 h1
    have hf := ((judge_fresh r _ _).1 h2).2
    refine ⟨put_table he, fun z hz => ?_, fun x hx => ?_⟩
    · rcases List.mem_append.1 hz with hz | hz
      · obtain ⟨x, hx, e1, e2⟩ := h.le z hz
        by_cases e : x.id = y.id
        · exact ⟨acX y, mem_putL'.2 (Or.inl rfl), by show y.id = z.id; omega, by have := hf x hx e; show z.seq ≤ y.seq; have : x.seq < y.seq := this; omega⟩
        · exact ⟨x, mem_putL'.2 (Or.inr ⟨hx, e⟩), e1, e2⟩
      · obtain rfl : z = y := by simpa using hz
        exact ⟨acX z, mem_putL'.2 (Or.inl rfl), rfl, Int.le_refl _⟩
    · show x.here = true ∧ (lastOf (s.d ++ [y]) x.id).seq = x.seq ∧ (lastOf (s.d ++ [y]) x.id).offset = x.offset
      rw [lastOf_snoc]
      rcases mem_putL'.1 hx with rfl | ⟨hx, e⟩
      · have e0 : y.id = (acX y).id := rfl
        rw [if_pos e0]; exact ⟨rfl, rfl, rfl⟩
      · rw [if_neg (fun e' => e e'.symm)]
        exact h.last x hx
  · rw [if_neg he]; exact h
theorem onOk (n : List Num) : ∀ k, OnOk (onRun n k) := by
  intro k
  induction k with
  | zero => exact ⟨by rfl, fun z hz => (by cases hz), fun x hx => (by cases hx)⟩
  | succ k ih =>
    rw [onRun]; split
    · exact onOk_step ih _
    · exact ih
/-- taken: it was above all, new, and the table stays one -/
theorem on_taken {s : Two2} (h : OnOk s) {y : Num} (e : takeE s.l (acX y) = 0) : abv s.d y = true ∧ judgeV s.l y.id y.seq = 1 ∧ isTable (putL s.l (acX y)) = true := by
  have ⟨h1, h2, _⟩ := takeE_zero.1 e
  have ⟨_, r, _⟩ := (table_iff s.l).1 h1
  have hf := ((judge_fresh r _ _).1 h2).2
  refine ⟨?_, h2, put_table e⟩
  unfold abv
  rw [List.all_eq_true]
  intro z hz
  by_cases e1 : z.id = y.id
  · obtain ⟨x, hx, e2, e3⟩ := h.le z hz
    have : x.seq < y.seq := hf x hx (by show x.id = y.id; omega)
    simp; right; omega
  · simp [e1]
/-- not taken: it was not new, or there is no room; what was the last is known -/
theorem on_not {s : Two2} (h : OnOk s) {y : Num} (e : ¬ takeE s.l (acX y) = 0) : ¬ (judgeV s.l y.id y.seq = 1 ∧ s.l.length < 256) ∧ (judgeV s.l y.id y.seq = 2 → (lastOf s.d y.id).seq = y.seq ∧ (lastOf s.d y.id).offset = judgeO s.l y.id y.seq) := by
  constructor
  · rintro ⟨h1, h2⟩
    exact e (takeE_zero.2 ⟨h.tab, h1, Or.inr (by omega)⟩)
  · intro h2
    unfold judgeV at h2
    unfold judgeO
    by_cases hb : badN y.id y.seq = true
    · rw [if_pos hb] at h2; cases h2
    · rw [if_neg hb] at h2 ⊢
      by_cases hc : (!findI s.l y.id || decide ((findD s.l y.id).seq < y.seq)) = true
      · rw [if_pos hc] at h2; cases h2
      · rw [if_neg hc] at h2 ⊢
        by_cases hd : (y.seq == (findD s.l y.id).seq && (findD s.l y.id).here) = true
        · rw [if_pos hd]
          have hf : findI s.l y.id = true := by
            cases hf : findI s.l y.id
            · simp [hf] at hc
            · rfl
          have ⟨g1, g2⟩ := find_of hf
          have ⟨_, g4, g5⟩ := h.last _ g1
          rw [g2] at g4 g5
          have : y.seq = (findD s.l y.id).seq := by simp at hd; exact hd.1
          exact ⟨by rw [g4, this], g5⟩
        · rw [if_neg hd] at h2; cases h2
theorem on_len (n : List Num) : ∀ k, (onRun n k).l.length ≤ 256 ∧ (onRun n k).d.length ≤ k ∧ (onRun n k).d.length ≤ n.length := by
  intro k
  refine ⟨((table_iff _).1 (onOk n k).tab).2.2, ?_⟩
  induction k with
  | zero => exact ⟨Nat.le_refl _, Nat.zero_le _⟩
  | succ k ih =>
    have ⟨i1, i2⟩ := ih
    rw [onRun]
    by_cases h : k < n.length
    · rw [if_pos h, onStep]
      split
      · simp only [List.length_append, List.length_cons, List.length_nil]; omega
      · omega
    · rw [if_neg h]; omega
theorem on_ok {n : List Num} {k : Nat} (h : k < n.length) (e : takeE (onRun n k).l (acX (n.getD k default)) = 0) : onRun n (k + 1) = ⟨putL (onRun n k).l (acX (n.getD k default)), (onRun n k).d ++ [n.getD k default]⟩ := by
  rw [onRun, if_pos h, onStep, if_pos e]
theorem on_no {n : List Num} {k : Nat} (e : ¬ takeE (onRun n k).l (acX (n.getD k default)) = 0) : onRun n (k + 1) = onRun n k := by
  rw [onRun]; split
  · rw [onStep, if_neg e]
  · rfl
theorem snoc_n {d : List Num} {j : Nat} (h : j < d.length) : d.take (j + 1) = d.take j ++ [d[j]?.getD default] := by
  rw [List.take_add_one, List.getElem?_eq_getElem h]; rfl
theorem abv_zero (d : List Num) (y : Num) : abv (d.take 0) y = true := rfl
theorem abv_step {d : List Num} {y : Num} {j : Nat} (h : j < d.length) : abv (d.take (j + 1)) y = (abv (d.take j) y && (!((d[j]?.getD default).id == y.id) || decide ((d[j]?.getD default).seq < y.seq))) := by
  rw [snoc_n h]
  simp [abv]
theorem last_zero (d : List Num) (id : Int) : lastOf (d.take 0) id = ⟨0, 0, 0⟩ := rfl
theorem last_step {d : List Num} {id : Int} {j : Nat} (h : j < d.length) : lastOf (d.take (j + 1)) id = if (d[j]?.getD default).id = id then d[j]?.getD default else lastOf (d.take j) id := by
  rw [snoc_n h, lastOf_snoc]
end Go.Proofs.Ytjdnbdgekkdlgaa
