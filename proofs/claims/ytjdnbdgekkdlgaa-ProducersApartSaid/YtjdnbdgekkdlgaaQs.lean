import Derived.Test.YtjdnbdgekkdlgaaQq
/-! Producers: two producers alone: the plain law of Apart. -/
namespace Go.Proofs.Ytjdnbdgekkdlgaa
open Go.Ax
set_option maxRecDepth 1000000
def newer (s : Option Producer) (x : Num) : Bool := match s with | none => true | some p => decide (p.seq < x.seq)
def stepP (id : Int) (s : Option Producer) (x : Num) : Option Producer :=
  if 1 ≤ x.seq ∧ x.seq ≤ 9223372036854775807 ∧ newer s x = true then some ⟨id, x.seq, true, x.offset⟩ else s
def tab (p q : Option Producer) : List Producer := p.toList ++ q.toList
def isOf (id : Int) (s : Option Producer) : Prop := ∀ z, s = some z → z.id = id ∧ good z
theorem isOf_step {id : Int} (hid : ¬ id = 0) {s : Option Producer} (h : isOf id s) (x : Num) : isOf id (stepP id s x) := by
  unfold stepP
  by_cases hx : 1 ≤ x.seq ∧ x.seq ≤ 9223372036854775807 ∧ newer s x = true
  · rw [if_pos hx]
    intro z hz
    obtain rfl := Option.some.inj hz
    exact ⟨rfl, hid, hx.1, hx.2.1, Or.inl rfl⟩
  · rw [if_neg hx]; exact h
/-- a table with what is taken, or as it was -/
def takeS (l : List Producer) (x : Producer) : List Producer := if takeE l x = 0 then putL l x else l
theorem tab_is {p q : Option Producer} (hp : isOf 5 p) (hq : isOf 9 q) : isTable (tab p q) = true := by
  rw [table_iff]
  cases p with
  | none => cases q with
    | none => exact ⟨fun x hx => (by cases hx), fun i j _ hj => (by simp [tab] at hj), by simp [tab]⟩
    | some z =>
      refine ⟨fun x hx => ?_, fun i j h hj => (by simp [tab] at hj; omega), by simp [tab]⟩
      simp [tab] at hx; subst hx; exact (hq _ rfl).2
  | some w => cases q with
    | none =>
      refine ⟨fun x hx => ?_, fun i j h hj => (by simp [tab] at hj; omega), by simp [tab]⟩
      simp [tab] at hx; subst hx; exact (hp _ rfl).2
    | some z =>
      refine ⟨fun x hx => ?_, fun i j h hj => ?_, by simp [tab]⟩
      · simp [tab] at hx
        rcases hx with rfl | rfl
        · exact (hp _ rfl).2
        · exact (hq _ rfl).2
      · simp [tab] at hj
        obtain rfl : j = 1 := by omega
        obtain rfl : i = 0 := by omega
        have h1 := (hp w rfl).1
        have h2 := (hq z rfl).1
        show w.id < z.id
        omega
theorem step5 {p q : Option Producer} (hp : isOf 5 p) (hq : isOf 9 q) (x : Num) : takeS (tab p q) (mkP 5 x.seq true x.offset) = tab (stepP 5 p x) q := by
  have ht := tab_is hp hq
  have hb : badN 5 x.seq = !(decide (1 ≤ x.seq) && decide (x.seq ≤ 9223372036854775807)) := by simp [badN]
  unfold takeS takeE stepP
  cases hp1 : p with
  | none =>
    cases hq1 : q with
    | none => subst hp1 hq1; simp only [tab, Option.toList, List.nil_append, List.append_nil, List.cons_append] at ht ⊢; by_cases h1 : 1 ≤ x.seq <;> by_cases h2 : x.seq ≤ 9223372036854775807 <;> simp [ht, mkP, judgeV, hb, h1, h2, tab, newer, findI, putL, oth, below]
    | some z =>
      have hz := (hq z hq1).1
      subst hp1 hq1
      simp only [tab, Option.toList, List.nil_append, List.append_nil, List.cons_append] at ht ⊢
      by_cases h1 : 1 ≤ x.seq <;> by_cases h2 : x.seq ≤ 9223372036854775807 <;> simp [ht, mkP, judgeV, hb, h1, h2, tab, newer, findI, has, hz, putL, oth_cons, below] <;> simp [oth, hz]
  | some w =>
    have hw := (hp w hp1).1
    cases hq1 : q with
    | none =>
      subst hp1 hq1
      simp only [tab, Option.toList, List.nil_append, List.append_nil, List.cons_append] at ht ⊢
      by_cases h1 : 1 ≤ x.seq <;> by_cases h2 : x.seq ≤ 9223372036854775807 <;> by_cases h3 : w.seq < x.seq <;> simp [ht, mkP, judgeV, hb, h1, h2, h3, tab, newer, findI, findD, has, hw, putL, oth_cons, below] <;> (first | (simp [oth, hw]; done) | (split <;> simp))
    | some z =>
      have hz := (hq z hq1).1
      subst hp1 hq1
      simp only [tab, Option.toList, List.nil_append, List.append_nil, List.cons_append] at ht ⊢
      by_cases h1 : 1 ≤ x.seq <;> by_cases h2 : x.seq ≤ 9223372036854775807 <;> by_cases h3 : w.seq < x.seq <;> simp [ht, mkP, judgeV, hb, h1, h2, h3, tab, newer, findI, findD, has, hw, hz, putL, oth_cons, below] <;> (first | (simp [oth, hw, hz]; done) | (split <;> simp))
theorem step9 {p q : Option Producer} (hp : isOf 5 p) (hq : isOf 9 q) (x : Num) : takeS (tab p q) (mkP 9 x.seq true x.offset) = tab p (stepP 9 q x) := by
  have ht := tab_is hp hq
  have hb : badN 9 x.seq = !(decide (1 ≤ x.seq) && decide (x.seq ≤ 9223372036854775807)) := by simp [badN]
  unfold takeS takeE stepP
  cases hp1 : p with
  | none =>
    cases hq1 : q with
    | none => subst hp1 hq1; simp only [tab, Option.toList, List.nil_append, List.append_nil, List.cons_append] at ht ⊢; by_cases h1 : 1 ≤ x.seq <;> by_cases h2 : x.seq ≤ 9223372036854775807 <;> simp [ht, mkP, judgeV, hb, h1, h2, tab, newer, findI, putL, oth, below]
    | some z =>
      have hz := (hq z hq1).1
      subst hp1 hq1
      simp only [tab, Option.toList, List.nil_append, List.append_nil, List.cons_append] at ht ⊢
      by_cases h1 : 1 ≤ x.seq <;> by_cases h2 : x.seq ≤ 9223372036854775807 <;> by_cases h3 : z.seq < x.seq <;> simp [ht, mkP, judgeV, hb, h1, h2, h3, tab, newer, findI, findD, has, hz, putL, oth_cons, below] <;> (first | (simp [oth, hz]; done) | (split <;> simp))
  | some w =>
    have hw := (hp w hp1).1
    cases hq1 : q with
    | none =>
      subst hp1 hq1
      simp only [tab, Option.toList, List.nil_append, List.append_nil, List.cons_append] at ht ⊢
      by_cases h1 : 1 ≤ x.seq <;> by_cases h2 : x.seq ≤ 9223372036854775807 <;> simp [ht, mkP, judgeV, hb, h1, h2, tab, newer, findI, findD, has, hw, putL, oth_cons, below] <;> simp [oth, hw]
    | some z =>
      have hz := (hq z hq1).1
      subst hp1 hq1
      simp only [tab, Option.toList, List.nil_append, List.append_nil, List.cons_append] at ht ⊢
      by_cases h1 : 1 ≤ x.seq <;> by_cases h2 : x.seq ≤ 9223372036854775807 <;> by_cases h3 : z.seq < x.seq <;> simp [ht, mkP, judgeV, hb, h1, h2, h3, tab, newer, findI, findD, has, hw, hz, putL, oth_cons, below] <;> (first | (simp [oth, hw, hz]; done) | (split <;> simp))
def foldP (id : Int) (l : List Num) : Option Producer := l.foldl (stepP id) none
theorem isOf_fold {id : Int} (hid : ¬ id = 0) (l : List Num) : isOf id (foldP id l) := by
  have : ∀ (l : List Num) (s : Option Producer), isOf id s → isOf id (l.foldl (stepP id) s) := by
    intro l
    induction l with
    | nil => intro s h; exact h
    | cons x r ih => intro s h; exact ih _ (isOf_step hid h x)
  exact this l none (fun z hz => by cases hz)
theorem foldP_step {id : Int} {l : List Num} {k : Nat} (h : k < l.length) : foldP id (l.take (k + 1)) = stepP id (foldP id (l.take k)) (l.getD k default) := by
  unfold foldP
  rw [List.take_succ_eq_append_getElem h, List.foldl_append]
  simp [h]
end Go.Proofs.Ytjdnbdgekkdlgaa
