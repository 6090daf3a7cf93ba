import Derived.Test.YtghhkabankbkoaaAxC
set_option linter.unusedVariables false
set_option linter.unusedSimpArgs false
/-! Each operation over abstract values says what the model's operation does. First the lists. -/
namespace Go.Ax
open Go

theorem len_eq {α : Type} (l : List α) : len l = l.length := by induction l with | nil => rfl | cons _ _ ih => simp [len, ih]
theorem relL_get : ∀ {l : List AV} {H : HH} {E : Env} {vs : List Value}, RelL l H E vs → ∀ i v, vs[i]? = some v → Rel (get l i) H E v
  | [], _, _, _, h, i, v, hv => by simp [RelL] at h; subst h; simp at hv
  | a :: as, _, _, _, h, i, v, hv => by
    obtain ⟨u, r, rfl, h1, h2⟩ := h
    match i, hv with
    | 0, hv => simp at hv; subst hv; exact h1
    | i + 1, hv => exact relL_get h2 i v (by simpa using hv)
theorem relL_mk : ∀ {l : List AV} {H : HH} {E : Env} {vs : List Value}, vs.length = l.length → (∀ i v, vs[i]? = some v → Rel (get l i) H E v) → RelL l H E vs
  | [], _, _, vs, h, _ => by simp at h; exact h
  | a :: as, _, _, [], h, _ => by simp at h
  | a :: as, _, _, v :: r, h, k => ⟨v, r, rfl, k 0 v rfl, relL_mk (by simpa using h) fun i u hu => k (i + 1) u (by simpa using hu)⟩
theorem rel_getD {l : List AV} {H : HH} {E : Env} {vs : Array Value} (h : RelL l H E vs.toList) (i : Nat) : Rel (get l i) H E (vs.getD i undef) := by
  rcases Nat.lt_or_ge i vs.size with hi | hi
  · have : vs.toList[i]? = some (vs.getD i undef) := by simp [hi]
    exact relL_get h i _ this
  · have hl := RelL.length h
    have : get l i = .junk := by
      have : ∀ (l : List AV) i, l.length ≤ i → get l i = .junk := by
        intro l
        induction l with
        | nil => intro i _; cases i <;> rfl
        | cons a l ih => intro i hi; match i, hi with | 0, hi => simp at hi | i + 1, hi => exact ih i (by simpa using hi)
      exact this l i (by simp at hl; omega)
    rw [this]; trivial

theorem length_set (l : List AV) (i : Nat) (v : AV) : (set l i v).length = l.length := by
  induction l generalizing i with
  | nil => rfl
  | cons a l ih => cases i <;> simp [set, ih]
theorem get_set : ∀ (l : List AV) (i j : Nat) (v : AV), get (set l i v) j = if i = j ∧ i < l.length then v else get l j
  | [], i, j, v => by simp [set]
  | _ :: _, 0, 0, v => by simp [set, get]
  | _ :: _, 0, _ + 1, v => by simp [set, get]
  | _ :: _, _ + 1, 0, v => by simp [set, get]
  | _ :: l, i + 1, j + 1, v => by simp only [set, get, get_set l i j v, List.length_cons, Nat.add_right_cancel_iff, Nat.add_lt_add_iff_right]
theorem length_setL (vs : List AV) : ∀ (l : List AV) (o : Nat), (setL l o vs).length = l.length := by
  induction vs with
  | nil => intro l o; cases l <;> rfl
  | cons v vs ih => intro l o; cases l <;> simp [setL, ih, length_set]
theorem get_setL : ∀ (vs l : List AV) (o j : Nat), o + vs.length ≤ l.length → get (setL l o vs) j = if o ≤ j ∧ j < o + vs.length then get vs (j - o) else get l j
  | [], l, o, j, _ => by
    have : ¬ (o ≤ j ∧ j < o + ([] : List AV).length) := by simp
    rw [if_neg this]; cases l <;> rfl
  | v :: vs, l, o, j, h => by
    have hs : setL l o (v :: vs) = setL (set l o v) (o + 1) vs := by cases l <;> rfl
    simp at h
    rw [hs, get_setL vs _ (o + 1) j (by rw [length_set]; omega), get_set]
    by_cases h1 : o = j
    · subst h1
      rw [if_neg (by omega), if_pos ⟨rfl, by omega⟩, if_pos (by simp)]
      simp [get]
    · by_cases h2 : o + 1 ≤ j ∧ j < o + 1 + vs.length
      · rw [if_pos h2, if_pos (by simp; omega)]
        obtain ⟨m, rfl⟩ : ∃ m, j = o + 1 + m := ⟨j - (o + 1), by omega⟩
        have e1 : o + 1 + m - (o + 1) = m := by omega
        have e2 : o + 1 + m - o = m + 1 := by omega
        rw [e1, e2]; rfl
      · rw [if_neg h2, if_neg (by omega), if_neg (by simp; omega)]
theorem length_takeL (l : List AV) : ∀ (o n : Nat), (takeL l o n).length = n
  | _, 0 => rfl
  | o, n + 1 => by simp [takeL, length_takeL l (o + 1) n]
theorem get_takeL (l : List AV) : ∀ (n o i : Nat), i < n → get (takeL l o n) i = get l (o + i)
  | 0, _, i, h => by omega
  | n + 1, o, 0, _ => by simp [takeL, get]
  | n + 1, o, i + 1, h => by
    simp only [takeL, get]
    rw [get_takeL l n (o + 1) i (by omega)]
    congr 1; omega
theorem length_tab (c : Nat → AV) : ∀ (o n : Nat), (tab c o n).length = n
  | _, 0 => rfl
  | o, n + 1 => by simp [tab, length_tab c (o + 1) n]
theorem get_tab (c : Nat → AV) : ∀ (n o i : Nat), i < n → get (tab c o n) i = c (o + i)
  | 0, _, i, h => by omega
  | n + 1, o, 0, _ => by simp [tab, get]
  | n + 1, o, i + 1, h => by
    simp only [tab, get]
    rw [get_tab c n (o + 1) i (by omega)]
    congr 1; omega

theorem rel_sAV (v : Value) (H : HH) (E : Env) : Rel (sAV v) H E v := by
  unfold sAV
  split
  · rename_i h; exact ⟨rfl, h⟩
  · trivial
theorem relL_sAV (H : HH) (E : Env) : ∀ (vs : List Value), RelL (vs.map sAV) H E vs
  | [] => rfl
  | v :: vs => ⟨v, vs, rfl, rel_sAV v H E, relL_sAV H E vs⟩
theorem rel_toAV (v : Value) (H : HH) (E : Env) : Rel (toAV v) H E v := by
  cases v with
  | agg cs => exact ⟨cs, rfl, relL_sAV H E cs.toList⟩
  | _ => exact rel_sAV _ H E
/-- the slots -/
def RelT (t : Nat → AV) (H : HH) (E : Env) (a : Act) : Prop := ∀ i, Rel (t i) H E (a.tmps.getD i undef)
theorem relT_of {t : List AV} {a : Act} {H : HH} {E : Env} (hT : RelL t H E a.tmps.toList) : RelT (get t) H E a := fun i => rel_getD hT i
theorem rel_ev {t : Nat → AV} {a : Act} {H : HH} {E : Env} (hT : RelT t H E a) (x : Operand) : Rel (ev t x) H E (a.eval x) := by
  cases x with
  | tmp i => exact hT i
  | const v => exact rel_toAV v H E
  | global g => trivial
  | func f => exact ⟨#[], #[], rfl, rfl, rfl⟩
theorem relL_ev {t : Nat → AV} {a : Act} {H : HH} {E : Env} (hT : RelT t H E a) : ∀ (l : List Operand), RelL (l.map (ev t)) H E (l.map a.eval)
  | [] => rfl
  | x :: l => ⟨_, _, rfl, rel_ev hT x, relL_ev hT l⟩

theorem one_cell {a : AV} {H : HH} {E : Env} {v : Value} (h1 : one a = true) (h : Rel a H E v) : v.oneCell' = true := by
  cases a with
  | s u => obtain ⟨rfl, hs⟩ := h; cases v <;> first | rfl | simp [scalar] at hs
  | y u => obtain ⟨rfl, hs⟩ := h; cases v <;> first | rfl | simp [scalar] at hs
  | ys b sz n c => obtain ⟨a, cap, rfl, _⟩ := h; rfl
  | yn b sz n c => obtain ⟨a, cap, rfl, _⟩ := h; rfl
  | junk => simp [one] at h1
  | ptr i k sz o => obtain ⟨_, b, _, rfl⟩ := h; rfl
  | own i sz lo n =>
    obtain ⟨_, _, h2⟩ := h
    split at h2
    · obtain ⟨a, rfl, _⟩ := h2; rfl
    · obtain ⟨_, _, rfl⟩ := h2; rfl
  | sl b sz n c => obtain ⟨a, cap, rfl, _⟩ := h; rfl
  | ip b m c => obtain ⟨ad, rfl, _⟩ := h; rfl
  | agg cs => simp [one] at h1
  | tup cs => simp [one] at h1
  | fn f x y => obtain ⟨_, _, rfl, _⟩ := h; rfl
  | ifc t x => obtain ⟨_, rfl, _⟩ := h; rfl
theorem ones_of : ∀ {l : List AV} {H : HH} {E : Env} {vs : List Value}, allOne l = true → RelL l H E vs → ones vs
  | [], _, _, _, _, h => by simp [RelL] at h; subst h; intro x hx; cases hx
  | a :: as, _, _, _, h1, h => by
    obtain ⟨v, r, rfl, h2, h3⟩ := h
    simp [allOne] at h1
    intro x hx
    rcases List.mem_cons.1 hx with rfl | hx
    · exact one_cell h1.1 h2
    · exact ones_of h1.2 h3 x hx
theorem cells_one {v : Value} (h : v.oneCell' = true) : v.cells = #[v] := by cases v <;> first | rfl | simp [Value.oneCell'] at h
theorem cellsOf_ok {a : AV} {l : List AV} {H : HH} {E : Env} {v : Value} (hc : cellsOf a = some l) (h : Rel a H E v) : RelL l H E v.cells.toList ∧ ones v.cells.toList ∧ allOne l = true := by
  have key : ∀ b : AV, one b = true → b = a → l = [b] → RelL l H E v.cells.toList ∧ ones v.cells.toList ∧ allOne l = true := by
    rintro b hb rfl rfl
    have h1 := one_cell hb h
    rw [cells_one h1]
    exact ⟨⟨v, [], rfl, h, rfl⟩, fun x hx => by simp at hx; subst hx; exact h1, by simp [allOne, hb]⟩
  cases a with
  | agg cs =>
    simp only [cellsOf] at hc
    split at hc
    · rename_i h1
      cases hc
      obtain ⟨vs, rfl, hr⟩ := h
      exact ⟨hr, ones_of h1 hr, h1⟩
    · cases hc
  | junk => simp [cellsOf, one] at hc
  | tup cs => simp [cellsOf, one] at hc
  | s u => exact key _ rfl rfl (by simpa [cellsOf, one] using hc.symm)
  | y u => exact key _ rfl rfl (by simpa [cellsOf, one] using hc.symm)
  | ys b sz n c => exact key _ rfl rfl (by simpa [cellsOf, one] using hc.symm)
  | yn b sz n c => exact key _ rfl rfl (by simpa [cellsOf, one] using hc.symm)
  | ptr i k sz o => exact key _ rfl rfl (by simpa [cellsOf, one] using hc.symm)
  | own i sz lo n => exact key _ rfl rfl (by simpa [cellsOf, one] using hc.symm)
  | sl b sz n c => exact key _ rfl rfl (by simpa [cellsOf, one] using hc.symm)
  | ip b m c => exact key _ rfl rfl (by simpa [cellsOf, one] using hc.symm)
  | fn f x y => exact key _ rfl rfl (by simpa [cellsOf, one] using hc.symm)
  | ifc t x => exact key _ rfl rfl (by simpa [cellsOf, one] using hc.symm)

def All (ob : List Bool) : Prop := ∀ b ∈ ob, b = true
theorem all_nil : All [] := fun _ h => by cases h
theorem All.append {a b : List Bool} (h : All (a ++ b)) : All a ∧ All b := ⟨fun x hx => h x (by simp [hx]), fun x hx => h x (by simp [hx])⟩
theorem chk_ok {h : Option Hint} {b : Bool} {ob : List Bool} (hc : chk h b = some ob) (ho : All ob) : b = true := by
  unfold chk at hc
  split at hc
  · cases hc; exact ho b (by simp)
  · split at hc
    · rfl
    · cases hc

theorem addr_add (b o n : Nat) : (⟨b, o, none⟩ : Addr).add n = ⟨b, o + n, none⟩ := by unfold Addr.add; split <;> simp_all
theorem add_add' (a : Addr) (i j : Nat) : (a.add i).add j = a.add (i + j) := by
  unfold Addr.add
  by_cases hi : i = 0 <;> by_cases hj : j = 0 <;> simp [hi, hj, Nat.add_assoc]

theorem imm_cell {H : HH} {w : World} (hi : ∀ b o, H false b = some o → w.heap[b]? = some o) (ht : (H true).le (H false)) {b : Bool} {a : Addr} {v : Value} (h : (H b).cell? a = some v) : w.cell? a = some v := by
  have h' : (H false).cell? a = some v := by cases b; exact h; exact IH.le_cell ht h
  unfold IH.cell? at h'
  unfold World.cell?
  cases hb : H false a.block with
  | none => rw [hb] at h'; simp at h'
  | some o =>
    rw [hi _ _ hb]
    rw [hb] at h'
    cases o <;> first | exact h' | simp at h'

theorem HH.at_ok {H : HH} {w : World} (hi : ∀ b o, H false b = some o → w.heap[b]? = some o) (ht : (H true).le (H false)) (b : Bool) :
    (∀ c o, (H.at b) false c = some o → w.heap[c]? = some o) ∧ ((H.at b) true).le ((H.at b) false) := by
  cases b
  · exact ⟨hi, ht⟩
  · exact ⟨fun c o h => hi c o (ht c o h), IH.le_refl _⟩

theorem HH.at_le_self {H : HH} (ht : (H true).le (H false)) (b : Bool) : (H.at b).le H := by
  cases b
  · exact HH.le_refl _
  · intro c; cases c
    · exact ht
    · exact IH.le_refl _
end Go.Ax
