import Derived.Test.YtghhkabankbkoaaAxN
import Derived.Orders
set_option linter.unusedVariables false
set_option linter.unusedSimpArgs false
/-! Regions whose order is drawn: each operation's effect is reckoned once, in the order of the text; effects that the text leaves unordered must not see each other. -/
namespace Go.Ax
open Go

def mem : List Nat → Nat → Bool
  | [], _ => false
  | a :: l, i => Nat.beq a i || mem l i
theorem mem_iff : ∀ {l : List Nat} {i : Nat}, mem l i = true ↔ i ∈ l
  | [], i => by simp [mem]
  | a :: l, i => by
    simp only [mem, Bool.or_eq_true, Nat.beq_eq, List.mem_cons, mem_iff (l := l)]
    exact or_congr_left eq_comm
def disj : List Nat → List Nat → Bool
  | [], _ => true
  | a :: l, r => !mem r a && disj l r
theorem disj_ok : ∀ {l r : List Nat}, disj l r = true → ∀ i ∈ l, i ∉ r
  | [], _, _, i, hi => by cases hi
  | a :: l, r, h, i, hi => by
    simp [disj] at h
    rcases List.mem_cons.1 hi with rfl | hi
    · intro hr
      have := mem_iff.2 hr
      rw [h.1] at this; cases this
    · exact disj_ok h.2 i hi

/-- what an operation of a drawn region comes to -/
structure DE where
  pm : Nat
  dst : Option Nat
  look : List Nat
  rd : List Nat
  r : AV
  wr : List (Nat × Blk)
  kl : List Nat
  ob : List Prop

def ids (l : List (Nat × Blk)) : List Nat := match l with | [] => [] | p :: r => p.1 :: ids r
theorem ids_eq (l : List (Nat × Blk)) : ids l = l.map (·.1) := by induction l with | nil => rfl | cons p r ih => simp [ids, ih]
def DE.stp (d : DE) (m : List Blk) : Stp := ⟨d.r, applyW d.wr (killM d.kl m), d.kl, d.ob⟩
def DE.app (d : DE) (s : St) : St := s.app d.dst (d.stp s.m)

def alike (d : DE) (s s' : St) : Prop := s.t.length = s'.t.length ∧ (∀ t ∈ d.look, get s.t t = get s'.t t) ∧ ∀ i ∈ d.rd, getM s.m i = getM s'.m i
theorem alike.refl (d : DE) (s : St) : alike d s s := ⟨rfl, fun _ _ => rfl, fun _ _ => rfl⟩
theorem alike.symm {d : DE} {s s' : St} (h : alike d s s') : alike d s' s := ⟨h.1.symm, fun t ht => (h.2.1 t ht).symm, fun i hi => (h.2.2 i hi).symm⟩
theorem alike.trans {d : DE} {s s' s2 : St} (h : alike d s s') (k : alike d s' s2) : alike d s s2 :=
  ⟨h.1.trans k.1, fun t ht => (h.2.1 t ht).trans (k.2.1 t ht), fun i hi => (h.2.2 i hi).trans (k.2.2 i hi)⟩

def sees (p q : DE) : Bool := (match p.dst with | some d => mem q.look d | none => false) || !disj (ids p.wr) q.rd
def compat (p q : DE) : Bool := (match p.kl, q.kl with | [], [] => true | _, _ => false) && !sees p q && !sees q p && disj (ids p.wr) (ids q.wr) && (match p.dst, q.dst with | some a, some b => !Nat.beq a b | _, _ => true)

theorem length_renL (f : Nat → Option Nat) : ∀ l : List AV, (renL f l).length = l.length
  | [] => rfl
  | _ :: l => by simp [renL, length_renL f l]
theorem get_renL (f : Nat → Option Nat) : ∀ (l : List AV) (i : Nat), get (renL f l) i = ren f (get l i)
  | [], _ => by simp [renL, get, ren]
  | _ :: _, 0 => rfl
  | _ :: l, n + 1 => get_renL f l n
theorem length_killL (k : List Nat) (l : List AV) : (killL k l).length = l.length := by rw [killL_eq, length_renL]
theorem get_killL (k : List Nat) (l : List AV) (i : Nat) : get (killL k l) i = kill k (get l i) := by rw [killL_eq, get_renL, kill_eq]
theorem length_putT (t : List AV) (d : Option Nat) (v : AV) : (putT t d v).length = t.length := by cases d <;> simp [putT, length_set]
theorem get_putT (t : List AV) (d : Option Nat) (v : AV) (j : Nat) : get (putT t d v) j = if d = some j ∧ j < t.length then v else get t j := by
  cases d with
  | none => simp [putT]
  | some i =>
    simp only [putT, get_set, Option.some.injEq]
    by_cases h : i = j
    · subst h; rfl
    · simp [h]
/-- the last that is written to an id -/
def lastW : List (Nat × Blk) → Nat → Option Blk
  | [], _ => none
  | (i, B) :: r, j => match lastW r j with | some b => some b | none => if i = j then some B else none
theorem getM_applyW : ∀ (l : List (Nat × Blk)) (M : List Blk) (j : Nat), getM (applyW l M) j = (lastW l j).getD (getM M j)
  | [], _, _ => rfl
  | (i, B) :: r, M, j => by
    simp only [applyW, lastW]
    rw [getM_applyW r]
    cases h : lastW r j with
    | some b => rfl
    | none =>
      by_cases hij : i = j
      · subst hij; simp [getM_put_same]
      · simp [hij, getM_put_ne _ _ _ _ hij]
theorem lastW_none : ∀ {l : List (Nat × Blk)} {j : Nat}, j ∉ ids l → lastW l j = none
  | [], _, _ => rfl
  | (i, B) :: r, j, h => by
    simp [ids] at h
    simp [lastW, lastW_none h.2, Ne.symm h.1]

theorem app_t (d : DE) (s : St) (j : Nat) : get (d.app s).t j = if d.dst = some j ∧ j < s.t.length then d.r else kill d.kl (get s.t j) := by
  simp only [DE.app, DE.stp, St.app, get_putT, length_killL, get_killL]
theorem app_m (d : DE) (s : St) (j : Nat) : getM (d.app s).m j = (lastW d.wr j).getD (renB (keepOf d.kl) (getM s.m j)) := by
  simp only [DE.app, DE.stp, St.app, getM_kill, getM_applyW]
theorem app_len (d : DE) (s : St) : (d.app s).t.length = s.t.length := by simp only [DE.app, DE.stp, St.app, length_putT, length_killL]

theorem alike.app {d e : DE} {s s' : St} (h : alike d s s') : alike d (e.app s) (e.app s') := by
  refine ⟨by rw [app_len, app_len]; exact h.1, fun t ht => ?_, fun i hi => ?_⟩
  · rw [app_t, app_t, h.1, h.2.1 t ht]
  · rw [app_m, app_m, h.2.2 i hi]
theorem alike.away {d e : DE} {s s' : St} (hk : e.kl = []) (hs : sees e d = false) (h : alike d s s') : alike d (e.app s) s' := by
  simp only [sees, Bool.or_eq_false_iff, Bool.not_eq_false'] at hs
  refine ⟨by rw [app_len]; exact h.1, fun t ht => ?_, fun i hi => ?_⟩
  · rw [app_t, hk]
    have : e.dst ≠ some t := by
      intro he
      rw [he] at hs
      have := mem_iff.2 ht
      simp only at hs
      rw [hs.1] at this; cases this
    simp only [this, false_and, if_false, kill]
    exact h.2.1 t ht
  · rw [app_m, hk, keepOf_nil, renB_some]
    rw [lastW_none (fun hw => disj_ok hs.2 i hw hi)]
    exact h.2.2 i hi

/-- the same to all who look -/
def St.eqv (s s' : St) : Prop := s.t = s'.t ∧ ∀ i, getM s.m i = getM s'.m i
theorem list_ext {l l' : List AV} (hl : l.length = l'.length) (h : ∀ i, get l i = get l' i) : l = l' := by
  induction l generalizing l' with
  | nil => cases l' with | nil => rfl | cons => simp at hl
  | cons a l ih =>
    cases l' with
    | nil => simp at hl
    | cons b l' =>
      have h0 := h 0
      simp only [get] at h0
      subst h0
      rw [ih (by simpa using hl) fun i => h (i + 1)]
theorem St.eqv.refl (s : St) : s.eqv s := ⟨rfl, fun _ => rfl⟩
theorem St.eqv.trans {s s' s2 : St} (h : s.eqv s') (k : s'.eqv s2) : s.eqv s2 := ⟨h.1.trans k.1, fun i => (h.2 i).trans (k.2 i)⟩
theorem St.eqv.app {s s' : St} (d : DE) (h : s.eqv s') : (d.app s).eqv (d.app s') :=
  ⟨list_ext (by rw [app_len, app_len, h.1]) fun i => by rw [app_t, app_t, h.1], fun i => by rw [app_m, app_m, h.2]⟩
theorem app_comm {p q : DE} (h : compat p q = true) (s : St) : (p.app (q.app s)).eqv (q.app (p.app s)) := by
  simp only [compat, Bool.and_eq_true, Bool.not_eq_true'] at h
  obtain ⟨⟨⟨⟨hk, h1⟩, h2⟩, h3⟩, h4⟩ := h
  have hk' : p.kl = [] ∧ q.kl = [] := by
    cases hp : p.kl <;> cases hq : q.kl <;> simp [hp, hq] at hk <;> exact ⟨rfl, rfl⟩
  refine ⟨list_ext (by rw [app_len, app_len, app_len, app_len]) fun i => ?_, fun i => ?_⟩
  · rw [app_t, app_t, app_t, app_t, app_len, app_len, hk'.1, hk'.2]
    simp only [kill]
    by_cases a : p.dst = some i
    · by_cases b : q.dst = some i
      · rw [a, b] at h4; simp at h4
      · simp [b]
    · simp [a]
  · rw [app_m, app_m, app_m, app_m, hk'.1, hk'.2, keepOf_nil]
    simp only [renB_some]
    by_cases a : i ∈ ids p.wr
    · rw [lastW_none (disj_ok h3 i a)]; rfl
    · rw [lastW_none a]; rfl
theorem compat_kl {p q : DE} (h : compat p q = true) : p.kl = [] ∧ q.kl = [] ∧ sees p q = false ∧ sees q p = false := by
  simp only [compat, Bool.and_eq_true, Bool.not_eq_true'] at h
  obtain ⟨⟨⟨⟨hk, h1⟩, h2⟩, h3⟩, h4⟩ := h
  have hk' : p.kl = [] ∧ q.kl = [] := by
    cases hp : p.kl <;> cases hq : q.kl <;> simp [hp, hq] at hk <;> exact ⟨rfl, rfl⟩
  exact ⟨hk'.1, hk'.2, h1, h2⟩

/-- what some of the operations leave, in the order of the text -/
def foldX : List DE → Nat → (Nat → Bool) → St → St
  | [], _, _, s => s
  | d :: r, p, X, s => foldX r (p + 1) X (if X p then d.app s else s)

theorem foldX_eqv : ∀ (l : List DE) (p : Nat) (X : Nat → Bool) {s s' : St}, s.eqv s' → (foldX l p X s).eqv (foldX l p X s')
  | [], _, _, _, _, h => h
  | d :: r, p, X, s, s', h => by
    simp only [foldX]
    refine foldX_eqv r _ X ?_
    split
    · exact h.app d
    · exact h
theorem foldX_congr : ∀ (l : List DE) (p : Nat) {X Y : Nat → Bool} (s : St), (∀ k, p ≤ k → k < p + l.length → X k = Y k) → foldX l p X s = foldX l p Y s
  | [], _, _, _, _, _ => rfl
  | d :: r, p, X, Y, s, h => by
    simp only [foldX]
    rw [h p (Nat.le_refl _) (by simp), foldX_congr r (p + 1) _ fun k h1 h2 => h k (by omega) (by simp; omega)]
theorem foldX_none : ∀ (l : List DE) (p : Nat) {X : Nat → Bool} (s : St), (∀ k, p ≤ k → X k = false) → foldX l p X s = s
  | [], _, _, _, _ => rfl
  | d :: r, p, X, s, h => by
    simp only [foldX]
    rw [h p (Nat.le_refl _), foldX_none r (p + 1) _ fun k hk => h k (by omega)]
    rfl
theorem foldX_append : ∀ (l r : List DE) (p : Nat) (X : Nat → Bool) (s : St), foldX (l ++ r) p X s = foldX r (p + l.length) X (foldX l p X s)
  | [], _, _, _, _ => rfl
  | d :: l, r, p, X, s => by
    simp only [List.cons_append, foldX]
    rw [foldX_append l r]
    simp [Nat.add_assoc, Nat.add_comm 1]

/-- an effect moves over those that do not see it -/
theorem foldX_over : ∀ (l : List DE) (p : Nat) (X : Nat → Bool) (d : DE) (s : St), (∀ k dk, l[k]? = some dk → X (p + k) = true → compat dk d = true) → (foldX l p X (d.app s)).eqv (d.app (foldX l p X s))
  | [], _, _, d, s, _ => St.eqv.refl _
  | e :: r, p, X, d, s, h => by
    simp only [foldX]
    have hr : ∀ k dk, r[k]? = some dk → X (p + 1 + k) = true → compat dk d = true := fun k dk hk hX => h (k + 1) dk (by simpa using hk) (by rw [show p + (k + 1) = p + 1 + k by omega]; exact hX)
    split
    · rename_i hX
      have hc := h 0 e (by simp) (by simpa using hX)
      exact (foldX_eqv r _ X (app_comm hc s)).trans (foldX_over r (p + 1) X d (e.app s) hr)
    · exact foldX_over r (p + 1) X d s hr
def ins (X : Nat → Bool) (q : Nat) (k : Nat) : Bool := if k = q then true else X k
theorem foldX_ins : ∀ (l : List DE) (p : Nat) (X : Nat → Bool) (q : Nat) (d : DE) (s : St), p ≤ q → l[q - p]? = some d → X q = false →
    (∀ k dk, l[k]? = some dk → q < p + k → X (p + k) = true → compat dk d = true) → (foldX l p (ins X q) s).eqv (d.app (foldX l p X s))
  | [], _, _, _, _, _, _, hd, _, _ => by simp at hd
  | e :: r, p, X, q, d, s, hpq, hd, hq, h => by
    simp only [foldX]
    by_cases hp : p = q
    · subst hp
      simp at hd
      subst hd
      simp only [ins, if_pos, hq]
      rw [foldX_congr r (p + 1) (X := ins X p) (Y := X) _ fun k h1 h2 => by simp [ins]; omega]
      exact foldX_over r (p + 1) X e s fun k dk hk hX => h (k + 1) dk (by simpa using hk) (by omega) (by rw [show p + (k + 1) = p + 1 + k by omega]; exact hX)
    · have : ins X q p = X p := by simp [ins, hp]
      rw [this]
      refine foldX_ins r (p + 1) X q d _ (by omega) ?_ hq fun k dk hk hl hX => h (k + 1) dk (by simpa using hk) (by omega) (by rw [show p + (k + 1) = p + 1 + k by omega]; exact hX)
      rw [show q - p = (q - (p + 1)) + 1 by omega] at hd
      simpa using hd
/-- two selections of what went by look alike to q -/
theorem foldX_alike : ∀ (l : List DE) (p : Nat) (Z Y : Nat → Bool) (d : DE) (s s' : St), alike d s s' →
    (∀ j dj, l[j]? = some dj → Y (p + j) = true → Z (p + j) = true → alike dj s s') →
    (∀ k dk, l[k]? = some dk → Z (p + k) = true → Y (p + k) = false → dk.kl = [] ∧ sees dk d = false ∧ ∀ j dj, k < j → l[j]? = some dj → Y (p + j) = true → Z (p + j) = true → sees dk dj = false) →
    (∀ k dk, l[k]? = some dk → Z (p + k) = false → Y (p + k) = true → dk.kl = [] ∧ sees dk d = false ∧ ∀ j dj, k < j → l[j]? = some dj → Y (p + j) = true → Z (p + j) = true → sees dk dj = false) →
    alike d (foldX l p Z s) (foldX l p Y s')
  | [], _, _, _, _, _, _, h, _, _, _ => h
  | e :: r, p, Z, Y, d, s, s', h, hj, h1, h2 => by
    simp only [foldX]
    have e1 : ∀ k, p + 1 + k = p + (k + 1) := fun k => by omega
    have g1 : ∀ k dk, r[k]? = some dk → Z (p + 1 + k) = true → Y (p + 1 + k) = false → dk.kl = [] ∧ sees dk d = false ∧ ∀ j dj, k < j → r[j]? = some dj → Y (p + 1 + j) = true → Z (p + 1 + j) = true → sees dk dj = false := by
      intro k dk hk hz hy
      rw [e1] at hz hy
      obtain ⟨a, b, c⟩ := h1 (k + 1) dk (by simpa using hk) hz hy
      exact ⟨a, b, fun j dj hkj hj hY hZ => c (j + 1) dj (by omega) (by simpa using hj) (by rw [e1] at hY; exact hY) (by rw [e1] at hZ; exact hZ)⟩
    have g2 : ∀ k dk, r[k]? = some dk → Z (p + 1 + k) = false → Y (p + 1 + k) = true → dk.kl = [] ∧ sees dk d = false ∧ ∀ j dj, k < j → r[j]? = some dj → Y (p + 1 + j) = true → Z (p + 1 + j) = true → sees dk dj = false := by
      intro k dk hk hz hy
      rw [e1] at hz hy
      obtain ⟨a, b, c⟩ := h2 (k + 1) dk (by simpa using hk) hz hy
      exact ⟨a, b, fun j dj hkj hj hY hZ => c (j + 1) dj (by omega) (by simpa using hj) (by rw [e1] at hY; exact hY) (by rw [e1] at hZ; exact hZ)⟩
    have gj : ∀ j dj, r[j]? = some dj → Y (p + 1 + j) = true → Z (p + 1 + j) = true → alike dj s s' := fun j dj hjj hY hZ =>
      hj (j + 1) dj (by simpa using hjj) (by rw [e1] at hY; exact hY) (by rw [e1] at hZ; exact hZ)
    cases hz : Z p <;> cases hy : Y p <;> simp only [if_true, Bool.false_eq_true, if_false]
    · exact foldX_alike r (p + 1) Z Y d s s' h gj g1 g2
    · obtain ⟨a, b, c⟩ := h2 0 e (by simp) (by simpa using hz) (by simpa using hy)
      exact foldX_alike r (p + 1) Z Y d s _ (h.symm.away a b).symm (fun j dj hjj hY hZ => ((gj j dj hjj hY hZ).symm.away a (c (j + 1) dj (by omega) (by simpa using hjj) (by rw [e1] at hY; exact hY) (by rw [e1] at hZ; exact hZ))).symm) g1 g2
    · obtain ⟨a, b, c⟩ := h1 0 e (by simp) (by simpa using hz) (by simpa using hy)
      exact foldX_alike r (p + 1) Z Y d _ s' (h.away a b) (fun j dj hjj hY hZ => (gj j dj hjj hY hZ).away a (c (j + 1) dj (by omega) (by simpa using hjj) (by rw [e1] at hY; exact hY) (by rw [e1] at hZ; exact hZ))) g1 g2
    · exact foldX_alike r (p + 1) Z Y d _ _ h.app (fun j dj hjj hY hZ => (gj j dj hjj hY hZ).app) g1 g2
end Go.Ax
