import Derived.Test.YtghhkabankbkoaaAxA
set_option linter.unusedVariables false
set_option linter.unusedSimpArgs false
/-! The store: own blocks, and what a step may do to the world. -/
namespace Go.Ax
open Go

inductive Blk where
  | box (ty : TypeId) (cs : List AV)
  | lst (ty : TypeId) (sz n : Nat) (cap : Option Nat) (cs : List AV)
  | row (ty : TypeId) (sz n : Nat) (cap : Option Nat) (c : Nat → Nat → AV)
  | dead

def getM : List Blk → Nat → Blk
  | [], _ => .dead
  | a :: _, 0 => a
  | _ :: l, n + 1 => getM l n
/-- a block in its place; behind the end it is put at the end -/
def putM : List Blk → Nat → Blk → List Blk
  | [], 0, v => [v]
  | [], n + 1, v => .dead :: putM [] n v
  | _ :: l, 0, v => v :: l
  | a :: l, n + 1, v => a :: putM l n v
theorem getM_nil (i : Nat) : getM [] i = .dead := by cases i <;> rfl
theorem getM_put_same : ∀ (M : List Blk) (i : Nat) (v : Blk), getM (putM M i v) i = v
  | [], 0, _ => rfl
  | [], n + 1, v => getM_put_same [] n v
  | _ :: _, 0, _ => rfl
  | _ :: l, n + 1, v => getM_put_same l n v
theorem getM_put_ne : ∀ (M : List Blk) (i j : Nat) (v : Blk), i ≠ j → getM (putM M i v) j = getM M j
  | [], 0, 0, _, h => absurd rfl h
  | [], 0, j + 1, _, _ => by simp [putM, getM]
  | [], i + 1, 0, _, _ => by simp [putM, getM]
  | [], i + 1, j + 1, v, h => by
    simp only [putM, getM]
    rw [getM_put_ne [] i j v (by omega), getM_nil]
  | _ :: _, 0, 0, _, h => absurd rfl h
  | _ :: _, 0, _ + 1, _, _ => rfl
  | _ :: _, _ + 1, 0, _, _ => rfl
  | _ :: l, i + 1, j + 1, v, h => getM_put_ne l i j v (by omega)

def ones (vs : List Value) : Prop := ∀ x ∈ vs, x.oneCell' = true

def BlkOk (H : HH) (E : Env) (w : World) (i : Nat) : Blk → Prop
  | .dead => E.lv i = false
  | .box ty cs => E.lv i = true ∧ ∃ b vs, E.ι i = some b ∧ w.heap[b]? = some (.cells vs ty (0, 0)) ∧ ones vs.toList ∧ RelL cs H E vs.toList
  | .lst ty sz n cap cs => E.lv i = true ∧ (n = E.η i ∧ n ≤ E.κ i) ∧ E.κ i ≤ maxLen ∧ (∀ q, cap = some q → E.κ i = q) ∧
      match E.ι i with
      | none => E.κ i = 0 ∧ cs = []
      | some b => ∃ vs, w.heap[b]? = some (.cells vs ty (0, 0)) ∧ ones (vs.toList.take (n * sz)) ∧ vs.size = E.κ i * sz ∧ RelL cs H E (vs.toList.take (n * sz))
  | .row ty sz n cap c => E.lv i = true ∧ (n = E.η i ∧ n ≤ E.κ i) ∧ E.κ i ≤ maxLen ∧ (∀ q, cap = some q → E.κ i = q) ∧
      match E.ι i with
      | none => E.κ i = 0
      | some b => ∃ vs, w.heap[b]? = some (.cells vs ty (0, 0)) ∧ ones (vs.toList.take (n * sz)) ∧ vs.size = E.κ i * sz ∧
          ∀ k, k < n → ∀ j, j < sz → ∃ x, vs[k * sz + j]? = some x ∧ Rel (c k j) H E0 x

structure Conc (H : HH) (E : Env) (w : World) (M : List Blk) : Prop where
  imm : ∀ b o, H false b = some o → w.heap[b]? = some o
  tf : (H true).le (H false)
  blk : ∀ i, BlkOk H E w i (getM M i)
  inj : ∀ i j b, E.lv i = true → E.lv j = true → E.ι i = some b → E.ι j = some b → i = j
  sep : ∀ i b, E.lv i = true → E.ι i = some b → H false b = none

theorem IH.lt_of {H : HH} {w : World} (hi : ∀ b o, H false b = some o → w.heap[b]? = some o) {b : Nat} {o : Obj} (h : H false b = some o) : b < w.heap.size :=
  (Array.getElem?_eq_some_iff.1 (hi b o h)).1

theorem BlkOk.lt {H : HH} {E : Env} {w : World} {i b : Nat} {B : Blk} (h : BlkOk H E w i B) (hl : E.lv i = true) (hb : E.ι i = some b) : b < w.heap.size := by
  cases B with
  | dead => simp [BlkOk, hl] at h
  | box ty cs =>
    obtain ⟨_, b', vs, h1, h2, _⟩ := h
    rw [hb] at h1; cases h1
    exact (Array.getElem?_eq_some_iff.1 h2).1
  | lst ty sz n cap cs =>
    obtain ⟨_, _, _, _, h1⟩ := h
    rw [hb] at h1
    obtain ⟨vs, h2, _⟩ := h1
    exact (Array.getElem?_eq_some_iff.1 h2).1
  | row ty sz n cap c =>
    obtain ⟨_, _, _, _, h1⟩ := h
    rw [hb] at h1
    obtain ⟨vs, h2, _⟩ := h1
    exact (Array.getElem?_eq_some_iff.1 h2).1
theorem Conc.lt {H : HH} {E : Env} {w : World} {M : List Blk} (h : Conc H E w M) {i b : Nat} (hl : E.lv i = true) (hb : E.ι i = some b) : b < w.heap.size :=
  (h.blk i).lt hl hb

/-- what becomes of a block's cells under other names of the ids -/
def renB (f : Nat → Option Nat) : Blk → Blk
  | .box ty cs => .box ty (renL f cs)
  | .lst ty sz n cap cs => .lst ty sz n cap (renL f cs)
  | b => b

/-- a block is as it was, in another world, seen by another Env -/
theorem BlkOk.move {H H' : HH} {E E' : Env} {w w' : World} {i i' : Nat} {B : Blk} {f : Nat → Option Nat} (h : BlkOk H E w i B) (hH : H.le H') (hv : E.via E' f)
    (hl : E'.lv i' = E.lv i) (hι : E'.ι i' = E.ι i) (hκ : E'.κ i' = E.κ i) (hη : E'.η i' = E.η i) (hw : ∀ b, E.lv i = true → E.ι i = some b → w'.heap[b]? = w.heap[b]?) : BlkOk H' E' w' i' (renB f B) := by
  cases B with
  | dead => exact hl.trans h
  | box ty cs =>
    obtain ⟨h0, b, vs, h1, h2, h3, h4⟩ := h
    exact ⟨hl.trans h0, b, vs, hι.trans h1, (hw b h0 h1).trans h2, h3, RelL.mono _ hH (RelL.ren _ hv h4)⟩
  | lst ty sz n cap cs =>
    obtain ⟨h0, ha, hb, hc, h1⟩ := h
    refine ⟨hl.trans h0, by rw [hκ, hη]; exact ha, by rw [hκ]; exact hb, by rw [hκ]; exact hc, ?_⟩
    rw [hι, hκ]
    cases hi : E.ι i with
    | none =>
      rw [hi] at h1
      obtain ⟨h2, rfl⟩ := h1
      exact ⟨h2, rfl⟩
    | some b =>
      rw [hi] at h1
      obtain ⟨vs, h2, h3, h4, h5⟩ := h1
      exact ⟨vs, (hw b h0 hi).trans h2, h3, h4, RelL.mono _ hH (RelL.ren _ hv h5)⟩
  | row ty sz n cap c =>
    obtain ⟨h0, ha, hb, hc, h1⟩ := h
    refine ⟨hl.trans h0, by rw [hκ, hη]; exact ha, by rw [hκ]; exact hb, by rw [hκ]; exact hc, ?_⟩
    rw [hι, hκ]
    cases hi : E.ι i with
    | none => rw [hi] at h1; exact h1
    | some b =>
      rw [hi] at h1
      obtain ⟨vs, h2, h3, h4, h5⟩ := h1
      refine ⟨vs, (hw b h0 hi).trans h2, h3, h4, fun k hk j hj => ?_⟩
      obtain ⟨x, hx, hr⟩ := h5 k hk j hj
      exact ⟨x, hx, Rel.mono _ hH hr⟩

structure Evol (mv : List Nat) (H : HH) (E : Env) (w : World) (H' : HH) (E' : Env) (w' : World) : Prop where
  os : w'.os = w.os
  tape : w'.tape = w.tape
  output : w'.output = w.output
  size : w.heap.size ≤ w'.heap.size
  keep : ∀ b, b < w.heap.size → (∀ i, E.lv i = true → E.ι i ≠ some b) → w'.heap[b]? = w.heap[b]?
  own : ∀ i b, E'.lv i = true → E'.ι i = some b → (∃ j, E.lv j = true ∧ E.ι j = some b) ∨ w.heap.size ≤ b
  hh : H.le H'
  new : ∀ c b o, H' c b = some o → H c b = some o ∨ w.heap.size ≤ b ∨ ∃ i, E.lv i = true ∧ E.ι i = some b
  ids : ∀ i, E.lv i = true → i ∉ mv → E'.lv i = true ∧ E'.ι i = E.ι i ∧ E'.κ i = E.κ i ∧ E'.η i = E.η i

theorem Evol.refl (mv : List Nat) (H : HH) (E : Env) (w : World) : Evol mv H E w H E w :=
  ⟨rfl, rfl, rfl, Nat.le_refl _, fun _ _ _ => rfl, fun i _ hl hb => .inl ⟨i, hl, hb⟩, HH.le_refl _, fun _ _ _ h => .inl h, fun _ h _ => ⟨h, rfl, rfl, rfl⟩⟩

theorem Evol.weak {mv mv' : List Nat} {H H' : HH} {E E' : Env} {w w' : World} (h : Evol mv H E w H' E' w') (hm : ∀ i, i ∈ mv → i ∈ mv') : Evol mv' H E w H' E' w' :=
  { h with ids := fun i hl hn => h.ids i hl fun hi => hn (hm i hi) }

theorem Evol.trans {mv mv' : List Nat} {H H1 H2 : HH} {E E1 E2 : Env} {w w1 w2 : World} (h : Evol mv H E w H1 E1 w1) (k : Evol mv' H1 E1 w1 H2 E2 w2) (hm : ∀ i, i ∈ mv → i ∈ mv') :
    Evol mv' H E w H2 E2 w2 where
  os := k.os.trans h.os
  tape := k.tape.trans h.tape
  output := k.output.trans h.output
  size := Nat.le_trans h.size k.size
  keep := fun b hb hn => by
    refine (k.keep b (Nat.lt_of_lt_of_le hb h.size) fun i hl he => ?_).trans (h.keep b hb hn)
    rcases h.own i b hl he with ⟨j, hj, he'⟩ | hge
    · exact hn j hj he'
    · omega
  own := fun i b hl he => by
    rcases k.own i b hl he with ⟨j, hj, he'⟩ | hge
    · exact h.own j b hj he'
    · exact .inr (Nat.le_trans h.size hge)
  hh := HH.le_trans h.hh k.hh
  new := fun c b o ho => by
    rcases k.new c b o ho with h1 | h1 | ⟨i, hi, hb⟩
    · exact h.new c b o h1
    · exact .inr (.inl (Nat.le_trans h.size h1))
    · rcases h.own i b hi hb with h2 | h2
      · exact .inr (.inr h2)
      · exact .inr (.inl h2)
  ids := fun i hl hn => by
    obtain ⟨a1, a2, a3, a4⟩ := h.ids i hl fun hi => hn (hm i hi)
    obtain ⟨b1, b2, b3, b4⟩ := k.ids i a1 hn
    exact ⟨b1, b2.trans a2, b3.trans a3, b4.trans a4⟩

/-- the ids that are not moved keep their names -/
def keepOf (mv : List Nat) (i : Nat) : Option Nat := if mv.contains i then none else some i
theorem Evol.via {mv : List Nat} {H H' : HH} {E E' : Env} {w w' : World} (h : Evol mv H E w H' E' w') : E.via E' (keepOf mv) := by
  intro i j hj hl
  unfold keepOf at hj
  split at hj
  · cases hj
  · rename_i hn
    cases hj
    exact h.ids i hl (by simpa using hn)
def kill (mv : List Nat) (a : AV) : AV := match mv with | [] => a | _ => ren (keepOf mv) a
def killL (mv : List Nat) (l : List AV) : List AV := match mv with | [] => l | _ => renL (keepOf mv) l
def killM (mv : List Nat) (M : List Blk) : List Blk := match mv with | [] => M | _ => M.map (renB (keepOf mv))
theorem keepOf_nil : keepOf [] = some := by funext i; simp [keepOf]
theorem kill_eq (mv : List Nat) (a : AV) : kill mv a = ren (keepOf mv) a := by
  cases mv with
  | nil => rw [keepOf_nil, ren_some]; rfl
  | cons _ _ => rfl
theorem killL_eq (mv : List Nat) (a : List AV) : killL mv a = renL (keepOf mv) a := by
  cases mv with
  | nil => rw [keepOf_nil, renL_some]; rfl
  | cons _ _ => rfl
theorem renB_some (B : Blk) : renB some B = B := by cases B <;> simp [renB, renL_some]
theorem killM_eq (mv : List Nat) (M : List Blk) : killM mv M = M.map (renB (keepOf mv)) := by
  cases mv with
  | nil =>
    rw [keepOf_nil]
    have : renB some = id := funext renB_some
    simp [killM, this]
  | cons _ _ => rfl
theorem getM_map (g : Blk → Blk) (hg : g .dead = .dead) : ∀ (M : List Blk) (i : Nat), getM (M.map g) i = g (getM M i)
  | [], i => by simp [getM_nil, hg]
  | _ :: _, 0 => rfl
  | _ :: l, i + 1 => getM_map g hg l i
theorem getM_kill (mv : List Nat) (M : List Blk) (i : Nat) : getM (killM mv M) i = renB (keepOf mv) (getM M i) := by
  rw [killM_eq, getM_map _ rfl]

theorem Evol.rel {mv : List Nat} {H H' : HH} {E E' : Env} {w w' : World} (h : Evol mv H E w H' E' w') {a : AV} {v : Value} (hr : Rel a H E v) : Rel (kill mv a) H' E' v := by
  rw [kill_eq]; exact Rel.mono _ h.hh (Rel.ren _ h.via hr)
theorem Evol.relL {mv : List Nat} {H H' : HH} {E E' : Env} {w w' : World} (h : Evol mv H E w H' E' w') {a : List AV} {v : List Value} (hr : RelL a H E v) : RelL (killL mv a) H' E' v := by
  rw [killL_eq]; exact RelL.mono _ h.hh (RelL.ren _ h.via hr)

/-- one block of the world is another, else nothing -/
structure Upd (w w' : World) (b : Nat) (o : Obj) : Prop where
  os : w'.os = w.os
  tape : w'.tape = w.tape
  output : w'.output = w.output
  size : w'.heap.size = w.heap.size
  same : w'.heap[b]? = some o
  other : ∀ k, k ≠ b → w'.heap[k]? = w.heap[k]?

/-- a block of one's own is written -/
theorem Conc.upd {H : HH} {E : Env} {w w' : World} {M : List Blk} (h : Conc H E w M) {i b : Nat} {o : Obj} {B : Blk} (hl : E.lv i = true) (hb : E.ι i = some b) (hu : Upd w w' b o)
    (hB : BlkOk H E w' i B) : Conc H E w' (putM M i B) ∧ Evol [] H E w H E w' := by
  have hother : ∀ j, j ≠ i → ∀ c, E.lv j = true → E.ι j = some c → w'.heap[c]? = w.heap[c]? := by
    intro j hj c hlj hc
    exact hu.other c fun e => hj (h.inj j i b hlj hl (e ▸ hc) hb)
  refine ⟨⟨fun c x hx => ?_, h.tf, fun j => ?_, h.inj, h.sep⟩, ⟨hu.os, hu.tape, hu.output, by rw [hu.size]; exact Nat.le_refl _, fun c hc hn => ?_, fun j c hj hc => .inl ⟨j, hj, hc⟩, HH.le_refl _, fun _ _ _ hx => .inl hx, fun _ hx _ => ⟨hx, rfl, rfl, rfl⟩⟩⟩
  · rw [hu.other c fun e => by subst e; rw [h.sep i c hl hb] at hx; cases hx]
    exact h.imm c x hx
  · by_cases hj : i = j
    · subst hj; rw [getM_put_same]; exact hB
    · rw [getM_put_ne _ _ _ _ hj]
      have := (h.blk j).move (f := some) (H' := H) (E' := E) (w' := w') (i' := j) (HH.le_refl _) (fun a c hc hl => by cases hc; exact ⟨hl, rfl, rfl, rfl⟩) rfl rfl rfl rfl (hother j fun e => hj e.symm)
      rwa [renB_some] at this
  · exact hu.other c fun e => hn i hl (by rw [hb, e])

def Env.set (E : Env) (i : Nat) (b : Option Nat) (κ η : Nat) : Env :=
  ⟨fun j => if j = i then true else E.lv j, fun j => if j = i then b else E.ι j, fun j => if j = i then κ else E.κ j, fun j => if j = i then η else E.η j⟩
theorem Env.set_same (E : Env) (i : Nat) (b : Option Nat) (κ η : Nat) : (E.set i b κ η).lv i = true ∧ (E.set i b κ η).ι i = b ∧ (E.set i b κ η).κ i = κ ∧ (E.set i b κ η).η i = η := by simp [Env.set]
theorem Env.set_ne (E : Env) (i j : Nat) (b : Option Nat) (κ η : Nat) (h : j ≠ i) : (E.set i b κ η).lv j = E.lv j ∧ (E.set i b κ η).ι j = E.ι j ∧ (E.set i b κ η).κ j = E.κ j ∧ (E.set i b κ η).η j = E.η j := by simp [Env.set, h]

/-- a new block under an id that is dead -/
theorem Conc.new {H : HH} {E : Env} {w w' : World} {M : List Blk} (h : Conc H E w M) {i κ η : Nat} {bo : Option Nat} {B : Blk} (hd : getM M i = .dead)
    (hos : w'.os = w.os) (ht : w'.tape = w.tape) (hout : w'.output = w.output) (hs : w.heap.size ≤ w'.heap.size) (hk : ∀ b, b < w.heap.size → w'.heap[b]? = w.heap[b]?)
    (hb : ∀ b, bo = some b → w.heap.size ≤ b) (hB : BlkOk H (E.set i bo κ η) w' i B) : Conc H (E.set i bo κ η) w' (putM M i B) ∧ Evol [] H E w H (E.set i bo κ η) w' := by
  have hdead : E.lv i = false := by have := h.blk i; rw [hd] at this; exact this
  have hne : ∀ j, E.lv j = true → j ≠ i := by rintro j hj rfl; rw [hdead] at hj; cases hj
  have hvia : E.via (E.set i bo κ η) some := by
    intro a c hc hl
    cases hc
    obtain ⟨e1, e2, e3, e4⟩ := E.set_ne i a bo κ η (hne a hl)
    exact ⟨e1.trans hl, e2, e3, e4⟩
  refine ⟨⟨fun c x hx => ?_, h.tf, fun j => ?_, fun a c b' ha hc hba hbc => ?_, fun a b' ha hba => ?_⟩, ⟨hos, ht, hout, hs, fun c hc _ => hk c hc, fun j c hj hc => ?_, HH.le_refl _, fun _ _ _ hx => .inl hx, fun j hj _ => ?_⟩⟩
  · rw [hk c (IH.lt_of h.imm hx)]; exact h.imm c x hx
  · by_cases hj : i = j
    · subst hj; rw [getM_put_same]; exact hB
    · rw [getM_put_ne _ _ _ _ hj]
      obtain ⟨e1, e2, e3, e4⟩ := E.set_ne i j bo κ η fun e => hj e.symm
      have := (h.blk j).move (f := some) (H' := H) (E' := E.set i bo κ η) (w' := w') (i' := j) (HH.le_refl _) hvia e1 e2 e3 e4 fun b hl hb => hk b (h.lt hl hb)
      rwa [renB_some] at this
  · by_cases h1 : a = i
    · by_cases h2 : c = i
      · exact h1.trans h2.symm
      · subst h1
        obtain ⟨e1, e2, _⟩ := E.set_ne a c bo κ η h2
        rw [(E.set_same a bo κ η).2.1] at hba
        have := h.lt (e1 ▸ hc) (e2 ▸ hbc)
        have := hb b' hba
        omega
    · by_cases h2 : c = i
      · subst h2
        obtain ⟨e1, e2, _⟩ := E.set_ne c a bo κ η h1
        rw [(E.set_same c bo κ η).2.1] at hbc
        have := h.lt (e1 ▸ ha) (e2 ▸ hba)
        have := hb b' hbc
        omega
      · obtain ⟨e1, e2, _⟩ := E.set_ne i a bo κ η h1
        obtain ⟨f1, f2, _⟩ := E.set_ne i c bo κ η h2
        exact h.inj a c b' (e1 ▸ ha) (f1 ▸ hc) (e2 ▸ hba) (f2 ▸ hbc)
  · by_cases h1 : a = i
    · subst h1
      rw [(E.set_same a bo κ η).2.1] at hba
      cases hx : H false b' with
      | none => rfl
      | some o => have := IH.lt_of h.imm hx; have := hb b' hba; omega
    · obtain ⟨e1, e2, _⟩ := E.set_ne i a bo κ η h1
      exact h.sep a b' (e1 ▸ ha) (e2 ▸ hba)
  · by_cases h1 : j = i
    · subst h1
      rw [(E.set_same j bo κ η).2.1] at hc
      exact .inr (hb c hc)
    · obtain ⟨e1, e2, _⟩ := E.set_ne i j bo κ η h1
      exact .inl ⟨j, e1 ▸ hj, e2 ▸ hc⟩
  · obtain ⟨e1, e2, e3⟩ := E.set_ne i j bo κ η (hne j hj)
    exact ⟨e1.trans hj, e2, e3.1, e3.2⟩
end Go.Ax
