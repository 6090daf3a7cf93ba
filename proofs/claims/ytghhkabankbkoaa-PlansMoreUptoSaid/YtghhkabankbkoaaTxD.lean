import Derived.Test.YtghhkabankbkoaaTxC
set_option linter.unusedVariables false
set_option linter.unusedSimpArgs false
/-! States, answers: what says less. -/
namespace Go.Ax
open Go

def capLe : Option Nat → Option Nat → Bool
  | _, none => true
  | some a, some b => Nat.beq a b
  | none, some _ => false
def lstLe (sz n : Nat) (cs : List AV) (c' : Nat → Nat → AV) : Prop := ∀ k, k < n → ∀ j, j < sz → le0 (get cs (k * sz + j)) (c' k j) ∧ noRef (c' k j) = true
def Blk.le : Blk → Blk → Prop
  | _, .dead => True
  | .box ty cs, .box ty' cs' => (match Nat.beq ty ty' with | true => leL cs cs' | false => False)
  | .lst ty sz n cap cs, .lst ty' sz' n' cap' cs' => (match Nat.beq ty ty' && Nat.beq sz sz' && Nat.beq n n' && capLe cap cap' with | true => leL cs cs' | false => False)
  | .lst ty sz n cap cs, .row ty' sz' n' cap' c' => (match Nat.beq ty ty' && Nat.beq sz sz' && capLe cap cap' with | true => n = n' ∧ lstLe sz n cs c' | false => False)
  | .row ty sz n cap c, .row ty' sz' n' cap' c' => (match Nat.beq ty ty' && Nat.beq sz sz' && capLe cap cap' with | true => n = n' ∧ contLe n sz c c' | false => False)
  | _, _ => False
def leM : List Blk → List Blk → Prop
  | _, [] => True
  | [], b :: bs => (match b with | .dead => leM [] bs | _ => False)
  | a :: as, b :: bs => (match b with | .dead => leM as bs | b => a.le b ∧ leM as bs)
theorem le_dead (B : Blk) : B.le .dead := by cases B <;> trivial
theorem leM_get : ∀ {M M' : List Blk}, leM M M' → ∀ i, (getM M i).le (getM M' i)
  | M, [], _, i => by rw [getM_nil]; exact le_dead _
  | [], b :: bs, h, i => by
    cases b <;> simp only [leM] at h <;> try exact h.elim
    cases i with
    | zero => exact le_dead _
    | succ i => simpa [getM, getM_nil] using leM_get h i
  | a :: as, b :: bs, h, i => by
    have h2 : a.le b ∧ leM as bs := by
      cases b with
      | dead => exact ⟨le_dead _, h⟩
      | _ => exact h
    cases i with
    | zero => exact h2.1
    | succ i => exact leM_get h2.2 i

def liveB (M : List Blk) (i : Nat) : Bool := match getM M i with | .dead => false | _ => true
mutual
def okA (lv : Nat → Bool) : AV → Bool
  | .ptr i _ _ _ => lv i
  | .own i _ _ _ => lv i
  | .agg cs => okL lv cs
  | .tup cs => okL lv cs
  | .fn _ a b => okL lv a && okL lv b
  | .ifc _ a => okA lv a
  | _ => true
def okL (lv : Nat → Bool) : List AV → Bool
  | [] => true
  | a :: r => okA lv a && okL lv r
end
def keepL (lv : Nat → Bool) (i : Nat) : Option Nat := if lv i then some i else none
mutual
theorem ren_ok (lv : Nat → Bool) : ∀ a : AV, okA lv a = true → ren (keepL lv) a = a
  | .s _, _ | .y _, _ | .junk, _ | .sl .., _ | .ys .., _ | .yn .., _ | .ip .., _ => rfl
  | .ptr i k sz o, h => by simp only [okA] at h; simp [ren, keepL, h]
  | .own i sz lo n, h => by simp only [okA] at h; simp [ren, keepL, h]
  | .agg cs, h => by simp only [okA] at h; simp [ren, renL_ok lv cs h]
  | .tup cs, h => by simp only [okA] at h; simp [ren, renL_ok lv cs h]
  | .fn f a b, h => by simp only [okA, Bool.and_eq_true] at h; simp [ren, renL_ok lv a h.1, renL_ok lv b h.2]
  | .ifc t a, h => by simp only [okA] at h; simp [ren, ren_ok lv a h]
theorem renL_ok (lv : Nat → Bool) : ∀ l : List AV, okL lv l = true → renL (keepL lv) l = l
  | [], _ => rfl
  | a :: r, h => by simp only [okL, Bool.and_eq_true] at h; simp [renL, ren_ok lv a h.1, renL_ok lv r h.2]
end
def okB (lv : Nat → Bool) : Blk → Bool
  | .box _ cs => okL lv cs
  | .lst _ _ _ _ cs => okL lv cs
  | _ => true
def okMs (lv : Nat → Bool) : List Blk → Bool
  | [] => true
  | b :: r => okB lv b && okMs lv r
theorem okMs_get {lv : Nat → Bool} : ∀ {M : List Blk}, okMs lv M = true → ∀ i, okB lv (getM M i) = true
  | [], _, i => by rw [getM_nil]; rfl
  | b :: r, h, i => by
    simp only [okMs, Bool.and_eq_true] at h
    cases i with
    | zero => exact h.1
    | succ i => exact okMs_get h.2 i
/-- the ids of blocks that are let go -/
def drops : List Blk → List Blk → Nat → List Nat
  | [], _, _ => []
  | a :: as, l, i => (match a, l with
    | .dead, _ => drops as l.tail (i + 1)
    | _, .dead :: _ => i :: drops as l.tail (i + 1)
    | _, [] => i :: drops as [] (i + 1)
    | _, _ => drops as l.tail (i + 1))
theorem drops_mem : ∀ {M M' : List Blk} {p : Nat} (i : Nat), getM M i ≠ .dead → getM M' i = .dead → p + i ∈ drops M M' p
  | [], _, _, i, h, _ => absurd (getM_nil i) h
  | a :: as, l, p, 0, h, h' => by
    have h : a ≠ .dead := h
    cases l with
    | nil => cases a <;> first | exact absurd rfl h | simp [drops]
    | cons b bs =>
      have h' : b = .dead := h'
      subst h'
      cases a <;> first | exact absurd rfl h | simp [drops]
  | a :: as, l, p, i + 1, h, h' => by
    have h1 : getM l.tail i = .dead := by
      cases l with
      | nil => exact getM_nil i
      | cons b bs => exact h'
    have := drops_mem (M := as) (M' := l.tail) (p := p + 1) i h h1
    rw [show p + 1 + i = p + (i + 1) by omega] at this
    simp only [drops]
    split
    · exact this
    · exact List.mem_cons_of_mem _ this
    · exact List.mem_cons_of_mem _ this
    · exact this

theorem blk_le {H : HH} {E E' : Env} {w : World} {i : Nat} {B B' : Blk} {lv : Nat → Bool} (h : BlkOk H E w i B) (hle : B.le B') (hok : okB lv B' = true) (hv : E.via E' (keepL lv)) (hne : B' ≠ .dead) (hl : E'.lv i = E.lv i) (hι : E'.ι i = E.ι i) (hκ : E'.κ i = E.κ i) (hη : E'.η i = E.η i) : BlkOk H E' w i B' := by
  have hL : ∀ {cs cs' : List AV} {vs : List Value}, leL cs cs' → okL lv cs' = true → RelL cs H E vs → RelL cs' H E' vs := fun h1 h2 h3 => by
    have := RelL.ren _ hv (relL_le _ h1 h3)
    rwa [renL_ok lv _ h2] at this
  have hcap : ∀ {c c' : Option Nat} {m : Nat}, capLe c c' = true → (∀ q, c = some q → m = q) → ∀ q, c' = some q → m = q := by
    intro c c' m h1 h2 q hq
    subst hq
    cases c with
    | none => cases h1
    | some a => rw [h2 a rfl]; exact Nat.eq_of_beq_eq_true h1
  cases B with
  | dead => cases B' <;> first | exact absurd rfl hne | exact hle.elim
  | box ty cs =>
    cases B' with
    | box ty' cs' =>
      simp only [Blk.le] at hle
      split at hle
      case h_2 => exact hle.elim
      rename_i ht
      have ht := Nat.eq_of_beq_eq_true ht
      subst ht
      obtain ⟨h0, b, vs, h1, h2, h3, h4⟩ := h
      exact ⟨hl.trans h0, b, vs, hι.trans h1, h2, h3, hL hle hok h4⟩
    | dead => exact absurd rfl hne
    | _ => exact hle.elim
  | lst ty sz n cap cs =>
    obtain ⟨h0, ha, hb, hc, h1⟩ := h
    cases B' with
    | lst ty' sz' n' cap' cs' =>
      simp only [Blk.le] at hle
      split at hle
      case h_2 => exact hle.elim
      rename_i ht
      simp only [Bool.and_eq_true, Nat.beq_eq] at ht
      obtain ⟨⟨⟨rfl, rfl⟩, rfl⟩, hcl⟩ := ht
      refine ⟨hl.trans h0, by rw [hκ, hη]; exact ha, by rw [hκ]; exact hb, by rw [hκ]; exact hcap hcl hc, ?_⟩
      rw [hι, hκ]
      cases hi : E.ι i with
      | none =>
        rw [hi] at h1
        refine ⟨h1.1, ?_⟩
        have := h1.2
        subst this
        cases cs' with
        | nil => rfl
        | cons _ _ => exact hle.elim
      | some b =>
        rw [hi] at h1
        obtain ⟨vs, h2, h3, h4, h5⟩ := h1
        exact ⟨vs, h2, h3, h4, hL hle hok h5⟩
    | row ty' sz' n' cap' c' =>
      simp only [Blk.le] at hle
      split at hle
      case h_2 => exact hle.elim
      rename_i ht
      simp only [Bool.and_eq_true, Nat.beq_eq] at ht
      obtain ⟨⟨rfl, rfl⟩, hcl⟩ := ht
      obtain ⟨rfl, hle⟩ := hle
      refine ⟨hl.trans h0, by rw [hκ, hη]; exact ha, by rw [hκ]; exact hb, by rw [hκ]; exact hcap hcl hc, ?_⟩
      rw [hι, hκ]
      cases hi : E.ι i with
      | none => rw [hi] at h1; exact h1.1
      | some b =>
        rw [hi] at h1
        obtain ⟨vs, h2, h3, h4, h5⟩ := h1
        refine ⟨vs, h2, h3, h4, fun k hk j hj => ?_⟩
        have hlt : k * sz + j < n * sz := by
          have : (k + 1) * sz ≤ n * sz := Nat.mul_le_mul_right _ hk
          rw [Nat.add_mul, Nat.one_mul] at this
          omega
        have hn : n * sz ≤ E.κ i * sz := Nat.mul_le_mul_right _ ha.2
        have hsz : k * sz + j < vs.size := by omega
        refine ⟨vs[k * sz + j], Array.getElem?_eq_getElem hsz, ?_⟩
        obtain ⟨g1, g2⟩ := hle k hk j hj
        refine Rel.noRef _ g2 (rel_le0 g1 (relL_get h5 (k * sz + j) vs[k * sz + j] ?_))
        rw [List.getElem?_take, if_pos hlt]
        simp [hsz]
    | dead => exact absurd rfl hne
    | _ => exact hle.elim
  | row ty sz n cap c =>
    obtain ⟨h0, ha, hb, hc, h1⟩ := h
    cases B' with
    | row ty' sz' n' cap' c' =>
      simp only [Blk.le] at hle
      split at hle
      case h_2 => exact hle.elim
      rename_i ht
      simp only [Bool.and_eq_true, Nat.beq_eq] at ht
      obtain ⟨⟨rfl, rfl⟩, hcl⟩ := ht
      obtain ⟨rfl, hle⟩ := hle
      refine ⟨hl.trans h0, by rw [hκ, hη]; exact ha, by rw [hκ]; exact hb, by rw [hκ]; exact hcap hcl hc, ?_⟩
      rw [hι, hκ]
      cases hi : E.ι i with
      | none => rw [hi] at h1; exact h1
      | some b =>
        rw [hi] at h1
        obtain ⟨vs, h2, h3, h4, h5⟩ := h1
        refine ⟨vs, h2, h3, h4, fun k hk j hj => ?_⟩
        obtain ⟨x, hx, hr⟩ := h5 k hk j hj
        exact ⟨x, hx, rel_le0 (hle k hk j hj) hr⟩
    | dead => exact absurd rfl hne
    | _ => exact hle.elim

theorem mem_le {H : HH} {E : Env} {w : World} {M M' : List Blk} (hC : Conc H E w M) (hle : leM M M') (hok : okMs (liveB M') M' = true) :
    ∃ E', Conc H E' w M' ∧ Evol (drops M M' 0) H E w H E' w ∧ E.via E' (keepL (liveB M')) := by
  have hvia : E.via ⟨fun i => E.lv i && liveB M' i, E.ι, E.κ, E.η⟩ (keepL (liveB M')) := by
    intro i j hij hl
    unfold keepL at hij
    split at hij
    · rename_i hv
      cases hij
      exact ⟨by simp [hl, hv], rfl, rfl, rfl⟩
    · cases hij
  refine ⟨⟨fun i => E.lv i && liveB M' i, E.ι, E.κ, E.η⟩, ⟨hC.imm, hC.tf, fun i => ?_, fun i j b hi hj => ?_, fun i b hi => ?_⟩, ⟨rfl, rfl, rfl, Nat.le_refl _, fun _ _ _ => rfl, fun i b hi hb => .inl ⟨i, ?_, hb⟩, HH.le_refl _, fun _ _ _ h => .inl h, fun i hl hn => ⟨?_, rfl, rfl, rfl⟩⟩, hvia⟩
  · cases hd : getM M' i with
    | dead => show (E.lv i && liveB M' i) = false; simp [liveB, hd]
    | _ =>
      rw [← hd]
      have hlv : liveB M' i = true := by simp [liveB, hd]
      refine blk_le (hC.blk i) (leM_get hle i) (okMs_get hok i) hvia (by rw [hd]; simp) ?_ rfl rfl rfl
      simp [hlv]
  · simp only [Bool.and_eq_true] at hi hj
    exact hC.inj i j b hi.1 hj.1
  · simp only [Bool.and_eq_true] at hi
    exact hC.sep i b hi.1
  · simp only [Bool.and_eq_true] at hi
    exact hi.1
  · simp only [hl, Bool.true_and]
    cases hd : getM M' i with
    | dead =>
      exfalso
      refine hn ?_
      have := drops_mem (M := M) (M' := M') (p := 0) i (fun e => ?_) hd
      · simpa using this
      · have h1 := hC.blk i
        rw [e] at h1
        rw [show E.lv i = false from h1] at hl; cases hl
    | _ => simp [liveB, hd]

def allIn : List Nat → List Nat → Bool
  | [], _ => true
  | a :: r, l => mem l a && allIn r l
theorem allIn_ok : ∀ {l r : List Nat}, allIn l r = true → ∀ i ∈ l, i ∈ r
  | [], _, _, _, h => by cases h
  | a :: l, r, h, i, hi => by
    simp only [allIn, Bool.and_eq_true] at h
    rcases List.mem_cons.1 hi with rfl | hi
    · exact mem_iff.1 h.1
    · exact allIn_ok h.2 i hi

/-- a state that says less, but for what moved -/
def stLe (s s' : St) : Prop := leL s.t s'.t ∧ leM s.m s'.m ∧ (okL (liveB s'.m) s'.t && okMs (liveB s'.m) s'.m) = true
theorem stLe_ok {s s' : St} (h : stLe s s') {H : HH} {E : Env} {w : World} {vs : List Value} (hC : Conc H E w s.m) (hT : RelL s.t H E vs) :
    ∃ E', Conc H E' w s'.m ∧ RelL s'.t H E' vs ∧ Evol (drops s.m s'.m 0) H E w H E' w := by
  obtain ⟨h1, h2, h3⟩ := h
  simp only [Bool.and_eq_true] at h3
  obtain ⟨E', hC', hE, hv⟩ := mem_le hC h2 h3.2
  refine ⟨E', hC', ?_, hE⟩
  have := RelL.ren _ hv (relL_le _ h1 hT)
  rwa [renL_ok _ _ h3.1] at this
def exB : Exit → Exit → Bool
  | .normal, .normal => true
  | .ret, .ret => true
  | .exit i, .exit j => Nat.beq i j
  | _, _ => false
theorem exB_eq {a b : Exit} (h : exB a b = true) : a = b := by
  unfold exB at h
  split at h
  · rfl
  · rfl
  · rw [Nat.eq_of_beq_eq_true h]
  · cases h
def exLe (a b : Exit × St) : Prop :=
  match exB a.1 b.1 && allIn (drops a.2.m b.2.m 0 ++ a.2.mv) b.2.mv with
  | true => stLe a.2 b.2
  | false => False
theorem exLe_ok {P : Program} {c : Code} {s : St} {a b : Exit × St} (h : ACode P c s a.1 a.2) (hle : exLe a b) : ACode P c s b.1 b.2 := by
  unfold exLe at hle
  split at hle
  case h_2 => exact hle.elim
  rename_i hb
  simp only [Bool.and_eq_true] at hb
  rw [← exB_eq hb.1]
  have hmv := allIn_ok hb.2
  refine h.weak ⟨fun i hi => hmv i (List.mem_append_right _ hi), fun H E w vs hC hT => ?_⟩
  obtain ⟨E', h1, h2, h3⟩ := stLe_ok hle hC hT
  exact ⟨E', h1, h2, h3.weak fun i hi => hmv i (List.mem_append_left _ hi)⟩
theorem stLe_pre {P : Program} {c : Code} {s s0 : St} {x : Exit} {s1 : St} (hle : stLe s s0) (h : ACode P c s0 x s1) : ACode P c s x ⟨s1.t, s1.m, s1.mv ++ (drops s.m s0.m 0 ++ s.mv)⟩ := by
  refine ⟨fun i hi => by simp [hi], fun H E w a hC hT hd => ?_⟩
  obtain ⟨E', h1, h2, h3⟩ := stLe_ok hle hC hT
  refine wp_mono (h.2 H E' w a h1 h2 hd) ?_
  rintro x' a' w' ⟨H1, E1, rfl, hd1, hT1, hC1, hE1⟩
  exact ⟨H1, E1, rfl, hd1, hT1, hC1, h3.trans (hE1.weak fun i hi => List.mem_append_left _ hi) fun i hi => List.mem_append_right _ (List.mem_append_left _ hi)⟩

abbrev An := AV × List Blk × List Nat
def ACall' (P : Program) (f : FuncId) (args : List AV) (M : List Blk) (a : An) : Prop := ACall P f args M a.1 a.2.1 a.2.2
def anLe (a b : An) : Prop :=
  match allIn (drops a.2.1 b.2.1 0 ++ a.2.2) b.2.2 && okA (liveB b.2.1) b.1 && okMs (liveB b.2.1) b.2.1 with
  | true => a.1.le b.1 ∧ leM a.2.1 b.2.1
  | false => False
theorem anLe_ok {P : Program} {f : FuncId} {args : List AV} {M : List Blk} {a b : An} (h : ACall' P f args M a) (hle : anLe a b) : ACall' P f args M b := by
  unfold anLe at hle
  split at hle
  case h_2 => exact hle.elim
  rename_i hb
  simp only [Bool.and_eq_true] at hb
  obtain ⟨⟨h1, h2⟩, h3⟩ := hb
  have hmv := allIn_ok h1
  intro H E w vals hC hargs
  refine (h H E w vals hC hargs).mono ?_
  rintro e w' ⟨v, H', E', rfl, hr, hC', hE⟩
  obtain ⟨E2, hC2, hE2, hv⟩ := mem_le hC' hle.2 h3
  refine ⟨v, H', E2, rfl, ?_, hC2, (hE.weak fun i hi => hmv i (List.mem_append_right _ hi)).trans (hE2.weak fun i hi => hmv i (List.mem_append_left _ hi)) fun i hi => hi⟩
  have := Rel.ren _ hv (rel_le _ hle.1 hr)
  rwa [ren_ok _ _ h2] at this
theorem leL_pre {P : Program} {f : FuncId} {args args0 : List AV} {M : List Blk} {a : An} (h : ACall' P f args0 M a) (hle : leL args args0) : ACall' P f args M a := by
  intro H E w vals hC hargs
  exact h H E w vals hC (relL_le _ hle hargs)
end Go.Ax
