import Derived.Stop.Asserts
import Derived.Laws.Externs
import Derived.Test.YtnbhdjadlbhknaaGreatDoorE5
set_option linter.unusedVariables false
set_option linter.unusedSimpArgs false
set_option linter.unusedSectionVars false
namespace Go.Ax
open Go
variable [Inhabited Gl0]
def capLe : Option Nat → Option Nat → Bool
  | _, none => true
  | some a, some b => Nat.beq a b
  | none, some _ => false
def lstLe (sz n : Nat) (cs : List AV) (c' : Nat → Nat → AV) : Prop := ∀ k, k < n → ∀ j, j < sz → le0 (get cs (k * sz + j)) (c' k j) ∧ noRef (c' k j) = true
def esLe : List (Value × AV × Nat) → List (Value × AV × Nat) → Prop
  | [], [] => True
  | (k, a, n) :: r, (k', a', n') :: r' => veq k k' ∧ n = n' ∧ a.le a' ∧ esLe r r'
  | _, _ => False
def Blk.le : Blk → Blk → Prop
  | _, .dead => True
  | .box ty cs, .box ty' cs' => (match Nat.beq ty ty' with | true => leL cs cs' | false => False)
  | .lst ty sz n cap cs, .lst ty' sz' n' cap' cs' => (match Nat.beq ty ty' && Nat.beq sz sz' && Nat.beq n n' && capLe cap cap' with | true => leL cs cs' | false => False)
  | .lst ty sz n cap cs, .row ty' sz' n' cap' c' => (match Nat.beq ty ty' && Nat.beq sz sz' && capLe cap cap' with | true => n = n' ∧ lstLe sz n cs c' | false => False)
  | .row ty sz n cap c, .row ty' sz' n' cap' c' => (match Nat.beq ty ty' && Nat.beq sz sz' && capLe cap cap' with | true => n = n' ∧ contLe n sz c c' | false => False)
  | .mp es ck, .mp es' ck' => ck = ck' ∧ esLe es es'
  | .mp es _, .mi _ _ has _ => (match es with | [] => ∀ x, has x = false | _ => False)
  | .mi kk vk has c, .mi kk' vk' has' c' => kk = kk' ∧ vk = vk' ∧ ∀ x, has x = has' x ∧ (has x = true → c x = c' x)
  | .mit m s l k, .mit m' s' l' k' => (match Nat.beq m m' with | true => s = s' ∧ l = l' ∧ k = k' | false => False)
  | .any, .any => True
  | _, _ => False
theorem esLe_eq : ∀ {es es' : List (Value × AV × Nat)}, esLe es es' → (es.map fun e => (e.1, e.2.2)) = (es'.map fun e => (e.1, e.2.2)) ∧ ∀ {H : HH} {E : Env} {vs : List Value}, RelL (es.map fun e => e.2.1) H E vs → RelL (es'.map fun e => e.2.1) H E vs
  | [], [], _ => ⟨rfl, fun h => h⟩
  | (k, a, n) :: r, (k', a', n') :: r', h => by
    obtain ⟨h1, h2, h3, h4⟩ := h
    obtain ⟨g1, g2⟩ := esLe_eq h4
    refine ⟨by simp only [List.map_cons, veq_eq h1, h2, g1], fun {H E vs} hr => ?_⟩
    obtain ⟨v, q, hv, k1, k2⟩ := hr
    exact ⟨v, q, hv, rel_le _ h3 k1, g2 k2⟩
  | [], _ :: _, h => h.elim
  | _ :: _, [], h => h.elim
def leM : List Blk → List Blk → Prop
  | _, [] => True
  | [], b :: bs => (match b with | .dead => leM [] bs | _ => False)
  | a :: as, b :: bs => (match b with | .dead => leM as bs | b => a.le b ∧ leM as bs)
theorem le_dead (B : Blk) : B.le .dead := by cases B <;> trivial
theorem leM_get : ∀ {M M' : List Blk}, leM M M' → ∀ i, (getM M i).le (getM M' i)
  | M, [], _, i => by rw [getM_nil]; exact le_dead _
  | [], b :: bs, h, i => by
    cases b <;> simp only [leM] at h <;> try exact h.elim
    cases i with
    | zero => exact le_dead _
    | succ i => simpa [getM, getM_nil] using leM_get h i
  | a :: as, b :: bs, h, i => by
    have h2 : a.le b ∧ leM as bs := by
      cases b with
      | dead => exact ⟨le_dead _, h⟩
      | _ => exact h
    cases i with
    | zero => exact h2.1
    | succ i => exact leM_get h2.2 i
def liveB (M : List Blk) (i : Nat) : Bool := match getM M i with | .dead => false | _ => true
mutual
def okA (lv : Nat → Bool) : AV → Bool
  | .ptr i _ _ _ => lv i
  | .own i _ _ _ => lv i
  | .mref i => lv i
  | .agg cs => okL lv cs
  | .tup cs => okL lv cs
  | .fn _ a b => okL lv a && okL lv b
  | .ifc _ a => okA lv a
  | _ => true
def okL (lv : Nat → Bool) : List AV → Bool
  | [] => true
  | a :: r => okA lv a && okL lv r
end
def keepL (lv : Nat → Bool) (i : Nat) : Option Nat := if lv i then some i else none
mutual
theorem ren_ok (lv : Nat → Bool) : ∀ a : AV, okA lv a = true → ren (keepL lv) a = a
  | .s _, _ | .y _, _ | .junk, _ | .sl .., _ | .ys .., _ | .yn .., _ | .ip .., _ | .opt .., _ => rfl
  | .ptr i k sz o, h => by simp only [okA] at h; simp [ren, keepL, h]
  | .own i sz lo n, h => by simp only [okA] at h; simp [ren, keepL, h]
  | .mref i, h => by simp only [okA] at h; simp [ren, keepL, h]
  | .agg cs, h => by simp only [okA] at h; simp [ren, renL_ok lv cs h]
  | .tup cs, h => by simp only [okA] at h; simp [ren, renL_ok lv cs h]
  | .fn f a b, h => by simp only [okA, Bool.and_eq_true] at h; simp [ren, renL_ok lv a h.1, renL_ok lv b h.2]
  | .ifc t a, h => by simp only [okA] at h; simp [ren, ren_ok lv a h]
theorem renL_ok (lv : Nat → Bool) : ∀ l : List AV, okL lv l = true → renL (keepL lv) l = l
  | [], _ => rfl
  | a :: r, h => by simp only [okL, Bool.and_eq_true] at h; simp [renL, ren_ok lv a h.1, renL_ok lv r h.2]
end
def okB (lv : Nat → Bool) : Blk → Bool
  | .box _ cs => okL lv cs
  | .lst _ _ _ _ cs => okL lv cs
  | .mp es _ => okL lv (es.map fun e => e.2.1)
  | .mit m _ _ _ => lv m
  | _ => true
def okMs (lv : Nat → Bool) : List Blk → Bool
  | [] => true
  | b :: r => okB lv b && okMs lv r
theorem okMs_get {lv : Nat → Bool} : ∀ {M : List Blk}, okMs lv M = true → ∀ i, okB lv (getM M i) = true
  | [], _, i => by rw [getM_nil]; rfl
  | b :: r, h, i => by
    simp only [okMs, Bool.and_eq_true] at h
    cases i with
    | zero => exact h.1
    | succ i => exact okMs_get h.2 i
def drops : List Blk → List Blk → Nat → List Nat
  | [], _, _ => []
  | a :: as, l, i => (match a, l with
    | .dead, _ => drops as l.tail (i + 1)
    | _, .dead :: _ => i :: drops as l.tail (i + 1)
    | _, [] => i :: drops as [] (i + 1)
    | _, _ => drops as l.tail (i + 1))
theorem drops_mem : ∀ {M M' : List Blk} {p : Nat} (i : Nat), getM M i ≠ .dead → getM M' i = .dead → p + i ∈ drops M M' p
  | [], _, _, i, h, _ => absurd (getM_nil i) h
  | a :: as, l, p, 0, h, h' => by
    have h : a ≠ .dead := h
    cases l with
    | nil => cases a <;> first | exact absurd rfl h | simp [drops]
    | cons b bs =>
      have h' : b = .dead := h'
      subst h'
      cases a <;> first | exact absurd rfl h | simp [drops]
  | a :: as, l, p, i + 1, h, h' => by
    have h1 : getM l.tail i = .dead := by
      cases l with
      | nil => exact getM_nil i
      | cons b bs => exact h'
    have := drops_mem (M := as) (M' := l.tail) (p := p + 1) i h h1
    rw [show p + 1 + i = p + (i + 1) by omega] at this
    simp only [drops]
    split
    · exact this
    · exact List.mem_cons_of_mem _ this
    · exact List.mem_cons_of_mem _ this
    · exact this
theorem blk_le {H : HH} {E E' : Env} {w : World} {i : Nat} {B B' : Blk} {lv : Nat → Bool} (h : BlkOk H E w i B) (hle : B.le B') (hok : okB lv B' = true) (hv : E.via E' (keepL lv)) (hne : B' ≠ .dead) (hl : E'.lv i = E.lv i) (hι : E'.ι i = E.ι i) (hκ : E'.κ i = E.κ i) (hη : E'.η i = E.η i) : BlkOk H E' w i B' := by
  have hL : ∀ {cs cs' : List AV} {vs : List Value}, leL cs cs' → okL lv cs' = true → RelL cs H E vs → RelL cs' H E' vs := fun h1 h2 h3 => by
    have := RelL.ren _ hv (relL_le _ h1 h3)
    rwa [renL_ok lv _ h2] at this
  have hcap : ∀ {c c' : Option Nat} {m : Nat}, capLe c c' = true → (∀ q, c = some q → m = q) → ∀ q, c' = some q → m = q := by
    intro c c' m h1 h2 q hq
    subst hq
    cases c with
    | none => cases h1
    | some a => rw [h2 a rfl]; exact Nat.eq_of_beq_eq_true h1
  cases B with
  | dead => cases B' <;> first | exact absurd rfl hne | exact hle.elim
  | box ty cs =>
    cases B' with
    | box ty' cs' =>
      simp only [Blk.le] at hle
      split at hle
      case h_2 => exact hle.elim
      rename_i ht
      have ht := Nat.eq_of_beq_eq_true ht
      subst ht
      obtain ⟨h0, b, vs, h1, h2, h3, h4⟩ := h
      exact ⟨hl.trans h0, b, vs, hι.trans h1, h2, h3, hL hle hok h4⟩
    | dead => exact absurd rfl hne
    | _ => exact hle.elim
  | lst ty sz n cap cs =>
    obtain ⟨h0, ha, hb, hc, h1⟩ := h
    cases B' with
    | lst ty' sz' n' cap' cs' =>
      simp only [Blk.le] at hle
      split at hle
      case h_2 => exact hle.elim
      rename_i ht
      simp only [Bool.and_eq_true, Nat.beq_eq] at ht
      obtain ⟨⟨⟨rfl, rfl⟩, rfl⟩, hcl⟩ := ht
      refine ⟨hl.trans h0, by rw [hκ, hη]; exact ha, by rw [hκ]; exact hb, by rw [hκ]; exact hcap hcl hc, ?_⟩
      rw [hι, hκ]
      cases hi : E.ι i with
      | none =>
        rw [hi] at h1
        refine ⟨h1.1, ?_⟩
        have := h1.2
        subst this
        cases cs' with
        | nil => rfl
        | cons _ _ => exact hle.elim
      | some b =>
        rw [hi] at h1
        obtain ⟨vs, h2, h3, h4, h5⟩ := h1
        exact ⟨vs, h2, h3, h4, hL hle hok h5⟩
    | row ty' sz' n' cap' c' =>
      simp only [Blk.le] at hle
      split at hle
      case h_2 => exact hle.elim
      rename_i ht
      simp only [Bool.and_eq_true, Nat.beq_eq] at ht
      obtain ⟨⟨rfl, rfl⟩, hcl⟩ := ht
      obtain ⟨rfl, hle⟩ := hle
      refine ⟨hl.trans h0, by rw [hκ, hη]; exact ha, by rw [hκ]; exact hb, by rw [hκ]; exact hcap hcl hc, ?_⟩
      rw [hι, hκ]
      cases hi : E.ι i with
      | none => rw [hi] at h1; exact h1.1
      | some b =>
        rw [hi] at h1
        obtain ⟨vs, h2, h3, h4, h5⟩ := h1
        refine ⟨vs, h2, h3, h4, fun k hk j hj => ?_⟩
        have hlt : k * sz + j < n * sz := by
          have : (k + 1) * sz ≤ n * sz := Nat.mul_le_mul_right _ hk
          rw [Nat.add_mul, Nat.one_mul] at this
          omega
        have hn : n * sz ≤ E.κ i * sz := Nat.mul_le_mul_right _ ha.2
        have hsz : k * sz + j < vs.size := by omega
        refine ⟨vs[k * sz + j], Array.getElem?_eq_getElem hsz, ?_⟩
        obtain ⟨g1, g2⟩ := hle k hk j hj
        refine Rel.noRef _ g2 (rel_le0 g1 (relL_get h5 (k * sz + j) vs[k * sz + j] ?_))
        rw [List.getElem?_take, if_pos hlt]
        simp [hsz]
    | dead => exact absurd rfl hne
    | _ => exact hle.elim
  | row ty sz n cap c =>
    obtain ⟨h0, ha, hb, hc, h1⟩ := h
    cases B' with
    | row ty' sz' n' cap' c' =>
      simp only [Blk.le] at hle
      split at hle
      case h_2 => exact hle.elim
      rename_i ht
      simp only [Bool.and_eq_true, Nat.beq_eq] at ht
      obtain ⟨⟨rfl, rfl⟩, hcl⟩ := ht
      obtain ⟨rfl, hle⟩ := hle
      refine ⟨hl.trans h0, by rw [hκ, hη]; exact ha, by rw [hκ]; exact hb, by rw [hκ]; exact hcap hcl hc, ?_⟩
      rw [hι, hκ]
      cases hi : E.ι i with
      | none => rw [hi] at h1; exact h1
      | some b =>
        rw [hi] at h1
        obtain ⟨vs, h2, h3, h4, h5⟩ := h1
        refine ⟨vs, h2, h3, h4, fun k hk j hj => ?_⟩
        obtain ⟨x, hx, hr⟩ := h5 k hk j hj
        exact ⟨x, hx, rel_le0 (hle k hk j hj) hr⟩
    | dead => exact absurd rfl hne
    | _ => exact hle.elim
  | mp es ck =>
    obtain ⟨h0, b, ms, h1, h2, h3, h4⟩ := h
    cases B' with
    | mp es' ck' =>
      obtain ⟨rfl, hle⟩ := hle
      obtain ⟨g1, g2⟩ := esLe_eq hle
      refine ⟨hl.trans h0, b, ms, hι.trans h1, h2, h3.trans g1, ?_⟩
      have := RelL.ren _ hv (g2 h4)
      rwa [renL_ok lv _ hok] at this
    | mi kk vk has c =>
      simp only [Blk.le] at hle
      split at hle
      case h_2 => exact hle.elim
      have : ms.toList = [] := by simpa using h3
      refine ⟨hl.trans h0, b, ms, ck, hι.trans h1, h2, fun e he => (by rw [this] at he; cases he), fun x => ?_⟩
      rw [this, hle x]; rfl
    | dead => exact absurd rfl hne
    | _ => exact hle.elim
  | mi kk vk has c =>
    obtain ⟨h0, b, ms, ck, h1, h2, h3, h4⟩ := h
    cases B' with
    | mi kk' vk' has' c' =>
      obtain ⟨rfl, rfl, hle⟩ := hle
      refine ⟨hl.trans h0, b, ms, ck, hι.trans h1, h2, h3, fun x => ?_⟩
      rw [h4 x, ← (hle x).1]
      cases hx : has x with
      | true => simp only; rw [(hle x).2 hx]
      | false => rfl
    | dead => exact absurd rfl hne
    | _ => exact hle.elim
  | mit m s l k =>
    obtain ⟨h0, hm, b, bm, h1, h2, h3⟩ := h
    cases B' with
    | mit m' s' l' k' =>
      simp only [Blk.le] at hle
      split at hle
      case h_2 => exact hle.elim
      rename_i ht
      have ht := Nat.eq_of_beq_eq_true ht
      subst ht
      obtain ⟨rfl, rfl, rfl⟩ := hle
      obtain ⟨g1, g2, _⟩ := hv m m (by simp only [okB] at hok; simp [keepL, hok]) hm
      exact ⟨hl.trans h0, g1, b, bm, hι.trans h1, g2.trans h2, h3⟩
    | dead => exact absurd rfl hne
    | _ => exact hle.elim
  | any =>
    obtain ⟨h0, b, o, h1, h2⟩ := h
    cases B' with
    | any => exact ⟨hl.trans h0, b, o, hι.trans h1, h2⟩
    | dead => exact absurd rfl hne
    | _ => exact hle.elim
theorem mem_le {H : HH} {E : Env} {w : World} {M M' : List Blk} (hC : Conc H E w M) (hle : leM M M') (hok : okMs (liveB M') M' = true) :
    ∃ E', Conc H E' w M' ∧ Evol (drops M M' 0) H E w H E' w ∧ E.via E' (keepL (liveB M')) := by
  have hvia : E.via ⟨fun i => E.lv i && liveB M' i, E.ι, E.κ, E.η⟩ (keepL (liveB M')) := by
    intro i j hij hl
    unfold keepL at hij
    split at hij
    · rename_i hv
      cases hij
      exact ⟨by simp [hl, hv], rfl, rfl, rfl⟩
    · cases hij
  refine ⟨⟨fun i => E.lv i && liveB M' i, E.ι, E.κ, E.η⟩, ⟨hC.imm, hC.tf, fun i => ?_, fun i j b hi hj => ?_, fun i b hi => ?_⟩, ⟨rfl, rfl, rfl, Nat.le_refl _, fun _ _ _ => rfl, fun i b hi hb => .inl ⟨i, ?_, hb⟩, HH.le_refl _, fun _ _ _ h => .inl h, fun i hl hn => ⟨?_, rfl, rfl, rfl⟩⟩, hvia⟩
  · cases hd : getM M' i with
    | dead => show (E.lv i && liveB M' i) = false; simp [liveB, hd]
    | _ =>
      rw [← hd]
      have hlv : liveB M' i = true := by simp [liveB, hd]
      refine blk_le (hC.blk i) (leM_get hle i) (okMs_get hok i) hvia (by rw [hd]; simp) ?_ rfl rfl rfl
      simp [hlv]
  · simp only [Bool.and_eq_true] at hi hj
    exact hC.inj i j b hi.1 hj.1
  · simp only [Bool.and_eq_true] at hi
    exact hC.sep i b hi.1
  · simp only [Bool.and_eq_true] at hi
    exact hi.1
  · simp only [hl, Bool.true_and]
    cases hd : getM M' i with
    | dead =>
      exfalso
      refine hn ?_
      have := drops_mem (M := M) (M' := M') (p := 0) i (fun e => ?_) hd
      · simpa using this
      · have h1 := hC.blk i
        rw [e] at h1
        rw [show E.lv i = false from h1] at hl; cases hl
    | _ => simp [liveB, hd]
def allIn : List Nat → List Nat → Bool
  | [], _ => true
  | a :: r, l => mem l a && allIn r l
theorem allIn_ok : ∀ {l r : List Nat}, allIn l r = true → ∀ i ∈ l, i ∈ r
  | [], _, _, _, h => by cases h
  | a :: l, r, h, i, hi => by
    simp only [allIn, Bool.and_eq_true] at h
    rcases List.mem_cons.1 hi with rfl | hi
    · exact mem_iff.1 h.1
    · exact allIn_ok h.2 i hi
def stLe (s s' : St) : Prop := leL s.t s'.t ∧ leM s.m s'.m ∧ (okL (liveB s'.m) s'.t && okMs (liveB s'.m) s'.m) = true
theorem stLe_ok {s s' : St} (h : stLe s s') {H : HH} {E : Env} {w : World} {vs : List Value} (hC : Conc H E w s.m) (hT : RelL s.t H E vs) :
    ∃ E', Conc H E' w s'.m ∧ RelL s'.t H E' vs ∧ Evol (drops s.m s'.m 0) H E w H E' w := by
  obtain ⟨h1, h2, h3⟩ := h
  simp only [Bool.and_eq_true] at h3
  obtain ⟨E', hC', hE, hv⟩ := mem_le hC h2 h3.2
  refine ⟨E', hC', ?_, hE⟩
  have := RelL.ren _ hv (relL_le _ h1 hT)
  rwa [renL_ok _ _ h3.1] at this
def exB : Exit → Exit → Bool
  | .normal, .normal => true
  | .ret, .ret => true
  | .exit i, .exit j => Nat.beq i j
  | _, _ => false
theorem exB_eq {a b : Exit} (h : exB a b = true) : a = b := by
  unfold exB at h
  split at h
  · rfl
  · rfl
  · rw [Nat.eq_of_beq_eq_true h]
  · cases h
def exLe (a b : Exit × St) : Prop :=
  match exB a.1 b.1 && allIn (drops a.2.m b.2.m 0 ++ a.2.mv) b.2.mv with
  | true => stLe a.2 b.2
  | false => False
theorem exLe_ok {P : Program} {c : Code} {s : St} {a b : Exit × St} (h : ACode P c s a.1 a.2) (hle : exLe a b) : ACode P c s b.1 b.2 := by
  unfold exLe at hle
  split at hle
  case h_2 => exact hle.elim
  rename_i hb
  simp only [Bool.and_eq_true] at hb
  rw [← exB_eq hb.1]
  have hmv := allIn_ok hb.2
  refine h.weak ⟨fun i hi => hmv i (List.mem_append_right _ hi), fun H E w vs hC hT => ?_⟩
  obtain ⟨E', h1, h2, h3⟩ := stLe_ok hle hC hT
  exact ⟨E', h1, h2, h3.weak fun i hi => hmv i (List.mem_append_left _ hi)⟩
theorem stLe_pre {P : Program} {c : Code} {s s0 : St} {x : Exit} {s1 : St} (hle : stLe s s0) (h : ACode P c s0 x s1) : ACode P c s x ⟨s1.t, s1.m, s1.mv ++ (drops s.m s0.m 0 ++ s.mv)⟩ := by
  refine ⟨fun i hi => by simp [hi], fun H E w a hC hT hd => ?_⟩
  obtain ⟨E', h1, h2, h3⟩ := stLe_ok hle hC hT
  refine wp_mono (h.2 H E' w a h1 h2 hd) ?_
  rintro x' a' w' ⟨H1, E1, rfl, hd1, hT1, hC1, hE1⟩
  exact ⟨H1, E1, rfl, hd1, hT1, hC1, h3.trans (hE1.weak fun i hi => List.mem_append_left _ hi) fun i hi => List.mem_append_right _ (List.mem_append_left _ hi)⟩
abbrev An := AV × List Blk × List Nat
def ACall' (P : Program) (f : FuncId) (args : List AV) (M : List Blk) (a : An) : Prop := ACall P f args M a.1 a.2.1 a.2.2
def anLe (a b : An) : Prop :=
  match allIn (drops a.2.1 b.2.1 0 ++ a.2.2) b.2.2 && okA (liveB b.2.1) b.1 && okMs (liveB b.2.1) b.2.1 with
  | true => a.1.le b.1 ∧ leM a.2.1 b.2.1
  | false => False
theorem anLe_ok {P : Program} {f : FuncId} {args : List AV} {M : List Blk} {a b : An} (h : ACall' P f args M a) (hle : anLe a b) : ACall' P f args M b := by
  unfold anLe at hle
  split at hle
  case h_2 => exact hle.elim
  rename_i hb
  simp only [Bool.and_eq_true] at hb
  obtain ⟨⟨h1, h2⟩, h3⟩ := hb
  have hmv := allIn_ok h1
  intro H E w vals hC hargs
  refine (h H E w vals hC hargs).mono ?_
  rintro e w' ⟨v, H', E', rfl, hr, hC', hE⟩
  obtain ⟨E2, hC2, hE2, hv⟩ := mem_le hC' hle.2 h3
  refine ⟨v, H', E2, rfl, ?_, hC2, (hE.weak fun i hi => hmv i (List.mem_append_right _ hi)).trans (hE2.weak fun i hi => hmv i (List.mem_append_left _ hi)) fun i hi => hi⟩
  have := Rel.ren _ hv (rel_le _ hle.1 hr)
  rwa [ren_ok _ _ h2] at this
end Go.Ax

namespace Go.Ax
open Go
variable [Inhabited Gl0]
def nodup : List Nat → Bool
  | [] => true
  | a :: l => !mem l a && nodup l
theorem nodup_ok : ∀ {l : List Nat}, nodup l = true → ∀ (i j a : Nat), l[i]? = some a → l[j]? = some a → i = j
  | [], _, i, _, a, h, _ => by simp at h
  | x :: l, h, i, j, a, hi, hj => by
    simp only [nodup, Bool.and_eq_true, Bool.not_eq_true'] at h
    have hx : ∀ k, l[k]? = some x → False := fun k hk => by
      have := mem_iff.2 (List.mem_of_getElem? hk)
      rw [h.1] at this; cases this
    cases i with
    | zero => cases j with
      | zero => rfl
      | succ j => simp at hi hj; subst hi; exact absurd hj (hx j)
    | succ i => cases j with
      | zero => simp at hi hj; subst hj; exact absurd hi (hx i)
      | succ j => simp at hi hj; rw [nodup_ok h.2 i j a hi hj]
def idx : List Nat → Nat → Option Nat
  | [], _ => none
  | a :: l, i => match Nat.beq a i with
    | true => some 0
    | false => (match idx l i with | some k => some (k + 1) | none => none)
theorem idx_ok : ∀ {l : List Nat} {i j : Nat}, idx l i = some j → l[j]? = some i
  | [], _, _, h => by simp [idx] at h
  | a :: l, i, j, h => by
    simp only [idx] at h
    split at h
    · rename_i hb
      cases h
      rw [Nat.eq_of_beq_eq_true hb]; rfl
    · split at h
      · rename_i k hk
        cases h
        simpa using idx_ok hk
      · cases h
def pick (L : List Nat) (M : List Blk) : List Nat → List Blk
  | [] => []
  | i :: r => renB (idx L) (getM M i) :: pick L M r
theorem getM_pick (L : List Nat) (M : List Blk) : ∀ (r : List Nat) (j : Nat), getM (pick L M r) j = match r[j]? with | some i => renB (idx L) (getM M i) | none => .dead
  | [], j => by simp [pick, getM_nil]
  | i :: r, 0 => rfl
  | i :: r, j + 1 => by simp only [pick, getM, List.getElem?_cons_succ]; exact getM_pick L M r j
def Env.pull (E : Env) (L : List Nat) : Env :=
  ⟨fun j => match L[j]? with | some i => E.lv i | none => false, fun j => match L[j]? with | some i => E.ι i | none => none, fun j => match L[j]? with | some i => E.κ i | none => 0, fun j => match L[j]? with | some i => E.η i | none => 0⟩
theorem ACall.compact {P : Program} {f : FuncId} {args : List AV} {r : AV} {M : List Blk} {mv : List Nat} {L : List Nat} (h : ACall P f args [] r M mv) (hL : nodup L = true) : ACall P f args [] (ren (idx L) r) (pick L M L) [] := by
  intro H E w vals hC hargs
  refine (h H E w vals hC hargs).mono ?_
  rintro e w1 ⟨v, H1, E1, rfl, hr, hC1, hE1⟩
  have hvia : E1.via (E1.pull L) (idx L) := fun i j hij hl => by
    have := idx_ok hij
    simp [Env.pull, this, hl]
  refine ⟨v, H1, E1.pull L, rfl, Rel.ren _ hvia hr, ⟨hC1.imm, hC1.tf, fun j => ?_, fun i j b hi hj hib hjb => ?_, fun i b hi hib => ?_⟩, ⟨hE1.os, hE1.tape, hE1.output, hE1.size, hE1.keep, fun i b hi hib => ?_, hE1.hh, hE1.new, fun i hl _ => ?_⟩⟩
  · rw [getM_pick]
    cases hj : L[j]? with
    | none => simp only [Env.pull, BlkOk, hj]
    | some i =>
      simp only []
      refine (hC1.blk i).move (HH.le_refl _) hvia ?_ ?_ ?_ ?_ fun _ _ _ => rfl <;> simp [Env.pull, hj]
  · simp only [Env.pull] at hi hj hib hjb
    cases hx : L[i]? with
    | none => rw [hx] at hi; cases hi
    | some x =>
      cases hy : L[j]? with
      | none => rw [hy] at hj; cases hj
      | some y =>
        rw [hx] at hi hib; rw [hy] at hj hjb
        have := hC1.inj x y b hi hj hib hjb
        subst this
        exact nodup_ok hL i j x hx hy
  · simp only [Env.pull] at hi hib
    cases hx : L[i]? with
    | none => rw [hx] at hi; cases hi
    | some x => rw [hx] at hi hib; exact hC1.sep x b hi hib
  · simp only [Env.pull] at hi hib
    cases hx : L[i]? with
    | none => rw [hx] at hi; cases hi
    | some x => rw [hx] at hi hib; exact hE1.own x b hi hib
  · have := hC.blk i
    rw [getM_nil] at this
    rw [show E.lv i = false from this] at hl; cases hl
mutual
def idsA : AV → List Nat
  | .ptr i _ _ _ => [i]
  | .own i _ _ _ => [i]
  | .mref i => [i]
  | .agg cs => idsL cs
  | .tup cs => idsL cs
  | .fn _ a b => idsL a ++ idsL b
  | .ifc _ a => idsA a
  | _ => []
def idsL : List AV → List Nat
  | [] => []
  | a :: l => idsA a ++ idsL l
end
def idsB : Blk → List Nat
  | .box _ cs => idsL cs
  | .lst _ _ _ _ cs => idsL cs
  | .mp es _ => idsL (es.map fun e => e.2.1)
  | .mit m _ _ _ => [m]
  | _ => []
def fresh : List Nat → List Nat → List Nat
  | seen, [] => seen
  | seen, i :: r => match mem seen i with | true => fresh seen r | false => fresh (seen ++ [i]) r
def reach (rd : Nat → Blk) : Nat → List Nat → List Nat
  | 0, l => l
  | n + 1, l => (fun m => match Nat.beq (len m) (len l) with | true => l | false => reach rd n m) (fresh l (l.flatMap fun i => idsB (rd i)))
def wrOf : Nat → Nat → List Blk → List (Nat × Blk)
  | _, _, [] => []
  | p, s, B :: r => (p, renB (shift s) B) :: wrOf (p + 1) s r
theorem place_eq : ∀ (L M : List Blk) (p s : Nat), place M p s L = applyW (wrOf p s L) M
  | [], _, _, _ => rfl
  | B :: r, M, p, s => by simp only [place, wrOf, applyW]; exact place_eq r _ _ _
theorem ids_wrOf : ∀ (L : List Blk) (p s k : Nat), k < len L → p + k ∈ ids (wrOf p s L)
  | [], _, _, _, h => by simp [len] at h
  | B :: r, p, s, 0, _ => by simp [wrOf, ids]
  | B :: r, p, s, k + 1, h => by
    simp only [wrOf, ids, List.mem_cons]
    right
    rw [show p + (k + 1) = p + 1 + k by omega]
    exact ids_wrOf r (p + 1) s k (by simpa [len] using h)
abbrev Ans := AV × List Blk × List Nat × List Prop
def IH1 := Nat → FuncId → List AV → List Blk → Option Ans
def IH1.Ok (P : Program) (ih : IH1) : Prop := ∀ p g args M r M' mv ob, ih p g args M = some (r, M', mv, ob) → Hold ob → ACall P g args M r M' mv
def only (L : List Nat) (rd : Nat → Blk) (i : Nat) : Blk := match mem L i with | true => rd i | false => .dead
def depth : Nat := 8
def plainFn (P : Program) (g : FuncId) : Bool := match P.funcs[g]? with | some fn => !(fn.name == "runtime.NumGoroutine" || fn.body.isNone) | none => false
abbrev ER := Exit × St × List Prop
structure Hints where
  op : FuncId → Nat → Nat → Option Hint
  lp : FuncId → Nat → Option (Exit × (St → Option St))
  sub : FuncId → Bool
  ct : FuncId → List AV → List Blk → Option Ans
def Hints.Ok (P : Program) (ht : Hints) : Prop := ∀ g args M r M' mv ob, ht.ct g args M = some (r, M', mv, ob) → Hold ob → ACall P g args M r M' mv
def keyOf : Code → Option Nat
  | .region id _ _ => some id
  | .seq a _ => keyOf a
  | .block _ c => keyOf c
  | .loop c => keyOf c
  | _ => none
def ansOf (P : Program) (fn : Func) (fr : Bool) (e : ER) : Option Ans :=
  match e with
  | (.ret, st, ob) | (.normal, st, ob) => (match resA P st fn.results.toList with
    | some l => (match fr with
      | false => some (resV l, st.m, st.mv, ob)
      | true => (fun L => match nodup L with
        | true => some (ren (idx L) (resV l), pick L st.m L, [], ob)
        | false => none) (reach (getM st.m) depth (fresh [] (idsL l))))
    | none => none)
  | _ => none
def noBlk (M : List Blk) : Bool := match M with | [] => true | _ => false
def inl (P : Program) (ec : FuncId → Code → St → Option ER) (g : FuncId) (args : List AV) (M : List Blk) : Option Ans :=
  match P.funcs[g]? with
  | some fn => (match fn.body with
    | some c => (match ec g c ⟨initT fn.ntmps args, M, []⟩ with
      | some e => ansOf P fn (noBlk M) e
      | none => none)
    | none => none)
  | none => none
end Go.Ax

namespace Go.Ax
open Go
variable [Inhabited Gl0]
def findM (name : String) : List Method → Option Method
  | [] => none
  | m :: r => match m.name == name with | true => some m | false => findM name r
theorem findM_eq (name : String) : ∀ l, findM name l = l.find? (·.name == name)
  | [] => rfl
  | m :: r => by
    simp only [findM, List.find?_cons, findM_eq name r]
    cases m.name == name <;> rfl
def isPtrD : TypeDesc → Bool
  | .pointer _ => true
  | _ => false
def methE (P : Program) (ty : TypeId) (name : String) : Option FuncId := match P.info? ty with
  | some i => (match findM name i.methods.toList with
    | some m => (match m.path.toList, m.func, P.underlying ty with
      | [], some (f, b), some d => (match b == isPtrD d || !b && !isPtrD d with | true => some f | false => none)
      | _, _, _ => none)
    | none => none)
  | none => none
theorem method_run {P : Program} {w : World} {ty : TypeId} {name : String} {f : FuncId} (v : Value) (h : methE P ty name = some f) (n : Nat) : (method (n + 1) ty v name).run P w = .ok (f, v) w := by
  unfold methE at h
  split at h
  case h_2 => cases h
  rename_i i hi
  split at h
  case h_2 => cases h
  rename_i m hm
  split at h
  case h_2 => cases h
  rename_i f' b d hp hf hu
  split at h
  case h_2 => cases h
  rename_i hb
  cases h
  have hm' : i.methods.find? (·.name == name) = some m := by
    rw [findM_eq] at hm
    rw [← Array.find?_toList]; exact hm
  have hpt : m.path = #[] := Array.ext' hp
  cases b with
  | true =>
    cases d <;> simp [isPtrD] at hb
    simp [method, typeInfo, hi, hm', hpt, hf, follow, receiverAt, run_underlying hu, Place.get, Result.andThen]
  | false =>
    cases d <;> simp [isPtrD] at hb <;> simp [method, typeInfo, hi, hm', hpt, hf, follow, receiverAt, run_underlying hu, Place.get, Result.andThen]
def nTO : String := "internal/reflectlite.TypeOf"
def nCo : String := "(internal/reflectlite.rtype).Comparable"
def cutT (P : Program) (n : String) : Option TypeId := match P.cutTypes.find? (·.1 == n) with | some (_, t) => some t | none => none
def extE (P : Program) (g : FuncId) (args : List AV) : Option AV := match P.funcs[g]? with
  | some fn => (match fn.body.isNone && fn.origin == "" with
    | true => (match fn.name == nTO with
      | true => (match args, cutT P "internal/reflectlite.rtype" with
        | [.ifc t _], some rt => some (.ifc rt (.agg [.s (typeHandle P t)]))
        | _, _ => none)
      | false => (match fn.name == nCo with
        | true => (match args with
          | [.agg [.s h]] => (match handleType P h with
            | some t => (match P.packed t || P.holdsPacked P.depth t, P.info? t with
              | false, some i => some (.s (.bool i.comparable))
              | _, _ => none)
            | none => none)
          | _ => none)
        | false => none))
    | false => none)
  | none => none
theorem find_TO {fn : Func} (h : fn.name = nTO) : Extern.find fn = some Extern.ReflectliteType.typeOf := by
  unfold Extern.find
  simp only [h]
  have h1 : Extern.allGenericRows.lookup nTO = none := by kernel_rfl
  have h2 : Extern.allTypedRows.lookup nTO = none := by kernel_rfl
  have h3 : Extern.allRows.lookup nTO = some Extern.ReflectliteType.typeOf := by kernel_rfl
  simp [h1, h2, h3]
theorem next_TO {fn : Func} (h : fn.name = nTO) (ho : fn.origin = "") : Extern.findNext fn = none := by
  unfold Extern.findNext
  simp only [h, ho]
  have h1 : Extern.allNextRows.lookup nTO = none := by kernel_rfl
  have h2 : Extern.allNextRows.lookup "" = none := by kernel_rfl
  simp [h1, h2]
theorem find_Co {fn : Func} (h : fn.name = nCo) : Extern.find fn = some (Extern.ReflectliteType.method fun t => do Extern.Rtype.noPackHeld "Comparable" t; pure (.bool (← typeInfo t).comparable)) := by
  unfold Extern.find
  simp only [h]
  have h1 : Extern.allGenericRows.lookup nCo = none := by kernel_rfl
  have h2 : Extern.allTypedRows.lookup nCo = none := by kernel_rfl
  have h3 : Extern.allRows.lookup nCo = some (Extern.ReflectliteType.method fun t => do Extern.Rtype.noPackHeld "Comparable" t; pure (.bool (← typeInfo t).comparable)) := by kernel_rfl
  simp [h1, h2, h3]
theorem next_Co {fn : Func} (h : fn.name = nCo) (ho : fn.origin = "") : Extern.findNext fn = none := by
  unfold Extern.findNext
  simp only [h, ho]
  have h1 : Extern.allNextRows.lookup nCo = none := by kernel_rfl
  have h2 : Extern.allNextRows.lookup "" = none := by kernel_rfl
  simp [h1, h2]
theorem cutT_ok {P : Program} {n : String} {t : TypeId} (h : cutT P n = some t) (w : World) : (cutType n).run P w = .ok t w := by
  unfold cutT at h
  split at h
  case h_2 => cases h
  rename_i q t' hf
  cases h
  simp [cutType, hf, Result.andThen]
theorem extE_ok {P : Program} {g : FuncId} {args : List AV} {r : AV} (h : extE P g args = some r) {H : HH} {E : Env} {vals : Array Value} (hargs : RelL args H E vals.toList) (w : World) : ∃ v, (callFunc g vals).run P w = .ok (.value v) w ∧ Rel r H E v := by
  unfold extE at h
  split at h
  case h_2 => cases h
  rename_i fn hg
  split at h
  case h_2 => cases h
  rename_i hb
  simp only [Bool.and_eq_true, beq_iff_eq] at hb
  split at h
  · rename_i hn
    have hn := beq_iff_eq.1 hn
    split at h
    case h_2 => cases h
    rename_i t a rt hrt
    cases h
    obtain ⟨v, q, hv, ⟨x, rfl, _⟩, hq⟩ := hargs
    have hq : q = [] := hq
    subst hq
    have hvals : vals = #[.iface t x] := Array.ext' hv
    subst hvals
    refine ⟨.iface rt (.agg #[typeHandle P t]), ?_, ⟨_, rfl, _, rfl, _, [], rfl, ⟨rfl, rfl⟩, rfl⟩⟩
    rw [run_callFunc_extern hg (by rw [hn]; decide +kernel) hb.1 (next_TO hn hb.2) (find_TO hn)]
    have e : Extern.ReflectliteType.typeOf #[.iface t x] = Extern.ReflectliteType.toType t := rfl
    simp [e, Extern.ReflectliteType.toType, cutT_ok hrt, Extern.Rtype.handle, Result.andThen]
  · split at h
    case h_2 => cases h
    rename_i hn
    have hn := beq_iff_eq.1 hn
    split at h
    case h_2 => cases h
    rename_i hd
    split at h
    case h_2 => cases h
    rename_i t ht
    split at h
    case h_2 => cases h
    rename_i i hpk hi
    cases h
    obtain ⟨v, q, hv, ⟨vs, rfl, hvs⟩, hq⟩ := hargs
    have hq : q = [] := hq
    subst hq
    obtain ⟨u, r, hu, ⟨rfl, hs⟩, hr⟩ := hvs
    have hr : r = [] := hr
    subst hr
    have e1 : vs = #[u] := Array.ext' hu
    subst e1
    have hvals : vals = #[.agg #[u]] := Array.ext' hv
    subst hvals
    simp only [Bool.or_eq_false_iff] at hpk
    refine ⟨.bool i.comparable, ?_, ⟨rfl, rfl⟩⟩
    rw [run_callFunc_extern hg (by rw [hn]; decide +kernel) hb.1 (next_Co hn hb.2) (find_Co hn)]
    have e1 : ∀ f : TypeId → Sem Value, Extern.ReflectliteType.method f #[.agg #[u]] = (Extern.ReflectliteType.ofRtype (.agg #[u])).bind f := fun _ => rfl
    have e2 : Extern.ReflectliteType.ofRtype (.agg #[u]) = (do let t ← Extern.Rtype.ofHandle u; Extern.Rtype.noPack "a Type asked or handed on" t; pure t) := rfl
    have a1 : (Extern.Rtype.ofHandle u).run P w = .ok t w := by simp [Extern.Rtype.ofHandle, ht, Result.andThen]
    have a2 : (Extern.Rtype.noPack "a Type asked or handed on" t).run P w = .ok () w := by
      show (if P.packed t then _ else pure () : Sem Unit).run P w = _
      rw [hpk.1]; rfl
    have a3 : (Extern.Rtype.noPackHeld "Comparable" t).run P w = .ok () w := by
      show (if P.holdsPacked P.depth t then _ else pure () : Sem Unit).run P w = _
      rw [hpk.2]; rfl
    have a4 : (typeInfo t).run P w = .ok i w := by simp [typeInfo, hi, Result.andThen]
    have a5 : (Extern.ReflectliteType.ofRtype (.agg #[u])).run P w = .ok t w := by
      rw [e2]
      simp only [Sem.run_bind, a1, a2, Result.andThen]
      rfl
    have a6 : ((Extern.ReflectliteType.ofRtype (.agg #[u])) >>= fun t => do Extern.Rtype.noPackHeld "Comparable" t; pure (Value.bool (← typeInfo t).comparable)).run P w = .ok (.bool i.comparable) w := by
      simp only [Sem.run_bind, a5, a3, a4, Result.andThen]
      rfl
    rw [e1]
    exact (congrArg (fun r => Result.andThen r fun v w' => .ok (Next.value v) w') a6)
def upTo : Nat → Nat → List Nat
  | _, 0 => []
  | i, n + 1 => i :: upTo (i + 1) n
theorem upTo_at : ∀ (n i j : Nat) (r : List Nat), j < n → (upTo i n ++ r)[j]? = some (i + j)
  | 0, _, _, _, h => absurd h (Nat.not_lt_zero _)
  | n + 1, i, 0, _, _ => rfl
  | n + 1, i, j + 1, r, h => by
    simp only [upTo, List.cons_append, List.getElem?_cons_succ, upTo_at n (i + 1) j r (by omega)]
    congr 1
    omega
def above (n : Nat) : List Nat → List Nat
  | [] => []
  | i :: r => match Nat.ble n i with | true => i :: above n r | false => above n r
theorem ACall.compactM {P : Program} {f : FuncId} {args : List AV} {r : AV} {M0 M : List Blk} {mv : List Nat} {L : List Nat} (h : ACall P f args M0 r M mv) (hL : nodup L = true) (hp : ∀ i, i < len M0 → L[i]? = some i) : ACall P f args M0 (ren (idx L) r) (pick L M L) mv := by
  intro H E w vals hC hargs
  refine (h H E w vals hC hargs).mono ?_
  rintro e w1 ⟨v, H1, E1, rfl, hr, hC1, hE1⟩
  have hvia : E1.via (E1.pull L) (idx L) := fun i j hij hl => by
    have := idx_ok hij
    simp [Env.pull, this, hl]
  refine ⟨v, H1, E1.pull L, rfl, Rel.ren _ hvia hr, ⟨hC1.imm, hC1.tf, fun j => ?_, fun i j b hi hj hib hjb => ?_, fun i b hi hib => ?_⟩, ⟨hE1.os, hE1.tape, hE1.output, hE1.size, hE1.keep, fun i b hi hib => ?_, hE1.hh, hE1.new, fun i hl hmv => ?_⟩⟩
  · rw [getM_pick]
    cases hj : L[j]? with
    | none => simp only [Env.pull, BlkOk, hj]
    | some i =>
      simp only []
      refine (hC1.blk i).move (HH.le_refl _) hvia ?_ ?_ ?_ ?_ fun _ _ _ => rfl <;> simp [Env.pull, hj]
  · simp only [Env.pull] at hi hj hib hjb
    cases hx : L[i]? with
    | none => rw [hx] at hi; cases hi
    | some x =>
      cases hy : L[j]? with
      | none => rw [hy] at hj; cases hj
      | some y =>
        rw [hx] at hi hib; rw [hy] at hj hjb
        have := hC1.inj x y b hi hj hib hjb
        subst this
        exact nodup_ok hL i j x hx hy
  · simp only [Env.pull] at hi hib
    cases hx : L[i]? with
    | none => rw [hx] at hi; cases hi
    | some x => rw [hx] at hi hib; exact hC1.sep x b hi hib
  · simp only [Env.pull] at hi hib
    cases hx : L[i]? with
    | none => rw [hx] at hi; cases hi
    | some x => rw [hx] at hi hib; exact hE1.own x b hi hib
  · have hi : i < len M0 := by
      rcases Nat.lt_or_ge i (len M0) with h | h
      · exact h
      · have := hC.blk i
        rw [getM_len _ _ h] at this
        rw [show E.lv i = false from this] at hl; cases hl
    have := hE1.ids i hl hmv
    simp only [Env.pull, hp i hi]
    exact this
end Go.Ax

namespace Go.Ax
open Go
variable [Inhabited Gl0]
theorem find_of {fn : Func} {n : String} {e : Array Value → Sem Value} (h : fn.name = n) (h1 : Extern.allGenericRows.lookup n = none) (h2 : Extern.allTypedRows.lookup n = none) (h3 : Extern.allRows.lookup n = some e) : Extern.find fn = some e := by
  unfold Extern.find
  simp only [h]
  simp [h1, h2, h3]
theorem next_of {fn : Func} {n : String} (h : fn.name = n) (ho : fn.origin = "") (h1 : Extern.allNextRows.lookup n = none) : Extern.findNext fn = none := by
  unfold Extern.findNext
  simp only [h, ho]
  have h2 : Extern.allNextRows.lookup "" = none := by kernel_rfl
  simp [h1, h2]
def underP (P : Program) (t : TypeId) : Option (TypeId × TypeInfo) := match P.info? t with
  | some i => (match i.desc with
    | .named _ u => (match P.info? u with | some j => some (u, j) | none => none)
    | _ => some (t, i))
  | none => none
theorem under_run {P : Program} {t : TypeId} {r : TypeId × TypeInfo} (h : underP P t = some r) (w : World) : (Extern.Rtype.under t).run P w = .ok r w := by
  unfold underP at h
  split at h
  case h_2 => cases h
  rename_i i hi
  split at h
  · rename_i q u hd
    split at h
    case h_2 => cases h
    rename_i j hj
    cases h
    simp [Extern.Rtype.under, typeInfo, hi, hd, hj, Result.andThen]
  · rename_i hd
    cases h
    cases hdd : i.desc <;> first | exact absurd hdd (hd _ _) | simp [Extern.Rtype.under, typeInfo, hi, hdd, Result.andThen]
def kindD (i : TypeInfo) : Option Nat := match i.desc with
  | .bool => some 1
  | .int .i64 => some (if i.str == "int" then 2 else 6)
  | .int .i8 => some 3 | .int .i16 => some 4 | .int .i32 => some 5
  | .int .u64 => some (if i.str == "uint" then 7 else if i.str == "uintptr" then 12 else 11)
  | .int .u8 => some 8 | .int .u16 => some 9 | .int .u32 => some 10
  | .array _ _ => some 17 | .chan _ _ => some 18 | .func _ _ _ => some 19 | .interface _ => some 20 | .map _ _ => some 21
  | .pointer _ => some 22 | .slice _ => some 23 | .string => some 24 | .struct _ => some 25
  | _ => none
def kindP (P : Program) (t : TypeId) : Option Nat := match underP P t with | some (_, i) => kindD i | none => none
theorem kind_run {P : Program} {t : TypeId} {k : Nat} (h : kindP P t = some k) (w : World) : (Extern.Rtype.kind t).run P w = .ok k w := by
  unfold kindP at h
  split at h
  case h_2 => cases h
  rename_i u i hu
  have h1 := under_run hu w
  unfold kindD at h
  split at h <;> first | (cases h; done) | (rename_i hd; cases h; simp [Extern.Rtype.kind, h1, hd, Result.andThen])
def elemP (P : Program) (t : TypeId) : Option TypeId := match underP P t with
  | some (_, i) => (match i.desc with
    | .array _ e | .chan _ e | .map _ e | .pointer e | .slice e => some e
    | _ => none)
  | none => none
theorem elem_run {P : Program} {t e : TypeId} (h : elemP P t = some e) (w : World) : (Extern.Rtype.elem? t).run P w = .ok (some e) w := by
  unfold elemP at h
  split at h
  case h_2 => cases h
  rename_i u i hu
  have h1 := under_run hu w
  split at h <;> first | (cases h; done) | (rename_i hd; cases h; simp [Extern.Rtype.elem?, h1, hd, Result.andThen])
def isIfD : TypeDesc → Option (Array (String × TypeId))
  | .interface w => some w
  | _ => none
def implP (P : Program) (T V : TypeId) : Option Bool := match P.methodsOfAPack P.depth V || P.methodsOfAPack P.depth T, underP P T, underP P V, P.info? V with
  | false, some (_, i), some (_, j), some k => (match isIfD i.desc, isIfD j.desc with
    | some _, some _ => none
    | some want, none => some (lacking want k.methods).isEmpty
    | none, _ => some false)
  | _, _, _, _ => none
theorem noPackM_run {P : Program} {t : TypeId} {what : String} (h : P.methodsOfAPack P.depth t = false) (w : World) : (Extern.Rtype.noPackMethods what t).run P w = .ok () w := by
  show (if P.methodsOfAPack P.depth t then _ else pure () : Sem Unit).run P w = _
  rw [h]; rfl
theorem noPack_run {P : Program} {t : TypeId} {what : String} (h : P.packed t = false) (w : World) : (Extern.Rtype.noPack what t).run P w = .ok () w := by
  show (if P.packed t then _ else pure () : Sem Unit).run P w = _
  rw [h]; rfl
theorem missing_isNone (want : Array (String × TypeId)) (ms : Array Method) : (Instr.missingMethod want ms).isNone = (lacking want ms).isEmpty := by
  cases h : lacking want ms with
  | nil => rw [missingMethod_none h]; rfl
  | cons a l =>
    obtain ⟨m, hm⟩ := missingMethod_some (want := want) (got := ms) (by rw [h]; simp)
    rw [hm]; rfl
theorem impl_run {P : Program} {T V : TypeId} {b : Bool} (h : implP P T V = some b) (w : World) : (Extern.Rtype.implements T V).run P w = .ok b w := by
  unfold implP at h
  split at h
  case h_2 => cases h
  rename_i u i v j k hp hT hV hk
  simp only [Bool.or_eq_false_iff] at hp
  have h1 := under_run hT w
  have h2 := under_run hV w
  have h3 := noPackM_run (what := "a method set held against an interface's list") hp.1 w
  have h4 := noPackM_run (what := "a method set held against an interface's list") hp.2 w
  have h5 : (typeInfo V).run P w = .ok k w := by simp [typeInfo, hk, Result.andThen]
  unfold Extern.Rtype.implements
  simp only [Sem.run_bind, h1, h2, h3, h4, Result.andThen]
  generalize i.desc = di at h
  generalize j.desc = dj at h
  split at h
  · cases h
  · rename_i want hi hj
    cases h
    cases di <;> simp [isIfD] at hi
    subst hi
    cases dj <;> simp [isIfD] at hj <;> simp [h5, missing_isNone, Result.andThen]
  · rename_i hi
    cases h
    cases di <;> simp [isIfD] at hi <;> (cases dj <;> rfl)
def nameP (P : Program) (t : TypeId) : Option Bool := match P.info? t with
  | some i => (match i.desc with
    | .named _ _ | .bool | .int _ | .float _ | .complex _ | .string | .unsafePointer => some true
    | _ => some false)
  | none => none
theorem name_run {P : Program} {t : TypeId} {b : Bool} (h : nameP P t = some b) (w : World) : (Extern.Rtype.hasName t).run P w = .ok b w := by
  unfold nameP at h
  split at h
  case h_2 => cases h
  rename_i i hi
  split at h <;> cases h
  all_goals
    first
      | (rename_i hd; simp [Extern.Rtype.hasName, typeInfo, hi, hd, Result.andThen]; done)
      | (cases hd : i.desc <;> simp_all [Extern.Rtype.hasName, typeInfo, hi, hd, Result.andThen])
def isChanD : TypeDesc → Bool
  | .chan _ _ => true
  | _ => false
def dirP (P : Program) (T V : TypeId) : Option Bool := match Nat.beq T V with
  | true => some true
  | false => (match nameP P T, nameP P V with
    | some true, some true => some false
    | some _, some _ => (match underP P T, underP P V with
      | some (t, i), some (v, _) => (match isChanD i.desc with | true => none | false => some (Nat.beq t v))
      | _, _ => none)
    | _, _ => none)
theorem dir_run {P : Program} {T V : TypeId} {b : Bool} (h : dirP P T V = some b) (w : World) : (Extern.Rtype.directlyAssignable T V).run P w = .ok b w := by
  unfold dirP at h
  split at h
  · rename_i he
    cases h
    have he := Nat.eq_of_beq_eq_true he
    subst he
    simp [Extern.Rtype.directlyAssignable]
  · rename_i he
    have he : T ≠ V := fun e => by subst e; simp at he
    split at h
    · rename_i q1 q2
      cases h
      simp [Extern.Rtype.directlyAssignable, he, name_run q1, name_run q2, Result.andThen]
    · rename_i b1 b2 hq q1 q2
      split at h
      case h_2 => cases h
      rename_i t i v j hT hV
      split at h
      · cases h
      rename_i hch
      cases h
      have n1 := name_run q1 w
      have n2 := name_run q2 w
      have u1 := under_run hT w
      have u2 := under_run hV w
      have hb : ¬ (b1 = true ∧ b2 = true) := fun ⟨e1, e2⟩ => hq e1 e2
      have hnat : (t == v) = Nat.beq t v := by rw [Bool.eq_iff_iff]; simp
      cases hd : i.desc <;> simp [hd, isChanD] at hch <;> simp [Extern.Rtype.directlyAssignable, he, n1, n2, u1, u2, hd, Result.andThen, hb, hnat]
    · cases h
def ExtV (P : Program) (f : Array Value → Sem Value) (args : List AV) (rd : Nat → Blk) (e : CE) : Prop :=
  ∀ M, (∀ i ∈ e.rd, getM M i = rd i) → ∀ H E w (vals : Array Value), Conc H E w M → RelL args H E vals.toList → ∃ v w' H' E', (f vals).run P w = .ok v w' ∧ Rel e.r H' E' v ∧ Conc H' E' w' (applyW e.wr (killM e.kl M)) ∧ Evol e.kl H E w H' E' w'
theorem relL1 {a : AV} {H : HH} {E : Env} {vals : Array Value} (h : RelL [a] H E vals.toList) : ∃ v, vals = #[v] ∧ Rel a H E v := by
  obtain ⟨v, r, h1, h2, h3⟩ := h
  have h3 : r = [] := h3
  subst h3
  exact ⟨v, Array.ext' h1, h2⟩
theorem relL2 {a b : AV} {H : HH} {E : Env} {vals : Array Value} (h : RelL [a, b] H E vals.toList) : ∃ v u, vals = #[v, u] ∧ Rel a H E v ∧ Rel b H E u := by
  obtain ⟨v, r, h1, h2, u, q, h3, h4, h5⟩ := h
  have h5 : q = [] := h5
  subst h5; subst h3
  exact ⟨v, u, Array.ext' h1, h2, h4⟩
theorem relL3 {a b c : AV} {H : HH} {E : Env} {vs : Array Value} (h : RelL [a, b, c] H E vs.toList) : ∃ x y z, vs = #[x, y, z] ∧ Rel a H E x ∧ Rel b H E y ∧ Rel c H E z := by
  obtain ⟨v, r, h1, h2, u, q, h3, h4, z, p, h5, h6, h7⟩ := h
  have h7 : p = [] := h7
  subst h7; subst h5; subst h3
  exact ⟨v, u, z, Array.ext' h1, h2, h4, h6⟩
theorem ExtV.pure {P : Program} {f : Array Value → Sem Value} {args : List AV} {rd : Nat → Blk} {r : AV} {l : List Nat} (h : ∀ M, (∀ i ∈ l, getM M i = rd i) → ∀ H E w (vals : Array Value), Conc H E w M → RelL args H E vals.toList → ∃ v, (f vals).run P w = .ok v w ∧ Rel r H E v) : ExtV P f args rd ⟨r, l, [], [], []⟩ := by
  intro M hM H E w vals hC ha
  obtain ⟨v, h1, h2⟩ := h M hM H E w vals hC ha
  exact ⟨v, w, H, E, h1, h2, hC, Evol.refl _ _ _ _⟩
theorem handle_run {P : Program} {h : Value} {t : TypeId} (ht : handleType P h = some t) (w : World) : (Extern.Rtype.ofHandle h).run P w = .ok t w := by
  simp [Extern.Rtype.ofHandle, ht, Result.andThen]
theorem rtype_run {P : Program} {h : Value} {t : TypeId} (ht : handleType P h = some t) (hp : P.packed t = false) (w : World) : (Extern.ReflectliteType.ofRtype (.agg #[h])).run P w = .ok t w := by
  have e2 : Extern.ReflectliteType.ofRtype (.agg #[h]) = (do let t ← Extern.Rtype.ofHandle h; Extern.Rtype.noPack "a Type asked or handed on" t; Pure.pure t) := rfl
  rw [e2]
  simp only [Sem.run_bind, handle_run ht, noPack_run hp, Result.andThen]
  rfl
theorem toType_run {P : Program} {rt : TypeId} (hr : cutT P "internal/reflectlite.rtype" = some rt) (t : TypeId) (w : World) : (Extern.ReflectliteType.toType t).run P w = .ok (.iface rt (.agg #[typeHandle P t])) w := by
  simp [Extern.ReflectliteType.toType, cutT_ok hr, Extern.Rtype.handle, Result.andThen]
def hOf (P : Program) (a : AV) : Option TypeId := match a with
  | .s h => handleType P h
  | _ => none
theorem hOf_ok {P : Program} {a : AV} {t : TypeId} (h : hOf P a = some t) {H : HH} {E : Env} {v : Value} (hr : Rel a H E v) : handleType P v = some t := by
  unfold hOf at h
  split at h
  · rw [hr.1]; exact h
  · cases h
def rtOf (P : Program) (a : AV) : Option TypeId := match a with
  | .agg [h] => (match hOf P h with | some t => (match P.packed t with | false => some t | true => none) | none => none)
  | _ => none
theorem rtOf_run {P : Program} {a : AV} {t : TypeId} (h : rtOf P a = some t) {H : HH} {E : Env} {v : Value} (hr : Rel a H E v) (w : World) : (Extern.ReflectliteType.ofRtype v).run P w = .ok t w := by
  unfold rtOf at h
  split at h
  case h_2 => cases h
  rename_i x
  split at h
  case h_2 => cases h
  rename_i t' ht
  split at h
  case h_2 => cases h
  rename_i hp
  cases h
  obtain ⟨vs, rfl, hvs⟩ := hr
  obtain ⟨u, rfl, hu⟩ := relL1 hvs
  exact rtype_run (hOf_ok ht hu) hp w
def rtAV (P : Program) (t : TypeId) : Option AV := match cutT P "internal/reflectlite.rtype" with | some rt => some (.ifc rt (.agg [.s (typeHandle P t)])) | none => none
theorem rtAV_ok {P : Program} {t : TypeId} {a : AV} (h : rtAV P t = some a) (H : HH) (E : Env) (w : World) : ∃ v, (Extern.ReflectliteType.toType t).run P w = .ok v w ∧ Rel a H E v := by
  unfold rtAV at h
  split at h
  case h_2 => cases h
  rename_i rt hrt
  cases h
  exact ⟨_, toType_run hrt t w, _, rfl, _, rfl, _, [], rfl, ⟨rfl, rfl⟩, rfl⟩
def reE (P : Program) (args : List AV) : Option CE := match args with
  | [r] => (match rtOf P r with
    | some t => (match elemP P t with
      | some e => (match rtAV P e with | some a => some ⟨a, [], [], [], []⟩ | none => none)
      | none => none)
    | none => none)
  | _ => none
theorem reE_ok {P : Program} {rd : Nat → Blk} {args : List AV} {e : CE} (h : reE P args = some e) : ExtV P (Extern.ReflectliteType.method Extern.ReflectliteType.elem) args rd e := by
  unfold reE at h
  split at h
  case h_2 => cases h
  rename_i r
  split at h
  case h_2 => cases h
  rename_i t ht
  split at h
  case h_2 => cases h
  rename_i el hel
  split at h
  case h_2 => cases h
  rename_i a ha
  cases h
  refine ExtV.pure fun M _ H E w vals hC hargs => ?_
  obtain ⟨v, rfl, hv⟩ := relL1 hargs
  obtain ⟨u, q1, q2⟩ := rtAV_ok ha H E w
  refine ⟨u, ?_, q2⟩
  have e1 : Extern.ReflectliteType.method Extern.ReflectliteType.elem #[v] = (Extern.ReflectliteType.ofRtype v).bind Extern.ReflectliteType.elem := rfl
  rw [e1]
  show ((Extern.ReflectliteType.ofRtype v) >>= Extern.ReflectliteType.elem).run P w = _
  simp only [Sem.run_bind, rtOf_run ht hv, Result.andThen, Extern.ReflectliteType.elem, elem_run hel, q1]
def relE (P : Program) (f : TypeId → TypeId → Option Bool) (args : List AV) : Option CE := match args with
  | [r, .ifc _ u] => (match rtOf P r, rtOf P u with
    | some t, some u => (match f u t with | some b => some ⟨.s (.bool b), [], [], [], []⟩ | none => none)
    | _, _ => none)
  | _ => none
theorem relE_ok {P : Program} {rd : Nat → Blk} {what : String} {f : TypeId → TypeId → Option Bool} {g : TypeId → TypeId → Sem Bool} (hfg : ∀ u t b w, f u t = some b → (g u t).run P w = .ok b w) {args : List AV} {e : CE} (h : relE P f args = some e) : ExtV P (Extern.ReflectliteType.relation what g) args rd e := by
  unfold relE at h
  split at h
  case h_2 => cases h
  rename_i r ty u
  split at h
  case h_2 => cases h
  rename_i t u' ht hu
  split at h
  case h_2 => cases h
  rename_i b hb
  cases h
  refine ExtV.pure fun M _ H E w vals hC hargs => ?_
  obtain ⟨v, x, rfl, hv, y, rfl, hy⟩ := relL2 hargs
  refine ⟨.bool b, ?_, rfl, rfl⟩
  have e1 : Extern.ReflectliteType.relation what g #[v, .iface ty y] = (do Pure.pure (.bool (← g (← Extern.ReflectliteType.ofRtype y) (← Extern.ReflectliteType.ofRtype v)))) := rfl
  rw [e1]
  simp only [Sem.run_bind, rtOf_run ht hv, rtOf_run hu hy, hfg _ _ _ _ hb, Result.andThen]
  rfl
def implQ (P : Program) (u t : TypeId) : Option Bool := match kindP P u, P.methodsOfAPack P.depth t || P.packed u with
  | some 20, false => implP P u t
  | _, _ => none
theorem implQ_ok {P : Program} (u t : TypeId) (b : Bool) (w : World) (h : implQ P u t = some b) : (Extern.ReflectliteType.implements_ u t).run P w = .ok b w := by
  unfold implQ at h
  split at h
  case h_2 => cases h
  rename_i hk hp
  simp only [Bool.or_eq_false_iff] at hp
  unfold Extern.ReflectliteType.implements_
  simp only [Sem.run_bind, kind_run hk, Result.andThen]
  simp only [bne_self_eq_false, Bool.false_eq_true, if_false, Sem.run_bind, noPackM_run hp.1, noPack_run hp.2, Result.andThen]
  exact impl_run h w
def asgQ (P : Program) (u t : TypeId) : Option Bool := match Nat.beq u t || !(P.methodsOfAPack P.depth t || P.methodsOfAPack P.depth u), dirP P u t, implP P u t with
  | true, some a, some b => some (a || b)
  | _, _, _ => none
theorem asgQ_ok {P : Program} (u t : TypeId) (b : Bool) (w : World) (h : asgQ P u t = some b) : (Extern.ReflectliteType.assignableTo u t).run P w = .ok b w := by
  unfold asgQ at h
  split at h
  case h_2 => cases h
  rename_i a c hp hd hi
  cases h
  have h1 := dir_run hd w
  have h2 := impl_run hi w
  unfold Extern.ReflectliteType.assignableTo
  by_cases he : u = t
  · subst he
    simp [h1, h2, Result.andThen]
  · have hb : Nat.beq u t = false := by cases hq : Nat.beq u t with | false => rfl | true => exact absurd (Nat.eq_of_beq_eq_true hq) he
    rw [hb, Bool.false_or, Bool.not_eq_true', Bool.or_eq_false_iff] at hp
    simp [he, noPackM_run hp.1, noPackM_run hp.2, h1, h2, Result.andThen]
def akE (P : Program) (args : List AV) : Option CE := match args with
  | [h] => (match hOf P h with
    | some t => (match P.packed t, kindP P t with
      | false, some k => some ⟨.s (.int .u8 (Int.ofNat k)), [], [], [], []⟩
      | _, _ => none)
    | none => none)
  | _ => none
theorem akE_ok {P : Program} {rd : Nat → Blk} {args : List AV} {e : CE} (h : akE P args = some e) : ExtV P (Extern.ReflectliteType.abiMethod fun t => do Pure.pure (.int .u8 (← Extern.Rtype.kind t))) args rd e := by
  unfold akE at h
  split at h
  case h_2 => cases h
  rename_i r
  split at h
  case h_2 => cases h
  rename_i t ht
  split at h
  case h_2 => cases h
  rename_i k hp hk
  cases h
  refine ExtV.pure fun M _ H E w vals hC hargs => ?_
  obtain ⟨v, rfl, hv⟩ := relL1 hargs
  refine ⟨.int .u8 (Int.ofNat k), ?_, rfl, rfl⟩
  have e1 : (Extern.ReflectliteType.abiMethod fun t => do Pure.pure (.int .u8 (← Extern.Rtype.kind t))) #[v] = (do let t ← Extern.Rtype.ofHandle v; Extern.Rtype.noPack "a method of abi.Type" t; Pure.pure (.int .u8 (← Extern.Rtype.kind t))) := rfl
  rw [e1]
  simp only [Sem.run_bind, handle_run (hOf_ok ht hv), noPack_run hp, kind_run hk, Result.andThen]
  rfl
def partsE (P : Program) (a : AV) : Option (TypeId × AV × Nat) := match a with
  | .agg [h, p, .s (.int .u64 (.ofNat (n + 1)))] => (match hOf P h, p with
    | some t, .ptr i k sz o => some (t, .ptr i k sz o, n + 1)
    | _, _ => none)
  | _ => none
theorem parts_run {P : Program} {a p : AV} {t : TypeId} {n : Nat} (h : partsE P a = some (t, p, n)) {H : HH} {E : Env} {v : Value} (hr : Rel a H E v) (w : World) : ∃ ad, (Extern.ReflectliteValue.partsAny v).run P w = .ok (some (t, ad, n)) w ∧ Rel p H E (.pointer (some ad)) := by
  unfold partsE at h
  split at h
  case h_2 => cases h
  rename_i x q n'
  split at h
  case h_2 => cases h
  rename_i t' i k sz o ht
  cases h
  obtain ⟨vs, rfl, hvs⟩ := hr
  obtain ⟨u, y, z, rfl, hu, hy, hz⟩ := relL3 hvs
  obtain ⟨rfl, _⟩ := hz
  have hy2 := hy
  obtain ⟨hl, b, hb, rfl⟩ := hy2
  refine ⟨⟨b, k * sz + o, none⟩, ?_, hy⟩
  have e1 : Extern.ReflectliteValue.partsAny (.agg #[u, .pointer (some ⟨b, k * sz + o, none⟩), .int .u64 (.ofNat (n' + 1))]) = (do Pure.pure (some (← Extern.Rtype.ofHandle u, ⟨b, k * sz + o, none⟩, (Int.ofNat (n' + 1)).toNat))) := rfl
  rw [e1]
  simp only [Sem.run_bind, handle_run (hOf_ok ht hu), Result.andThen]
  rfl
theorem partsP_run {P : Program} {a p : AV} {t : TypeId} {n : Nat} (h : partsE P a = some (t, p, n)) (hp : P.packed t = false) {H : HH} {E : Env} {v : Value} (hr : Rel a H E v) (w : World) : ∃ ad, (Extern.ReflectliteValue.parts v).run P w = .ok (some (t, ad, n)) w ∧ Rel p H E (.pointer (some ad)) := by
  obtain ⟨ad, h1, h2⟩ := parts_run h hr w
  refine ⟨ad, ?_, h2⟩
  unfold Extern.ReflectliteValue.parts
  simp only [Sem.run_bind, h1, noPack_run hp, Result.andThen]
  rfl
def vtE (P : Program) (args : List AV) : Option CE := match args with
  | [x] => (match partsE P x with
    | some (t, _, _) => (match rtAV P t with | some a => some ⟨a, [], [], [], []⟩ | none => none)
    | none => none)
  | _ => none
theorem vtE_ok {P : Program} {rd : Nat → Blk} {args : List AV} {z : Sem Value} {e : CE} (h : vtE P args = some e) : ExtV P (Extern.ReflectliteValue.methodAny z fun t _ _ _ => Extern.ReflectliteType.toType t) args rd e := by
  unfold vtE at h
  split at h
  case h_2 => cases h
  rename_i x
  split at h
  case h_2 => cases h
  rename_i t p n hx
  split at h
  case h_2 => cases h
  rename_i a ha
  cases h
  refine ExtV.pure fun M _ H E w vals hC hargs => ?_
  obtain ⟨v, rfl, hv⟩ := relL1 hargs
  obtain ⟨ad, q1, _⟩ := parts_run hx hv w
  obtain ⟨u, q2, q3⟩ := rtAV_ok ha H E w
  refine ⟨u, ?_, q3⟩
  have e1 : (Extern.ReflectliteValue.methodAny z fun t _ _ _ => Extern.ReflectliteType.toType t) #[v] = (do match ← Extern.ReflectliteValue.partsAny v with | none => z | some (t, a, fl) => Extern.ReflectliteType.toType t) := rfl
  rw [e1]
  simp only [Sem.run_bind, q1, Result.andThen, q2]
def voE (P : Program) (nid : Nat) (args : List AV) : Option CE := match args with
  | [.ifc t x] => (match kindP P t, cellsOf x with
    | some k, some l => some ⟨.agg [.s (typeHandle P t), .ptr nid 0 0 0, .s (.int .u64 (.ofNat (k + 128 + 0)))], [nid], [(nid, .box t l)], [], []⟩
    | _, _ => none)
  | _ => none
theorem voE_ok {P : Program} {rd : Nat → Blk} {nid : Nat} (hd : ∀ k, nid ≤ k → rd k = .dead) {args : List AV} {e : CE} (h : voE P nid args = some e) : ExtV P (fun args => Extern.ReflectliteValue.unpack (args.getD 0 (.tuple #[]))) args rd e := by
  unfold voE at h
  split at h
  case h_2 => cases h
  rename_i t x
  split at h
  case h_2 => cases h
  rename_i k l hk hl
  cases h
  intro M hM H E w vals hC hargs
  obtain ⟨v, rfl, y, rfl, hy⟩ := relL1 hargs
  have hdn : getM M nid = .dead := (hM nid (by simp)).trans (hd nid (Nat.le_refl _))
  obtain ⟨c1, c2, _⟩ := cellsOf_ok hl hy
  obtain ⟨b1, b2, b3⟩ := box_new t hC hdn c1 c2
  refine ⟨.agg #[typeHandle P t, .pointer (some ⟨w.heap.size, 0, none⟩), .int .u64 (Int.ofNat (k + 128 + 0))], _, H, _, ?_, ⟨_, rfl, _, _, rfl, ⟨rfl, rfl⟩, _, _, rfl, b1, _, [], rfl, ⟨rfl, rfl⟩, rfl⟩, b2, b3⟩
  show (Extern.ReflectliteValue.unpack (.iface t y)).run P w = _
  simp [Extern.ReflectliteValue.unpack, Extern.ReflectliteValue.mk, Extern.ReflectliteValue.flagIndir, newVar, newRow, Extern.Rtype.handle, kind_run hk, Result.andThen]
def ldE (P : Program) (rd : Nat → Blk) (t : TypeId) (p : AV) : Option AV := match P.underlying t, aLoad P none rd t p with
  | some _, some e => (match e.ob with | [] => some e.r | _ => none)
  | _, _ => none
theorem ldE_ok {P : Program} {rd : Nat → Blk} {t : TypeId} {p r : AV} (h : ldE P rd t p = some r) {H : HH} {E : Env} {w : World} {M : List Blk} (hC : Conc H E w M) (hM : ∀ i ∈ refOf p, getM M i = rd i) {ad : Addr} (hr : Rel p H E (.pointer (some ad))) : ∃ u, (loadVar t ad).run P w = .ok u w ∧ Rel r H E u := by
  unfold ldE at h
  split at h
  case h_2 => cases h
  rename_i d e hu he
  split at h
  case h_2 => cases h
  rename_i hob
  cases h
  rw [aLoad_congr fun i hi => (hM i hi).symm] at he
  obtain ⟨_, u, q1, q2⟩ := load_ok hC hr ⟨d, hu⟩ he (by rw [hob]; exact fun _ h => by cases h)
  refine ⟨u, ?_, q2⟩
  simpa [Instr.loadAt, Instr.sureAddr, Result.andThen] using q1
def vnE (P : Program) (rd : Nat → Blk) (args : List AV) : Option CE := match args with
  | [x] => (match partsE P x with
    | some (t, p, n) => (match P.packed t, ([18, 19, 20, 21, 22, 23, 26] : List Nat).contains (n % 32), ldE P rd t p with
      | false, true, some (.ptr ..) => some ⟨.s (.bool false), refOf p, [], [], []⟩
      | _, _, _ => none)
    | none => none)
  | _ => none
theorem vnE_ok {P : Program} {rd : Nat → Blk} {args : List AV} {z : Sem Value} {e : CE} (h : vnE P rd args = some e) : ExtV P (Extern.ReflectliteValue.method z Extern.ReflectliteValue.isNil) args rd e := by
  unfold vnE at h
  split at h
  case h_2 => cases h
  rename_i x
  split at h
  case h_2 => cases h
  rename_i t p n hx
  split at h
  case h_2 => cases h
  rename_i i k sz o hp hc hld
  cases h
  refine ExtV.pure fun M hM H E w vals hC hargs => ?_
  obtain ⟨v, rfl, hv⟩ := relL1 hargs
  obtain ⟨ad, q1, q2⟩ := partsP_run hx hp hv w
  obtain ⟨u, q3, _, b, _, rfl⟩ := ldE_ok hld hC hM q2
  refine ⟨.bool false, ?_, rfl, rfl⟩
  have e1 : Extern.ReflectliteValue.method z Extern.ReflectliteValue.isNil #[v] = (do match ← Extern.ReflectliteValue.parts v with | none => z | some (t, a, fl) => Extern.ReflectliteValue.isNil t a fl (fl % 32)) := rfl
  rw [e1]
  simp only [Sem.run_bind, q1, Result.andThen, Extern.ReflectliteValue.isNil, hc, Bool.not_true, Bool.false_eq_true, if_false, q3]
  rfl
def veE (P : Program) (rd : Nat → Blk) (args : List AV) : Option CE := match args with
  | [x] => (match partsE P x with
    | some (t, p, n) => (match P.packed t, Nat.beq (n % 32) 22, ldE P rd t p, elemP P t with
      | false, true, some (.ptr i k sz o), some e => (match kindP P e with
        | some q => some ⟨.agg [.s (typeHandle P e), .ptr i k sz o, .s (.int .u64 (.ofNat (q + 128 + 256)))], refOf p, [], [], []⟩
        | none => none)
      | _, _, _, _ => none)
    | none => none)
  | _ => none
theorem veE_ok {P : Program} {rd : Nat → Blk} {args : List AV} {z : Sem Value} {e : CE} (h : veE P rd args = some e) : ExtV P (Extern.ReflectliteValue.method z Extern.ReflectliteValue.elem) args rd e := by
  unfold veE at h
  split at h
  case h_2 => cases h
  rename_i x
  split at h
  case h_2 => cases h
  rename_i t p n hx
  split at h
  case h_2 => cases h
  rename_i i k sz o el hp hc hld hel
  split at h
  case h_2 => cases h
  rename_i q hq
  cases h
  have hc := Nat.eq_of_beq_eq_true hc
  refine ExtV.pure fun M hM H E w vals hC hargs => ?_
  obtain ⟨v, rfl, hv⟩ := relL1 hargs
  obtain ⟨ad, q1, q2⟩ := partsP_run hx hp hv w
  obtain ⟨u, q3, q4⟩ := ldE_ok hld hC hM q2
  have q5 := q4
  obtain ⟨_, b, _, rfl⟩ := q5
  refine ⟨.agg #[typeHandle P el, .pointer (some ⟨b, k * sz + o, none⟩), .int .u64 (Int.ofNat (q + 128 + 256))], ?_, _, rfl, _, _, rfl, ⟨rfl, rfl⟩, _, _, rfl, q4, _, [], rfl, ⟨rfl, rfl⟩, rfl⟩
  have e1 : Extern.ReflectliteValue.method z Extern.ReflectliteValue.elem #[v] = (do match ← Extern.ReflectliteValue.parts v with | none => z | some (t, a, fl) => Extern.ReflectliteValue.elem t a fl (fl % 32)) := rfl
  rw [e1]
  simp only [Sem.run_bind, q1, Result.andThen, hc]
  simp [Extern.ReflectliteValue.elem, q3, elem_run hel, Extern.ReflectliteValue.mk, Extern.Rtype.handle, kind_run hq, Extern.ReflectliteValue.flagIndir, Extern.ReflectliteValue.flagAddr, Result.andThen]
def vsE (P : Program) (rd : Nat → Blk) (args : List AV) : Option CE := match args with
  | [x, y] => (match partsE P x, partsE P y with
    | some (t, p, n), some (s, q, _) => (match P.packed t || P.packed s || Nat.beq (n / 256 % 2) 0, ldE P rd s q, dirP P t s with
      | false, some val, some true => (match aStore P none rd t p val with
        | some e => (match e.ob with
          | [] => some ⟨.tup [], refOf p ++ refOf q ++ ids e.wr, e.wr, [], []⟩
          | _ => none)
        | none => none)
      | _, _, _ => none)
    | _, _ => none)
  | _ => none
theorem vsE_ok {P : Program} {rd : Nat → Blk} {args : List AV} {e : CE} (h : vsE P rd args = some e) : ExtV P Extern.ReflectliteValue.set args rd e := by
  unfold vsE at h
  split at h
  case h_2 => cases h
  rename_i x y
  split at h
  case h_2 => cases h
  rename_i t p n s q m hx hy
  split at h
  case h_2 => cases h
  rename_i val hb hld hdir
  split at h
  case h_2 => cases h
  rename_i e2 he
  split at h
  case h_2 => cases h
  rename_i hob
  cases h
  simp only [Bool.or_eq_false_iff] at hb
  obtain ⟨⟨hp1, hp2⟩, hfl⟩ := hb
  intro M hM H E w vals hC hargs
  obtain ⟨v, u, rfl, hv, hu⟩ := relL2 hargs
  obtain ⟨ad, q1, q2⟩ := partsP_run hx hp1 hv w
  obtain ⟨bd, q3, q4⟩ := partsP_run hy hp2 hu w
  obtain ⟨z, q5, q6⟩ := ldE_ok hld hC (fun i hi => hM i (by simp [hi])) q4
  rw [aStore_congr fun i hi => (hM i (by simp [hi])).symm] at he
  obtain ⟨w', r1, _, _, r4, r5⟩ := store_good hC q2 q6 he (by rw [hob]; exact fun _ h => by cases h)
  have r1 : (storeVar t ad z).run P w = .ok () w' := by simpa [Instr.storeAt, Instr.sureAddr, Result.andThen] using r1
  have hfl : ¬ (n / 256 % 2 = 0) := fun e => by rw [e] at hfl; simp at hfl
  refine ⟨.tuple #[], w', H, E, ?_, ⟨#[], rfl, rfl⟩, r4, r5⟩
  have e1 : Extern.ReflectliteValue.set #[v, u] = (do
      let (some (dst, a, fl), some (src, b, _)) := (← Extern.ReflectliteValue.parts v, ← Extern.ReflectliteValue.parts u)
        | unsupported (.noEntry "extern/(internal/reflectlite.Value).Set.zeroValue")
      if fl / Extern.ReflectliteValue.flagAddr % 2 == 0 then unsupported (.noEntry "extern/(internal/reflectlite.Value).Set.unaddressable")
      let val ← loadVar src b
      if ← Extern.Rtype.directlyAssignable dst src then storeVar dst a val
      else if ← Extern.Rtype.implements dst src then
        if (← Extern.Rtype.kind src) == 20 then
          match val with
          | .nilIface => unsupported (.noEntry "extern/reflectlite: a nil value of one interface type handed on as a value of another")
          | _ => storeVar dst a val
        else storeVar dst a (.iface src val)
      else panicString ("reflectlite.Set: value of type " ++ (← Extern.Rtype.spelt src) ++ " is not assignable to type " ++ (← Extern.Rtype.spelt dst))
      Pure.pure (.tuple #[])) := rfl
  rw [e1]
  simp only [Sem.run_bind, q1, q3, Result.andThen, Extern.ReflectliteValue.flagAddr, beq_iff_eq, hfl, if_false, q5, dir_run hdir, if_true, r1]
  rfl
def ExtOk (P : Program) (g : FuncId) (args : List AV) (rd : Nat → Blk) (e : CE) : Prop :=
  ∀ M, (∀ i ∈ e.rd, getM M i = rd i) → ∀ H E w (vals : Array Value), Conc H E w M → RelL args H E vals.toList → ∃ v w' H' E', (callFunc g vals).run P w = .ok (.value v) w' ∧ Rel e.r H' E' v ∧ Conc H' E' w' (applyW e.wr (killM e.kl M)) ∧ Evol e.kl H E w H' E' w'
theorem ExtV.ok {P : Program} {g : FuncId} {fn : Func} {f : Array Value → Sem Value} {args : List AV} {rd : Nat → Blk} {e : CE} (h : ExtV P f args rd e) (hg : P.funcs[g]? = some fn) (hn : (fn.name == "runtime.NumGoroutine") = false) (hb : fn.body.isNone = true) (h1 : Extern.findNext fn = none) (h2 : Extern.find fn = some f) : ExtOk P g args rd e := by
  intro M hM H E w vals hC ha
  obtain ⟨v, w', H', E', q1, q2, q3, q4⟩ := h M hM H E w vals hC ha
  refine ⟨v, w', H', E', ?_, q2, q3, q4⟩
  rw [run_callFunc_extern hg hn hb h1 h2, q1]
  rfl
def nVO : String := "internal/reflectlite.ValueOf"
def nVT : String := "(internal/reflectlite.Value).Type"
def nVN : String := "(internal/reflectlite.Value).IsNil"
def nVE : String := "(internal/reflectlite.Value).Elem"
def nVS : String := "(internal/reflectlite.Value).Set"
def nRE : String := "(internal/reflectlite.rtype).Elem"
def nRI : String := "(internal/reflectlite.rtype).Implements"
def nRA : String := "(internal/reflectlite.rtype).AssignableTo"
def nAK : String := "(*internal/abi.Type).Kind"
def extN (P : Program) (nid : Nat) (n : String) (args : List AV) (rd : Nat → Blk) : Option CE :=
  if n == nVO then voE P nid args else
  if n == nVT then vtE P args else
  if n == nVN then vnE P rd args else
  if n == nVE then veE P rd args else
  if n == nVS then vsE P rd args else
  if n == nRE then reE P args else
  if n == nRI then relE P (implQ P) args else
  if n == nRA then relE P (asgQ P) args else
  if n == nAK then akE P args else none
def extC (P : Program) (nid : Nat) (g : FuncId) (args : List AV) (rd : Nat → Blk) : Option CE := match P.funcs[g]? with
  | some fn => (match fn.body.isNone && fn.origin == "" with
    | true => extN P nid fn.name args rd
    | false => none)
  | none => none
theorem extC_ok {P : Program} {nid : Nat} {g : FuncId} {args : List AV} {rd : Nat → Blk} {e : CE} (hd : ∀ k, nid ≤ k → rd k = .dead) (h : extC P nid g args rd = some e) : ExtOk P g args rd e := by
  unfold extC at h
  split at h
  case h_2 => cases h
  rename_i fn hg
  split at h
  case h_2 => cases h
  rename_i hb
  simp only [Bool.and_eq_true, beq_iff_eq] at hb
  unfold extN at h
  split at h
  · rename_i hn
    have hn := beq_iff_eq.1 hn
    exact (voE_ok hd h).ok hg (by rw [hn]; decide +kernel) hb.1 (next_of hn hb.2 (by kernel_rfl)) (find_of hn (by kernel_rfl) (by kernel_rfl) (by kernel_rfl))
  split at h
  · rename_i hn
    have hn := beq_iff_eq.1 hn
    exact (vtE_ok h).ok hg (by rw [hn]; decide +kernel) hb.1 (next_of hn hb.2 (by kernel_rfl)) (find_of hn (by kernel_rfl) (by kernel_rfl) (e := Extern.ReflectliteValue.methodAny (Extern.ReflectliteValue.valueError "reflectlite.Value.Type" 0) fun t _ _ _ => Extern.ReflectliteType.toType t) (by kernel_rfl))
  split at h
  · rename_i hn
    have hn := beq_iff_eq.1 hn
    exact (vnE_ok h).ok hg (by rw [hn]; decide +kernel) hb.1 (next_of hn hb.2 (by kernel_rfl)) (find_of hn (by kernel_rfl) (by kernel_rfl) (e := Extern.ReflectliteValue.method (Extern.ReflectliteValue.valueError "reflectlite.Value.IsNil" 0) Extern.ReflectliteValue.isNil) (by kernel_rfl))
  split at h
  · rename_i hn
    have hn := beq_iff_eq.1 hn
    exact (veE_ok h).ok hg (by rw [hn]; decide +kernel) hb.1 (next_of hn hb.2 (by kernel_rfl)) (find_of hn (by kernel_rfl) (by kernel_rfl) (e := Extern.ReflectliteValue.method (Extern.ReflectliteValue.valueError "reflectlite.Value.Elem" 0) Extern.ReflectliteValue.elem) (by kernel_rfl))
  split at h
  · rename_i hn
    have hn := beq_iff_eq.1 hn
    exact (vsE_ok h).ok hg (by rw [hn]; decide +kernel) hb.1 (next_of hn hb.2 (by kernel_rfl)) (find_of hn (by kernel_rfl) (by kernel_rfl) (by kernel_rfl))
  split at h
  · rename_i hn
    have hn := beq_iff_eq.1 hn
    exact (reE_ok h).ok hg (by rw [hn]; decide +kernel) hb.1 (next_of hn hb.2 (by kernel_rfl)) (find_of hn (by kernel_rfl) (by kernel_rfl) (by kernel_rfl))
  split at h
  · rename_i hn
    have hn := beq_iff_eq.1 hn
    exact (relE_ok implQ_ok h).ok hg (by rw [hn]; decide +kernel) hb.1 (next_of hn hb.2 (by kernel_rfl)) (find_of hn (by kernel_rfl) (by kernel_rfl) (e := Extern.ReflectliteType.relation "Implements" Extern.ReflectliteType.implements_) (by kernel_rfl))
  split at h
  · rename_i hn
    have hn := beq_iff_eq.1 hn
    exact (relE_ok asgQ_ok h).ok hg (by rw [hn]; decide +kernel) hb.1 (next_of hn hb.2 (by kernel_rfl)) (find_of hn (by kernel_rfl) (by kernel_rfl) (e := Extern.ReflectliteType.relation "AssignableTo" Extern.ReflectliteType.assignableTo) (by kernel_rfl))
  split at h
  · rename_i hn
    have hn := beq_iff_eq.1 hn
    exact (akE_ok h).ok hg (by rw [hn]; decide +kernel) hb.1 (next_of hn hb.2 (by kernel_rfl)) (find_of hn (by kernel_rfl) (by kernel_rfl) (e := Extern.ReflectliteType.abiMethod fun t => do Pure.pure (.int .u8 (← Extern.Rtype.kind t))) (by kernel_rfl))
  · cases h
def methP (P : Program) (ty : TypeId) (name : String) (av : AV) : Option (FuncId × AV) := match P.info? ty with
  | some i => (match findM name i.methods.toList with
    | some m => (match m.path.toList, m.func, av with
      | [s], some (f, b), .agg cs => (match s.deref, P.underlying s.struct with
        | false, some (.struct fields) => (match fields[s.index]? with
          | some fd => (match aPart P fd.type cs fd.offset, P.underlying fd.type with
            | some a, some d => (match b == isPtrD d || !b && !isPtrD d with | true => some (f, a) | false => none)
            | _, _ => none)
          | none => none)
        | _, _ => none)
      | _, _, _ => none)
    | none => none)
  | none => none
theorem methP_run {P : Program} {w : World} {ty : TypeId} {name : String} {f : FuncId} {av a : AV} {H : HH} {E : Env} {v : Value} (h : methP P ty name av = some (f, a)) (hv : Rel av H E v) (n : Nat) : ∃ x, (method (n + 1) ty v name).run P w = .ok (f, x) w ∧ Rel a H E x := by
  unfold methP at h
  split at h
  case h_2 => cases h
  rename_i i hi
  split at h
  case h_2 => cases h
  rename_i m hm
  split at h
  case h_2 => cases h
  rename_i s f' b cs hp hf
  split at h
  case h_2 => cases h
  rename_i fields hde hst
  split at h
  case h_2 => cases h
  rename_i fd hfd
  split at h
  case h_2 => cases h
  rename_i a' d ha hu
  split at h
  case h_2 => cases h
  rename_i hb
  cases h
  have hm' : i.methods.find? (·.name == name) = some m := by
    rw [findM_eq] at hm
    rw [← Array.find?_toList]; exact hm
  have hpt : m.path = #[s] := Array.ext' hp
  obtain ⟨vs, rfl, hvs⟩ := hv
  obtain ⟨x, q1, q2⟩ := aPart_ok w ha hvs
  refine ⟨x, ?_, q2⟩
  cases b with
  | true =>
    cases d <;> simp [isPtrD] at hb
    simp [method, typeInfo, hi, hm', hpt, hf, follow, hde, hfd, run_underlying hst, q1, receiverAt, run_underlying hu, Place.get, Result.andThen]
  | false =>
    cases d <;> simp [isPtrD] at hb <;> simp [method, typeInfo, hi, hm', hpt, hf, follow, hde, hfd, run_underlying hst, q1, receiverAt, run_underlying hu, Place.get, Result.andThen]
def methR (P : Program) (ty : TypeId) (name : String) (av : AV) : Option (FuncId × AV) := match methE P ty name with
  | some g => some (g, av)
  | none => methP P ty name av
theorem methR_run {P : Program} {w : World} {ty : TypeId} {name : String} {f : FuncId} {av a : AV} {H : HH} {E : Env} {v : Value} (h : methR P ty name av = some (f, a)) (hv : Rel av H E v) (n : Nat) : ∃ x, (method (n + 1) ty v name).run P w = .ok (f, x) w ∧ Rel a H E x := by
  unfold methR at h
  split at h
  · rename_i g hg
    cases h
    exact ⟨v, method_run v hg n, hv⟩
  · exact methP_run h hv n
theorem inv_runR {P : Program} {o : Oper} {T : Nat → AV} {ro : Operand} {name : String} {args : Array Operand} {ats : Array TypeId} {g : FuncId} {ty : TypeId} {av rv : AV} {H : HH} {E : Env} {w : World} {a : Act}
    (hop : o.op = .call { callee := .invoke ro name, args, argTypes := ats }) (hr : ev T ro = .ifc ty av) (hm : methR P ty name av = some (g, rv)) (hT : RelT T H E a) :
    ∃ vals, RelL (rv :: args.toList.map (ev T)) H E vals.toList ∧ (execOp a.eval o).run P w = (callFunc g vals).run P w := by
  have h1 := rel_ev hT ro
  rw [hr] at h1
  obtain ⟨v, hv, hx⟩ := h1
  obtain ⟨n, hn⟩ : ∃ n, P.types.size + Made.depth = n + 1 := by
    have : 0 < Made.depth := by decide
    exact ⟨P.types.size + Made.depth - 1, by omega⟩
  obtain ⟨x, q1, q2⟩ := methR_run (w := w) hm hx n
  refine ⟨#[x] ++ args.map a.eval, ?_, ?_⟩
  · have := relL_ev hT args.toList
    simp only [Array.toList_append, List.cons_append, List.nil_append, Array.toList_map]
    exact ⟨x, _, rfl, q2, this⟩
  · have h1 : (#[Value.iface ty v] ++ args.map a.eval).extract 1 (#[Value.iface ty v] ++ args.map a.eval).size = args.map a.eval := by
      apply Array.ext'
      simp
      exact List.take_of_length_le (by simp)
    have h0 : (#[Value.iface ty v] ++ args.map a.eval)[0]? = some (.iface ty v) := by
      rw [Array.getElem?_append_left (by simp)]
      rfl
    have h2 : (execOp a.eval o).run P w = (invoke (.fn (.method name) #[]) (#[Value.iface ty v] ++ args.map a.eval)).run P w := by
      simp [execOp, hop, resolve, hv, Result.andThen]
    rw [h2]
    generalize #[Value.iface ty v] ++ args.map a.eval = A at h0 h1
    simp only [invoke, h0, h1]
    simp [callMethod, hn, q1, Result.andThen]
theorem inv_stepR {P : Program} {o : Oper} {T : Nat → AV} {ro : Operand} {name : String} {args : Array Operand} {ats : Array TypeId} {g : FuncId} {ty : TypeId} {av rv : AV} {fn : Func} {M M' : List Blk} {r : AV} {mv : List Nat}
    (hop : o.op = .call { callee := .invoke ro name, args, argTypes := ats }) (hr : ev T ro = .ifc ty av) (hm : methR P ty name av = some (g, rv)) (hg : P.funcs[g]? = some fn) (hn : (fn.name == "runtime.NumGoroutine") = false) (hb : fn.body.isNone = false)
    (h : ACall P g (rv :: args.toList.map (ev T)) M r M' mv) :
    ∀ H E w a (K : Act → World → Prop) (Q : Exit → Act → World → Prop), Conc H E w M → RelT T H E a → (∀ v w' H' E', Rel r H' E' v → Conc H' E' w' M' → Evol mv H E w H' E' w' → K (a.put o.dst v) w') → o.wp P a w K Q := by
  intro H E w a K Q hC hT hk
  obtain ⟨vals, hargs, hrun⟩ := inv_runR (w := w) hop hr hm hT
  have hrun2 : (execOp a.eval o).run P w = .ok (.enter g vals) w := by
    rw [hrun]
    have hn' : ¬ fn.name = "runtime.NumGoroutine" := by simpa using hn
    have hb' : ¬ fn.body = none := fun e => by simp [e] at hb
    simp [callFunc, hg, hn', hb']
  unfold Oper.wp
  rw [hrun2]
  refine (h H E w _ hC hargs).mono ?_
  rintro e w' ⟨v, H', E', rfl, hr', hC', hE'⟩
  exact hk v w' H' E' hr' hC' hE'
end Go.Ax
