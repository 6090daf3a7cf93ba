import Derived.Stop.Asserts
import Derived.Laws.Externs
import Derived.Test.YtckklclehofddaaDoorE4
import Derived.Test.YtckklclehofddaaDoorE5
set_option linter.unusedVariables false
set_option linter.unusedSimpArgs false
set_option linter.unusedSectionVars false
/-! What says less. -/
namespace Go.Ax
open Go
variable [Inhabited Gl0]

def kindB : IntKind → IntKind → Bool
  | a, b => decide (a = b)
def veq : Value → Value → Prop
  | .int k a, .int k' b => (match kindB k k' with | true => a = b | false => False)
  | .bool a, .bool b => a = b
  | .string a, .string b => a = b
  | .nilIface, .nilIface => True
  | .nilFunc, .nilFunc => True
  | .pointer none, .pointer none => True
  | .slice none 0 0, .slice none 0 0 => True
  | a, b => a = b
theorem veq_eq {a b : Value} (h : veq a b) : a = b := by
  unfold veq at h
  split at h
  · rename_i k a k' b
    split at h
    · rename_i hk
      have := of_decide_eq_true hk
      rw [this, h]
    · exact h.elim
  · rw [h]
  · rw [h]
  · rfl
  · rfl
  · rfl
  · rfl
  · exact h
def isNilS : Value → Bool
  | .slice none 0 0 => true
  | _ => false
def fnB : Fn → Fn → Bool
  | .func f, .func g => Nat.beq f g
  | _, _ => false
theorem fnB_eq {a b : Fn} (h : fnB a b = true) : a = b := by
  unfold fnB at h
  split at h
  · rw [Nat.eq_of_beq_eq_true h]
  · cases h

/-- one value says no more than another; what lies in slices is the same -/
def sameC (n sz : Nat) (c c' : Nat → Nat → AV) : Prop := ∀ k, k < n → ∀ j, j < sz → c k j = c' k j
def le0 : AV → AV → Prop
  | .s v, .s u => veq v u
  | .s v, .y u => veq v u
  | .s v, .ys _ _ n _ => (match isNilS v with | true => n = 0 | false => False)
  | .y v, .s u => veq v u
  | .y v, .y u => veq v u
  | .sl d sz n c, .sl d' sz' n' c' => (match Nat.beq sz sz' with | true => d = d' ∧ n = n' ∧ sameC n sz c c' | false => False)
  | .sl d sz n c, .ys d' sz' n' c' => (match Nat.beq sz sz' with | true => d = d' ∧ n = n' ∧ sameC n sz c c' | false => False)
  | .ys d sz n c, .ys d' sz' n' c' => (match Nat.beq sz sz' with | true => d = d' ∧ n = n' ∧ sameC n sz c c' | false => False)
  | _, .junk => True
  | a, b => a = b
theorem nil_ys {v : Value} {H : HH} {E : Env} {b : Bool} {sz n : Nat} {c : Nat → Nat → AV} (hn : isNilS v = true) (h : n = 0) : Rel (.ys b sz n c) H E v := by
  subst h
  unfold isNilS at hn
  split at hn
  · exact ⟨none, 0, rfl, ⟨Nat.le_refl _, fun _ => rfl⟩, fun h => by omega⟩
  · cases hn
theorem rel_le0 {a b : AV} {H : HH} {E : Env} {v : Value} (h : le0 a b) (hr : Rel a H E v) : Rel b H E v := by
  unfold le0 at h
  split at h
  · obtain ⟨rfl, hs⟩ := hr; rw [← veq_eq h]; exact ⟨rfl, hs⟩
  · obtain ⟨rfl, hs⟩ := hr; rw [← veq_eq h]; exact ⟨rfl, hs⟩
  · obtain ⟨rfl, hs⟩ := hr
    split at h
    · rename_i hn; exact nil_ys hn h
    · exact h.elim
  · obtain ⟨rfl, hs⟩ := hr; rw [← veq_eq h]; exact ⟨rfl, hs⟩
  · obtain ⟨rfl, hs⟩ := hr; rw [← veq_eq h]; exact ⟨rfl, hs⟩
  all_goals
    first
      | (split at h
         · rename_i hb
           simp only [Nat.beq_eq] at hb
           subst hb
           obtain ⟨rfl, rfl, hc⟩ := h
           obtain ⟨a, cap, hu, hn, hk⟩ := hr
           refine ⟨a, cap, hu, hn, fun h0 => ?_⟩
           obtain ⟨ad, ha, hk⟩ := hk h0
           refine ⟨ad, ha, fun k hkn j hj => ?_⟩
           obtain ⟨x, hx, h1, h2⟩ := hk k hkn j hj
           exact ⟨x, hx, h1, by rw [← hc k hkn j hj]; exact h2⟩
         · exact h.elim)
      | trivial
      | (rw [← h]; exact hr)
def contLe (n sz : Nat) (c c' : Nat → Nat → AV) : Prop := ∀ k, k < n → ∀ j, j < sz → le0 (c k j) (c' k j)
def cellLe (m : Nat) (c c' : Nat → AV) : Prop := ∀ j, j < m → le0 (c j) (c' j)
mutual
def AV.le : AV → AV → Prop
  | .s v, b => (match b with
    | .junk => True
    | .s u => veq v u
    | .y u => veq v u
    | .ys _ _ n _ => (match isNilS v with | true => n = 0 | false => False)
    | _ => False)
  | .y v, b => (match b with
    | .junk => True
    | .y u => veq v u
    | .s u => veq v u
    | _ => False)
  | .junk, b => (match b with | .junk => True | _ => False)
  | .ptr i k sz o, b => (match b with
    | .junk => True
    | .ptr i' k' sz' o' => (match Nat.beq i i' && Nat.beq sz sz' with | true => k = k' ∧ o = o' | false => False)
    | _ => False)
  | .own i sz lo n, b => (match b with
    | .junk => True
    | .own i' sz' lo' n' => (match Nat.beq i i' && Nat.beq sz sz' with | true => lo = lo' ∧ n = n' | false => False)
    | _ => False)
  | .mref i, b => (match b with
    | .junk => True
    | .mref i' => (match Nat.beq i i' with | true => True | false => False)
    | _ => False)
  | .sl d sz n c, b => (match b with
    | .junk => True
    | .sl d' sz' n' c' => (match Nat.beq sz sz' with | true => d = d' ∧ n = n' ∧ contLe n sz c c' | false => False)
    | .ys d' sz' n' c' => (match Nat.beq sz sz' with | true => d = d' ∧ n = n' ∧ contLe n sz c c' | false => False)
    | _ => False)
  | .ys d sz n c, b => (match b with
    | .junk => True
    | .ys d' sz' n' c' => (match Nat.beq sz sz' with | true => d = d' ∧ n = n' ∧ contLe n sz c c' | false => False)
    | _ => False)
  | .yn d sz n c, b => (match b with
    | .junk => True
    | b => AV.yn d sz n c = b)
  | .ip d m c, b => (match b with
    | .junk => True
    | .ip d' m' c' => d = d' ∧ m' ≤ m ∧ cellLe m' c c'
    | _ => False)
  | .agg cs, b => (match b with
    | .junk => True
    | .agg cs' => leL cs cs'
    | _ => False)
  | .tup cs, b => (match b with
    | .junk => True
    | .tup cs' => leL cs cs'
    | _ => False)
  | .fn f x y, b => (match b with
    | .junk => True
    | .fn f' x' y' => (match fnB f f' with | true => leL x x' ∧ leL y y' | false => False)
    | _ => False)
  | .ifc t a, b => (match b with
    | .junk => True
    | .ifc t' a' => (match Nat.beq t t' with | true => a.le a' | false => False)
    | _ => False)
def leL : List AV → List AV → Prop
  | [], l => (match l with | [] => True | _ => False)
  | a :: as, l => (match l with
    | .junk :: bs => leL as bs
    | b :: bs => a.le b ∧ leL as bs
    | [] => False)
end

mutual
theorem rel_le : ∀ (a : AV) {b : AV} {H : HH} {E : Env} {v : Value}, a.le b → Rel a H E v → Rel b H E v
  | .s u, b, H, E, v, h, hr => by
    obtain ⟨rfl, hs⟩ := hr
    cases b <;> simp only [AV.le] at h <;> try exact h.elim
    · rw [← veq_eq h]; exact ⟨rfl, hs⟩
    · rw [← veq_eq h]; exact ⟨rfl, hs⟩
    · trivial
    · split at h
      · rename_i hn; exact nil_ys hn h
      · exact h.elim
  | .y u, b, H, E, v, h, hr => by
    obtain ⟨rfl, hs⟩ := hr
    cases b <;> simp only [AV.le] at h <;> try exact h.elim
    · rw [← veq_eq h]; exact ⟨rfl, hs⟩
    · rw [← veq_eq h]; exact ⟨rfl, hs⟩
    · trivial
  | .junk, b, H, E, v, h, hr => by
    cases b <;> simp only [AV.le] at h <;> first | exact h.elim | trivial
  | .ptr i k sz o, b, H, E, v, h, hr => by
    cases b <;> simp only [AV.le] at h <;> try exact h.elim
    · trivial
    · split at h
      · rename_i hb
        simp only [Bool.and_eq_true, Nat.beq_eq] at hb
        obtain ⟨rfl, rfl⟩ := hb
        obtain ⟨rfl, rfl⟩ := h
        exact hr
      · exact h.elim
  | .own i sz lo n, b, H, E, v, h, hr => by
    cases b <;> simp only [AV.le] at h <;> try exact h.elim
    · trivial
    · split at h
      · rename_i hb
        simp only [Bool.and_eq_true, Nat.beq_eq] at hb
        obtain ⟨rfl, rfl⟩ := hb
        obtain ⟨rfl, rfl⟩ := h
        exact hr
      · exact h.elim
  | .mref i, b, H, E, v, h, hr => by
    cases b <;> simp only [AV.le] at h <;> try exact h.elim
    · trivial
    · split at h
      · rename_i hb
        simp only [Nat.beq_eq] at hb
        subst hb
        exact hr
      · exact h.elim
  | .sl d sz n c, b, H, E, v, h, hr => by
    cases b <;> simp only [AV.le] at h <;> try exact h.elim
    · trivial
    · split at h
      · rename_i hb
        simp only [Nat.beq_eq] at hb
        subst hb
        obtain ⟨rfl, rfl, hc⟩ := h
        obtain ⟨a, cap, hu, hn, hk⟩ := hr
        refine ⟨a, cap, hu, hn, fun h0 => ?_⟩
        obtain ⟨ad, ha, hk⟩ := hk h0
        refine ⟨ad, ha, fun k hkn j hj => ?_⟩
        obtain ⟨x, hx, h1, h2⟩ := hk k hkn j hj
        exact ⟨x, hx, h1, rel_le0 (hc k hkn j hj) h2⟩
      · exact h.elim
    · split at h
      · rename_i hb
        simp only [Nat.beq_eq] at hb
        subst hb
        obtain ⟨rfl, rfl, hc⟩ := h
        obtain ⟨a, cap, hu, hn, hk⟩ := hr
        refine ⟨a, cap, hu, hn, fun h0 => ?_⟩
        obtain ⟨ad, ha, hk⟩ := hk h0
        refine ⟨ad, ha, fun k hkn j hj => ?_⟩
        obtain ⟨x, hx, h1, h2⟩ := hk k hkn j hj
        exact ⟨x, hx, h1, rel_le0 (hc k hkn j hj) h2⟩
      · exact h.elim
  | .ys d sz n c, b, H, E, v, h, hr => by
    cases b <;> simp only [AV.le] at h <;> try exact h.elim
    · trivial
    · split at h
      · rename_i hb
        simp only [Nat.beq_eq] at hb
        subst hb
        obtain ⟨rfl, rfl, hc⟩ := h
        obtain ⟨a, cap, hu, hn, hk⟩ := hr
        refine ⟨a, cap, hu, hn, fun h0 => ?_⟩
        obtain ⟨ad, ha, hk⟩ := hk h0
        refine ⟨ad, ha, fun k hkn j hj => ?_⟩
        obtain ⟨x, hx, h1, h2⟩ := hk k hkn j hj
        exact ⟨x, hx, h1, rel_le0 (hc k hkn j hj) h2⟩
      · exact h.elim
  | .yn d sz n c, b, H, E, v, h, hr => by
    cases b <;> simp only [AV.le] at h <;> first | trivial | (rw [← h]; exact hr)
  | .ip d m c, b, H, E, v, h, hr => by
    cases b <;> simp only [AV.le] at h <;> try exact h.elim
    · trivial
    · obtain ⟨rfl, hm, hc⟩ := h
      obtain ⟨ad, hu, hk⟩ := hr
      refine ⟨ad, hu, fun j hj => ?_⟩
      obtain ⟨x, hx, h1, h2⟩ := hk j (by omega)
      exact ⟨x, hx, h1, rel_le0 (hc j hj) h2⟩
  | .agg cs, b, H, E, v, h, hr => by
    cases b <;> simp only [AV.le] at h <;> try exact h.elim
    · trivial
    · obtain ⟨vs, hu, h2⟩ := hr
      exact ⟨vs, hu, relL_le cs h h2⟩
  | .tup cs, b, H, E, v, h, hr => by
    cases b <;> simp only [AV.le] at h <;> try exact h.elim
    · trivial
    · obtain ⟨vs, hu, h2⟩ := hr
      exact ⟨vs, hu, relL_le cs h h2⟩
  | .fn f x y, b, H, E, v, h, hr => by
    cases b <;> simp only [AV.le] at h <;> try exact h.elim
    · trivial
    · split at h
      · rename_i hb
        have := fnB_eq hb
        subst this
        obtain ⟨p, q, hu, h1, h2⟩ := hr
        exact ⟨p, q, hu, relL_le x h.1 h1, relL_le y h.2 h2⟩
      · exact h.elim
  | .ifc t a, b, H, E, v, h, hr => by
    cases b <;> simp only [AV.le] at h <;> try exact h.elim
    · trivial
    · split at h
      · rename_i hb
        simp only [Nat.beq_eq] at hb
        subst hb
        obtain ⟨x, hu, h1⟩ := hr
        exact ⟨x, hu, rel_le a h h1⟩
      · exact h.elim
theorem relL_le : ∀ (l : List AV) {r : List AV} {H : HH} {E : Env} {vs : List Value}, leL l r → RelL l H E vs → RelL r H E vs
  | [], r, _, _, _, h, hr => by
    cases r with
    | nil => exact hr
    | cons _ _ => exact h.elim
  | a :: as, r, _, _, _, h, hr => by
    obtain ⟨v, q, hv, h1, h2⟩ := hr
    cases r with
    | nil => exact h.elim
    | cons b bs =>
      have key : a.le b ∧ leL as bs → RelL (b :: bs) _ _ _ := fun k => ⟨v, q, hv, rel_le a k.1 h1, relL_le as k.2 h2⟩
      cases b with
      | junk => exact ⟨v, q, hv, trivial, relL_le as h h2⟩
      | _ => exact key h
end
end Go.Ax

/-! States, answers: what says less. -/
namespace Go.Ax
open Go
variable [Inhabited Gl0]

def capLe : Option Nat → Option Nat → Bool
  | _, none => true
  | some a, some b => Nat.beq a b
  | none, some _ => false
def lstLe (sz n : Nat) (cs : List AV) (c' : Nat → Nat → AV) : Prop := ∀ k, k < n → ∀ j, j < sz → le0 (get cs (k * sz + j)) (c' k j) ∧ noRef (c' k j) = true
def esLe : List (Value × AV × Nat) → List (Value × AV × Nat) → Prop
  | [], [] => True
  | (k, a, n) :: r, (k', a', n') :: r' => veq k k' ∧ n = n' ∧ a.le a' ∧ esLe r r'
  | _, _ => False
def Blk.le : Blk → Blk → Prop
  | _, .dead => True
  | .box ty cs, .box ty' cs' => (match Nat.beq ty ty' with | true => leL cs cs' | false => False)
  | .lst ty sz n cap cs, .lst ty' sz' n' cap' cs' => (match Nat.beq ty ty' && Nat.beq sz sz' && Nat.beq n n' && capLe cap cap' with | true => leL cs cs' | false => False)
  | .lst ty sz n cap cs, .row ty' sz' n' cap' c' => (match Nat.beq ty ty' && Nat.beq sz sz' && capLe cap cap' with | true => n = n' ∧ lstLe sz n cs c' | false => False)
  | .row ty sz n cap c, .row ty' sz' n' cap' c' => (match Nat.beq ty ty' && Nat.beq sz sz' && capLe cap cap' with | true => n = n' ∧ contLe n sz c c' | false => False)
  | .mp es ck, .mp es' ck' => ck = ck' ∧ esLe es es'
  | .mp es _, .mi _ _ has _ => (match es with | [] => ∀ x, has x = false | _ => False)
  | .mi kk vk has c, .mi kk' vk' has' c' => kk = kk' ∧ vk = vk' ∧ ∀ x, has x = has' x ∧ (has x = true → c x = c' x)
  | .mit m s l k, .mit m' s' l' k' => (match Nat.beq m m' with | true => s = s' ∧ l = l' ∧ k = k' | false => False)
  | .any, .any => True
  | _, _ => False
theorem esLe_eq : ∀ {es es' : List (Value × AV × Nat)}, esLe es es' → (es.map fun e => (e.1, e.2.2)) = (es'.map fun e => (e.1, e.2.2)) ∧ ∀ {H : HH} {E : Env} {vs : List Value}, RelL (es.map fun e => e.2.1) H E vs → RelL (es'.map fun e => e.2.1) H E vs
  | [], [], _ => ⟨rfl, fun h => h⟩
  | (k, a, n) :: r, (k', a', n') :: r', h => by
    obtain ⟨h1, h2, h3, h4⟩ := h
    obtain ⟨g1, g2⟩ := esLe_eq h4
    refine ⟨by simp only [List.map_cons, veq_eq h1, h2, g1], fun {H E vs} hr => ?_⟩
    obtain ⟨v, q, hv, k1, k2⟩ := hr
    exact ⟨v, q, hv, rel_le _ h3 k1, g2 k2⟩
  | [], _ :: _, h => h.elim
  | _ :: _, [], h => h.elim
def leM : List Blk → List Blk → Prop
  | _, [] => True
  | [], b :: bs => (match b with | .dead => leM [] bs | _ => False)
  | a :: as, b :: bs => (match b with | .dead => leM as bs | b => a.le b ∧ leM as bs)
theorem le_dead (B : Blk) : B.le .dead := by cases B <;> trivial
theorem leM_get : ∀ {M M' : List Blk}, leM M M' → ∀ i, (getM M i).le (getM M' i)
  | M, [], _, i => by rw [getM_nil]; exact le_dead _
  | [], b :: bs, h, i => by
    cases b <;> simp only [leM] at h <;> try exact h.elim
    cases i with
    | zero => exact le_dead _
    | succ i => simpa [getM, getM_nil] using leM_get h i
  | a :: as, b :: bs, h, i => by
    have h2 : a.le b ∧ leM as bs := by
      cases b with
      | dead => exact ⟨le_dead _, h⟩
      | _ => exact h
    cases i with
    | zero => exact h2.1
    | succ i => exact leM_get h2.2 i

def liveB (M : List Blk) (i : Nat) : Bool := match getM M i with | .dead => false | _ => true
mutual
def okA (lv : Nat → Bool) : AV → Bool
  | .ptr i _ _ _ => lv i
  | .own i _ _ _ => lv i
  | .mref i => lv i
  | .agg cs => okL lv cs
  | .tup cs => okL lv cs
  | .fn _ a b => okL lv a && okL lv b
  | .ifc _ a => okA lv a
  | _ => true
def okL (lv : Nat → Bool) : List AV → Bool
  | [] => true
  | a :: r => okA lv a && okL lv r
end
def keepL (lv : Nat → Bool) (i : Nat) : Option Nat := if lv i then some i else none
mutual
theorem ren_ok (lv : Nat → Bool) : ∀ a : AV, okA lv a = true → ren (keepL lv) a = a
  | .s _, _ | .y _, _ | .junk, _ | .sl .., _ | .ys .., _ | .yn .., _ | .ip .., _ => rfl
  | .ptr i k sz o, h => by simp only [okA] at h; simp [ren, keepL, h]
  | .own i sz lo n, h => by simp only [okA] at h; simp [ren, keepL, h]
  | .mref i, h => by simp only [okA] at h; simp [ren, keepL, h]
  | .agg cs, h => by simp only [okA] at h; simp [ren, renL_ok lv cs h]
  | .tup cs, h => by simp only [okA] at h; simp [ren, renL_ok lv cs h]
  | .fn f a b, h => by simp only [okA, Bool.and_eq_true] at h; simp [ren, renL_ok lv a h.1, renL_ok lv b h.2]
  | .ifc t a, h => by simp only [okA] at h; simp [ren, ren_ok lv a h]
theorem renL_ok (lv : Nat → Bool) : ∀ l : List AV, okL lv l = true → renL (keepL lv) l = l
  | [], _ => rfl
  | a :: r, h => by simp only [okL, Bool.and_eq_true] at h; simp [renL, ren_ok lv a h.1, renL_ok lv r h.2]
end
def okB (lv : Nat → Bool) : Blk → Bool
  | .box _ cs => okL lv cs
  | .lst _ _ _ _ cs => okL lv cs
  | .mp es _ => okL lv (es.map fun e => e.2.1)
  | .mit m _ _ _ => lv m
  | _ => true
def okMs (lv : Nat → Bool) : List Blk → Bool
  | [] => true
  | b :: r => okB lv b && okMs lv r
theorem okMs_get {lv : Nat → Bool} : ∀ {M : List Blk}, okMs lv M = true → ∀ i, okB lv (getM M i) = true
  | [], _, i => by rw [getM_nil]; rfl
  | b :: r, h, i => by
    simp only [okMs, Bool.and_eq_true] at h
    cases i with
    | zero => exact h.1
    | succ i => exact okMs_get h.2 i
/-- the ids of blocks that are let go -/
def drops : List Blk → List Blk → Nat → List Nat
  | [], _, _ => []
  | a :: as, l, i => (match a, l with
    | .dead, _ => drops as l.tail (i + 1)
    | _, .dead :: _ => i :: drops as l.tail (i + 1)
    | _, [] => i :: drops as [] (i + 1)
    | _, _ => drops as l.tail (i + 1))
theorem drops_mem : ∀ {M M' : List Blk} {p : Nat} (i : Nat), getM M i ≠ .dead → getM M' i = .dead → p + i ∈ drops M M' p
  | [], _, _, i, h, _ => absurd (getM_nil i) h
  | a :: as, l, p, 0, h, h' => by
    have h : a ≠ .dead := h
    cases l with
    | nil => cases a <;> first | exact absurd rfl h | simp [drops]
    | cons b bs =>
      have h' : b = .dead := h'
      subst h'
      cases a <;> first | exact absurd rfl h | simp [drops]
  | a :: as, l, p, i + 1, h, h' => by
    have h1 : getM l.tail i = .dead := by
      cases l with
      | nil => exact getM_nil i
      | cons b bs => exact h'
    have := drops_mem (M := as) (M' := l.tail) (p := p + 1) i h h1
    rw [show p + 1 + i = p + (i + 1) by omega] at this
    simp only [drops]
    split
    · exact this
    · exact List.mem_cons_of_mem _ this
    · exact List.mem_cons_of_mem _ this
    · exact this

theorem blk_le {H : HH} {E E' : Env} {w : World} {i : Nat} {B B' : Blk} {lv : Nat → Bool} (h : BlkOk H E w i B) (hle : B.le B') (hok : okB lv B' = true) (hv : E.via E' (keepL lv)) (hne : B' ≠ .dead) (hl : E'.lv i = E.lv i) (hι : E'.ι i = E.ι i) (hκ : E'.κ i = E.κ i) (hη : E'.η i = E.η i) : BlkOk H E' w i B' := by
  have hL : ∀ {cs cs' : List AV} {vs : List Value}, leL cs cs' → okL lv cs' = true → RelL cs H E vs → RelL cs' H E' vs := fun h1 h2 h3 => by
    have := RelL.ren _ hv (relL_le _ h1 h3)
    rwa [renL_ok lv _ h2] at this
  have hcap : ∀ {c c' : Option Nat} {m : Nat}, capLe c c' = true → (∀ q, c = some q → m = q) → ∀ q, c' = some q → m = q := by
    intro c c' m h1 h2 q hq
    subst hq
    cases c with
    | none => cases h1
    | some a => rw [h2 a rfl]; exact Nat.eq_of_beq_eq_true h1
  cases B with
  | dead => cases B' <;> first | exact absurd rfl hne | exact hle.elim
  | box ty cs =>
    cases B' with
    | box ty' cs' =>
      simp only [Blk.le] at hle
      split at hle
      case h_2 => exact hle.elim
      rename_i ht
      have ht := Nat.eq_of_beq_eq_true ht
      subst ht
      obtain ⟨h0, b, vs, h1, h2, h3, h4⟩ := h
      exact ⟨hl.trans h0, b, vs, hι.trans h1, h2, h3, hL hle hok h4⟩
    | dead => exact absurd rfl hne
    | _ => exact hle.elim
  | lst ty sz n cap cs =>
    obtain ⟨h0, ha, hb, hc, h1⟩ := h
    cases B' with
    | lst ty' sz' n' cap' cs' =>
      simp only [Blk.le] at hle
      split at hle
      case h_2 => exact hle.elim
      rename_i ht
      simp only [Bool.and_eq_true, Nat.beq_eq] at ht
      obtain ⟨⟨⟨rfl, rfl⟩, rfl⟩, hcl⟩ := ht
      refine ⟨hl.trans h0, by rw [hκ, hη]; exact ha, by rw [hκ]; exact hb, by rw [hκ]; exact hcap hcl hc, ?_⟩
      rw [hι, hκ]
      cases hi : E.ι i with
      | none =>
        rw [hi] at h1
        refine ⟨h1.1, ?_⟩
        have := h1.2
        subst this
        cases cs' with
        | nil => rfl
        | cons _ _ => exact hle.elim
      | some b =>
        rw [hi] at h1
        obtain ⟨vs, h2, h3, h4, h5⟩ := h1
        exact ⟨vs, h2, h3, h4, hL hle hok h5⟩
    | row ty' sz' n' cap' c' =>
      simp only [Blk.le] at hle
      split at hle
      case h_2 => exact hle.elim
      rename_i ht
      simp only [Bool.and_eq_true, Nat.beq_eq] at ht
      obtain ⟨⟨rfl, rfl⟩, hcl⟩ := ht
      obtain ⟨rfl, hle⟩ := hle
      refine ⟨hl.trans h0, by rw [hκ, hη]; exact ha, by rw [hκ]; exact hb, by rw [hκ]; exact hcap hcl hc, ?_⟩
      rw [hι, hκ]
      cases hi : E.ι i with
      | none => rw [hi] at h1; exact h1.1
      | some b =>
        rw [hi] at h1
        obtain ⟨vs, h2, h3, h4, h5⟩ := h1
        refine ⟨vs, h2, h3, h4, fun k hk j hj => ?_⟩
        have hlt : k * sz + j < n * sz := by
          have : (k + 1) * sz ≤ n * sz := Nat.mul_le_mul_right _ hk
          rw [Nat.add_mul, Nat.one_mul] at this
          omega
        have hn : n * sz ≤ E.κ i * sz := Nat.mul_le_mul_right _ ha.2
        have hsz : k * sz + j < vs.size := by omega
        refine ⟨vs[k * sz + j], Array.getElem?_eq_getElem hsz, ?_⟩
        obtain ⟨g1, g2⟩ := hle k hk j hj
        refine Rel.noRef _ g2 (rel_le0 g1 (relL_get h5 (k * sz + j) vs[k * sz + j] ?_))
        rw [List.getElem?_take, if_pos hlt]
        simp [hsz]
    | dead => exact absurd rfl hne
    | _ => exact hle.elim
  | row ty sz n cap c =>
    obtain ⟨h0, ha, hb, hc, h1⟩ := h
    cases B' with
    | row ty' sz' n' cap' c' =>
      simp only [Blk.le] at hle
      split at hle
      case h_2 => exact hle.elim
      rename_i ht
      simp only [Bool.and_eq_true, Nat.beq_eq] at ht
      obtain ⟨⟨rfl, rfl⟩, hcl⟩ := ht
      obtain ⟨rfl, hle⟩ := hle
      refine ⟨hl.trans h0, by rw [hκ, hη]; exact ha, by rw [hκ]; exact hb, by rw [hκ]; exact hcap hcl hc, ?_⟩
      rw [hι, hκ]
      cases hi : E.ι i with
      | none => rw [hi] at h1; exact h1
      | some b =>
        rw [hi] at h1
        obtain ⟨vs, h2, h3, h4, h5⟩ := h1
        refine ⟨vs, h2, h3, h4, fun k hk j hj => ?_⟩
        obtain ⟨x, hx, hr⟩ := h5 k hk j hj
        exact ⟨x, hx, rel_le0 (hle k hk j hj) hr⟩
    | dead => exact absurd rfl hne
    | _ => exact hle.elim
  | mp es ck =>
    obtain ⟨h0, b, ms, h1, h2, h3, h4⟩ := h
    cases B' with
    | mp es' ck' =>
      obtain ⟨rfl, hle⟩ := hle
      obtain ⟨g1, g2⟩ := esLe_eq hle
      refine ⟨hl.trans h0, b, ms, hι.trans h1, h2, h3.trans g1, ?_⟩
      have := RelL.ren _ hv (g2 h4)
      rwa [renL_ok lv _ hok] at this
    | mi kk vk has c =>
      simp only [Blk.le] at hle
      split at hle
      case h_2 => exact hle.elim
      have : ms.toList = [] := by simpa using h3
      refine ⟨hl.trans h0, b, ms, ck, hι.trans h1, h2, fun e he => (by rw [this] at he; cases he), fun x => ?_⟩
      rw [this, hle x]; rfl
    | dead => exact absurd rfl hne
    | _ => exact hle.elim
  | mi kk vk has c =>
    obtain ⟨h0, b, ms, ck, h1, h2, h3, h4⟩ := h
    cases B' with
    | mi kk' vk' has' c' =>
      obtain ⟨rfl, rfl, hle⟩ := hle
      refine ⟨hl.trans h0, b, ms, ck, hι.trans h1, h2, h3, fun x => ?_⟩
      rw [h4 x, ← (hle x).1]
      cases hx : has x with
      | true => simp only; rw [(hle x).2 hx]
      | false => rfl
    | dead => exact absurd rfl hne
    | _ => exact hle.elim
  | mit m s l k =>
    obtain ⟨h0, hm, b, bm, h1, h2, h3⟩ := h
    cases B' with
    | mit m' s' l' k' =>
      simp only [Blk.le] at hle
      split at hle
      case h_2 => exact hle.elim
      rename_i ht
      have ht := Nat.eq_of_beq_eq_true ht
      subst ht
      obtain ⟨rfl, rfl, rfl⟩ := hle
      obtain ⟨g1, g2, _⟩ := hv m m (by simp only [okB] at hok; simp [keepL, hok]) hm
      exact ⟨hl.trans h0, g1, b, bm, hι.trans h1, g2.trans h2, h3⟩
    | dead => exact absurd rfl hne
    | _ => exact hle.elim
  | any =>
    obtain ⟨h0, b, o, h1, h2⟩ := h
    cases B' with
    | any => exact ⟨hl.trans h0, b, o, hι.trans h1, h2⟩
    | dead => exact absurd rfl hne
    | _ => exact hle.elim

theorem mem_le {H : HH} {E : Env} {w : World} {M M' : List Blk} (hC : Conc H E w M) (hle : leM M M') (hok : okMs (liveB M') M' = true) :
    ∃ E', Conc H E' w M' ∧ Evol (drops M M' 0) H E w H E' w ∧ E.via E' (keepL (liveB M')) := by
  have hvia : E.via ⟨fun i => E.lv i && liveB M' i, E.ι, E.κ, E.η⟩ (keepL (liveB M')) := by
    intro i j hij hl
    unfold keepL at hij
    split at hij
    · rename_i hv
      cases hij
      exact ⟨by simp [hl, hv], rfl, rfl, rfl⟩
    · cases hij
  refine ⟨⟨fun i => E.lv i && liveB M' i, E.ι, E.κ, E.η⟩, ⟨hC.imm, hC.tf, fun i => ?_, fun i j b hi hj => ?_, fun i b hi => ?_⟩, ⟨rfl, rfl, rfl, Nat.le_refl _, fun _ _ _ => rfl, fun i b hi hb => .inl ⟨i, ?_, hb⟩, HH.le_refl _, fun _ _ _ h => .inl h, fun i hl hn => ⟨?_, rfl, rfl, rfl⟩⟩, hvia⟩
  · cases hd : getM M' i with
    | dead => show (E.lv i && liveB M' i) = false; simp [liveB, hd]
    | _ =>
      rw [← hd]
      have hlv : liveB M' i = true := by simp [liveB, hd]
      refine blk_le (hC.blk i) (leM_get hle i) (okMs_get hok i) hvia (by rw [hd]; simp) ?_ rfl rfl rfl
      simp [hlv]
  · simp only [Bool.and_eq_true] at hi hj
    exact hC.inj i j b hi.1 hj.1
  · simp only [Bool.and_eq_true] at hi
    exact hC.sep i b hi.1
  · simp only [Bool.and_eq_true] at hi
    exact hi.1
  · simp only [hl, Bool.true_and]
    cases hd : getM M' i with
    | dead =>
      exfalso
      refine hn ?_
      have := drops_mem (M := M) (M' := M') (p := 0) i (fun e => ?_) hd
      · simpa using this
      · have h1 := hC.blk i
        rw [e] at h1
        rw [show E.lv i = false from h1] at hl; cases hl
    | _ => simp [liveB, hd]

def allIn : List Nat → List Nat → Bool
  | [], _ => true
  | a :: r, l => mem l a && allIn r l
theorem allIn_ok : ∀ {l r : List Nat}, allIn l r = true → ∀ i ∈ l, i ∈ r
  | [], _, _, _, h => by cases h
  | a :: l, r, h, i, hi => by
    simp only [allIn, Bool.and_eq_true] at h
    rcases List.mem_cons.1 hi with rfl | hi
    · exact mem_iff.1 h.1
    · exact allIn_ok h.2 i hi

/-- a state that says less, but for what moved -/
def stLe (s s' : St) : Prop := leL s.t s'.t ∧ leM s.m s'.m ∧ (okL (liveB s'.m) s'.t && okMs (liveB s'.m) s'.m) = true
theorem stLe_ok {s s' : St} (h : stLe s s') {H : HH} {E : Env} {w : World} {vs : List Value} (hC : Conc H E w s.m) (hT : RelL s.t H E vs) :
    ∃ E', Conc H E' w s'.m ∧ RelL s'.t H E' vs ∧ Evol (drops s.m s'.m 0) H E w H E' w := by
  obtain ⟨h1, h2, h3⟩ := h
  simp only [Bool.and_eq_true] at h3
  obtain ⟨E', hC', hE, hv⟩ := mem_le hC h2 h3.2
  refine ⟨E', hC', ?_, hE⟩
  have := RelL.ren _ hv (relL_le _ h1 hT)
  rwa [renL_ok _ _ h3.1] at this
def exB : Exit → Exit → Bool
  | .normal, .normal => true
  | .ret, .ret => true
  | .exit i, .exit j => Nat.beq i j
  | _, _ => false
theorem exB_eq {a b : Exit} (h : exB a b = true) : a = b := by
  unfold exB at h
  split at h
  · rfl
  · rfl
  · rw [Nat.eq_of_beq_eq_true h]
  · cases h
def exLe (a b : Exit × St) : Prop :=
  match exB a.1 b.1 && allIn (drops a.2.m b.2.m 0 ++ a.2.mv) b.2.mv with
  | true => stLe a.2 b.2
  | false => False
theorem exLe_ok {P : Program} {c : Code} {s : St} {a b : Exit × St} (h : ACode P c s a.1 a.2) (hle : exLe a b) : ACode P c s b.1 b.2 := by
  unfold exLe at hle
  split at hle
  case h_2 => exact hle.elim
  rename_i hb
  simp only [Bool.and_eq_true] at hb
  rw [← exB_eq hb.1]
  have hmv := allIn_ok hb.2
  refine h.weak ⟨fun i hi => hmv i (List.mem_append_right _ hi), fun H E w vs hC hT => ?_⟩
  obtain ⟨E', h1, h2, h3⟩ := stLe_ok hle hC hT
  exact ⟨E', h1, h2, h3.weak fun i hi => hmv i (List.mem_append_left _ hi)⟩
theorem stLe_pre {P : Program} {c : Code} {s s0 : St} {x : Exit} {s1 : St} (hle : stLe s s0) (h : ACode P c s0 x s1) : ACode P c s x ⟨s1.t, s1.m, s1.mv ++ (drops s.m s0.m 0 ++ s.mv)⟩ := by
  refine ⟨fun i hi => by simp [hi], fun H E w a hC hT hd => ?_⟩
  obtain ⟨E', h1, h2, h3⟩ := stLe_ok hle hC hT
  refine wp_mono (h.2 H E' w a h1 h2 hd) ?_
  rintro x' a' w' ⟨H1, E1, rfl, hd1, hT1, hC1, hE1⟩
  exact ⟨H1, E1, rfl, hd1, hT1, hC1, h3.trans (hE1.weak fun i hi => List.mem_append_left _ hi) fun i hi => List.mem_append_right _ (List.mem_append_left _ hi)⟩

abbrev An := AV × List Blk × List Nat
def ACall' (P : Program) (f : FuncId) (args : List AV) (M : List Blk) (a : An) : Prop := ACall P f args M a.1 a.2.1 a.2.2
def anLe (a b : An) : Prop :=
  match allIn (drops a.2.1 b.2.1 0 ++ a.2.2) b.2.2 && okA (liveB b.2.1) b.1 && okMs (liveB b.2.1) b.2.1 with
  | true => a.1.le b.1 ∧ leM a.2.1 b.2.1
  | false => False
theorem anLe_ok {P : Program} {f : FuncId} {args : List AV} {M : List Blk} {a b : An} (h : ACall' P f args M a) (hle : anLe a b) : ACall' P f args M b := by
  unfold anLe at hle
  split at hle
  case h_2 => exact hle.elim
  rename_i hb
  simp only [Bool.and_eq_true] at hb
  obtain ⟨⟨h1, h2⟩, h3⟩ := hb
  have hmv := allIn_ok h1
  intro H E w vals hC hargs
  refine (h H E w vals hC hargs).mono ?_
  rintro e w' ⟨v, H', E', rfl, hr, hC', hE⟩
  obtain ⟨E2, hC2, hE2, hv⟩ := mem_le hC' hle.2 h3
  refine ⟨v, H', E2, rfl, ?_, hC2, (hE.weak fun i hi => hmv i (List.mem_append_right _ hi)).trans (hE2.weak fun i hi => hmv i (List.mem_append_left _ hi)) fun i hi => hi⟩
  have := Rel.ren _ hv (rel_le _ hle.1 hr)
  rwa [ren_ok _ _ h2] at this
theorem leL_pre {P : Program} {f : FuncId} {args args0 : List AV} {M : List Blk} {a : An} (h : ACall' P f args0 M a) (hle : leL args args0) : ACall' P f args M a := by
  intro H E w vals hC hargs
  exact h H E w vals hC (relL_le _ hle hargs)
end Go.Ax

/-! Calls, reckoned; a function's code. -/
namespace Go.Ax
open Go
variable [Inhabited Gl0]

def nodup : List Nat → Bool
  | [] => true
  | a :: l => !mem l a && nodup l
theorem nodup_ok : ∀ {l : List Nat}, nodup l = true → ∀ (i j a : Nat), l[i]? = some a → l[j]? = some a → i = j
  | [], _, i, _, a, h, _ => by simp at h
  | x :: l, h, i, j, a, hi, hj => by
    simp only [nodup, Bool.and_eq_true, Bool.not_eq_true'] at h
    have hx : ∀ k, l[k]? = some x → False := fun k hk => by
      have := mem_iff.2 (List.mem_of_getElem? hk)
      rw [h.1] at this; cases this
    cases i with
    | zero => cases j with
      | zero => rfl
      | succ j => simp at hi hj; subst hi; exact absurd hj (hx j)
    | succ i => cases j with
      | zero => simp at hi hj; subst hj; exact absurd hi (hx i)
      | succ j => simp at hi hj; rw [nodup_ok h.2 i j a hi hj]
def idx : List Nat → Nat → Option Nat
  | [], _ => none
  | a :: l, i => match Nat.beq a i with
    | true => some 0
    | false => (match idx l i with | some k => some (k + 1) | none => none)
theorem idx_ok : ∀ {l : List Nat} {i j : Nat}, idx l i = some j → l[j]? = some i
  | [], _, _, h => by simp [idx] at h
  | a :: l, i, j, h => by
    simp only [idx] at h
    split at h
    · rename_i hb
      cases h
      rw [Nat.eq_of_beq_eq_true hb]; rfl
    · split at h
      · rename_i k hk
        cases h
        simpa using idx_ok hk
      · cases h
def pick (L : List Nat) (M : List Blk) : List Nat → List Blk
  | [] => []
  | i :: r => renB (idx L) (getM M i) :: pick L M r
theorem getM_pick (L : List Nat) (M : List Blk) : ∀ (r : List Nat) (j : Nat), getM (pick L M r) j = match r[j]? with | some i => renB (idx L) (getM M i) | none => .dead
  | [], j => by simp [pick, getM_nil]
  | i :: r, 0 => rfl
  | i :: r, j + 1 => by simp only [pick, getM, List.getElem?_cons_succ]; exact getM_pick L M r j
def Env.pull (E : Env) (L : List Nat) : Env :=
  ⟨fun j => match L[j]? with | some i => E.lv i | none => false, fun j => match L[j]? with | some i => E.ι i | none => none, fun j => match L[j]? with | some i => E.κ i | none => 0, fun j => match L[j]? with | some i => E.η i | none => 0⟩
theorem ACall.compact {P : Program} {f : FuncId} {args : List AV} {r : AV} {M : List Blk} {mv : List Nat} {L : List Nat} (h : ACall P f args [] r M mv) (hL : nodup L = true) : ACall P f args [] (ren (idx L) r) (pick L M L) [] := by
  intro H E w vals hC hargs
  refine (h H E w vals hC hargs).mono ?_
  rintro e w1 ⟨v, H1, E1, rfl, hr, hC1, hE1⟩
  have hvia : E1.via (E1.pull L) (idx L) := fun i j hij hl => by
    have := idx_ok hij
    simp [Env.pull, this, hl]
  refine ⟨v, H1, E1.pull L, rfl, Rel.ren _ hvia hr, ⟨hC1.imm, hC1.tf, fun j => ?_, fun i j b hi hj hib hjb => ?_, fun i b hi hib => ?_⟩, ⟨hE1.os, hE1.tape, hE1.output, hE1.size, hE1.keep, fun i b hi hib => ?_, hE1.hh, hE1.new, fun i hl _ => ?_⟩⟩
  · rw [getM_pick]
    cases hj : L[j]? with
    | none => simp only [Env.pull, BlkOk, hj]
    | some i =>
      simp only []
      refine (hC1.blk i).move (HH.le_refl _) hvia ?_ ?_ ?_ ?_ fun _ _ _ => rfl <;> simp [Env.pull, hj]
  · simp only [Env.pull] at hi hj hib hjb
    cases hx : L[i]? with
    | none => rw [hx] at hi; cases hi
    | some x =>
      cases hy : L[j]? with
      | none => rw [hy] at hj; cases hj
      | some y =>
        rw [hx] at hi hib; rw [hy] at hj hjb
        have := hC1.inj x y b hi hj hib hjb
        subst this
        exact nodup_ok hL i j x hx hy
  · simp only [Env.pull] at hi hib
    cases hx : L[i]? with
    | none => rw [hx] at hi; cases hi
    | some x => rw [hx] at hi hib; exact hC1.sep x b hi hib
  · simp only [Env.pull] at hi hib
    cases hx : L[i]? with
    | none => rw [hx] at hi; cases hi
    | some x => rw [hx] at hi hib; exact hE1.own x b hi hib
  · have := hC.blk i
    rw [getM_nil] at this
    rw [show E.lv i = false from this] at hl; cases hl

mutual
/-- the ids in a value -/
def idsA : AV → List Nat
  | .ptr i _ _ _ => [i]
  | .own i _ _ _ => [i]
  | .mref i => [i]
  | .agg cs => idsL cs
  | .tup cs => idsL cs
  | .fn _ a b => idsL a ++ idsL b
  | .ifc _ a => idsA a
  | _ => []
def idsL : List AV → List Nat
  | [] => []
  | a :: l => idsA a ++ idsL l
end
def idsB : Blk → List Nat
  | .box _ cs => idsL cs
  | .lst _ _ _ _ cs => idsL cs
  | .mp es _ => idsL (es.map fun e => e.2.1)
  | .mit m _ _ _ => [m]
  | _ => []
def fresh : List Nat → List Nat → List Nat
  | seen, [] => seen
  | seen, i :: r => match mem seen i with | true => fresh seen r | false => fresh (seen ++ [i]) r
/-- the ids that are reached -/
def reach (rd : Nat → Blk) : Nat → List Nat → List Nat
  | 0, l => l
  | n + 1, l => (fun m => match Nat.beq (len m) (len l) with | true => l | false => reach rd n m) (fresh l (l.flatMap fun i => idsB (rd i)))

def wrOf : Nat → Nat → List Blk → List (Nat × Blk)
  | _, _, [] => []
  | p, s, B :: r => (p, renB (shift s) B) :: wrOf (p + 1) s r
theorem place_eq : ∀ (L M : List Blk) (p s : Nat), place M p s L = applyW (wrOf p s L) M
  | [], _, _, _ => rfl
  | B :: r, M, p, s => by simp only [place, wrOf, applyW]; exact place_eq r _ _ _
theorem ids_wrOf : ∀ (L : List Blk) (p s k : Nat), k < len L → p + k ∈ ids (wrOf p s L)
  | [], _, _, _, h => by simp [len] at h
  | B :: r, p, s, 0, _ => by simp [wrOf, ids]
  | B :: r, p, s, k + 1, h => by
    simp only [wrOf, ids, List.mem_cons]
    right
    rw [show p + (k + 1) = p + 1 + k by omega]
    exact ids_wrOf r (p + 1) s k (by simpa [len] using h)

abbrev Ans := AV × List Blk × List Nat × List Prop
/-- a call: place, function, arguments, blocks; the answer, the blocks behind it, the ids that move, what is owed -/
def IH1 := Nat → FuncId → List AV → List Blk → Option Ans
def IH1.Ok (P : Program) (ih : IH1) : Prop := ∀ p g args M r M' mv ob, ih p g args M = some (r, M', mv, ob) → Hold ob → ACall P g args M r M' mv

def only (L : List Nat) (rd : Nat → Blk) (i : Nat) : Blk := match mem L i with | true => rd i | false => .dead
def depth : Nat := 8
def allLtL : List Nat → Nat → Bool := allLt
def callE (ih : IH1) (sub : Bool) (p : Nat) (g : FuncId) (args : List AV) (nid : Nat) (rd : Nat → Blk) : Option CE :=
  match noRefL args with
  | true => (match ih p g (viewL depth (fun _ => .dead) args) [] with
    | some (r, M2, _, ob) => some ⟨ren (shift nid) r, ids (wrOf nid nid M2), wrOf nid nid M2, [], ob⟩
    | none => none)
  | false => (fun L => match sub with
    | false => (match ih p g (viewL depth (only L rd) args) [] with
      | some (r, M2, _, ob) => (match tagT r && allB M2 with
        | true => some ⟨ren (shift nid) r, L ++ ids (wrOf nid nid M2), wrOf nid nid M2, [], ob⟩
        | false => none)
      | none => none)
    | true => (match ih p g (renL (keepIn L) args) (cutF L rd 0 nid) with
      | some (r, M2, mv, ob) => (match lowDead L nid 0 M2 && allLt L nid with
        | true => some ⟨r, L ++ ids (wrS L nid M2), wrS L nid M2, inOnly L [] mv, ob⟩
        | false => none)
      | none => none)) (reach rd depth (fresh [] (idsL args)))

theorem callE_ok {P : Program} {ih : IH1} (hih : ih.Ok P) {sub : Bool} {p nid : Nat} {g : FuncId} {args : List AV} {rd : Nat → Blk} {e : CE} (h : callE ih sub p g args nid rd = some e) (ho : Hold e.ob) (hd : ∀ k, nid ≤ k → rd k = .dead)
    {M : List Blk} (hM : ∀ i ∈ e.rd, getM M i = rd i) : ACall P g args M e.r (applyW e.wr (killM e.kl M)) e.kl := by
  unfold callE at h
  split at h
  · rename_i hno
    split at h
    case h_2 => cases h
    rename_i r M2 mv ob hc
    cases h
    have hcall := hih _ _ _ _ _ _ _ _ hc ho
    simp only [killM]
    rw [← place_eq]
    exact ACall.direct hcall hno fun k hk => (hM _ (ids_wrOf M2 nid nid k hk)).trans (hd _ (by omega))
  · simp only at h
    split at h
    · split at h
      case h_2 => cases h
      rename_i r M2 mv ob hc
      split at h
      case h_2 => cases h
      rename_i ht
      cases h
      have hcall := hih _ _ _ _ _ _ _ _ hc ho
      simp only [killM]
      rw [← place_eq]
      simp only [Bool.and_eq_true] at ht
      refine ACall.borrow (fun i => ?_) hcall ht.1 (fun i => blkT_P (allB_get ht.2 i)) fun k hk => (hM _ (List.mem_append_right _ (ids_wrOf M2 nid nid k hk))).trans (hd _ (by omega))
      unfold only
      split
      · rename_i hm
        exact .inr (hM i (List.mem_append_left _ (mem_iff.1 hm))).symm
      · exact .inl rfl
    · split at h
      case h_2 => cases h
      rename_i r M2 mv ob hc
      split at h
      case h_2 => cases h
      rename_i ht
      cases h
      have hcall := hih _ _ _ _ _ _ _ _ hc ho
      simp only [Bool.and_eq_true] at ht
      refine ACall.sub (fun i hi => hM i (List.mem_append_left _ hi)) (allLt_ok ht.2) hcall ht.1 (fun j h1 h2 => ?_) inOnly_ok.2
      refine (hM j (List.mem_append_right _ ?_)).trans (hd j h1)
      unfold wrS
      rw [ids_eq, List.map_append, ← ids_eq, ← ids_eq, ids_pairs, ids_pairs, List.mem_append]
      exact .inr (mem_iff.1 (mem_upFrom.2 (by omega)))

/-- calls of known functions -/
def plainFn (P : Program) (g : FuncId) : Bool := match P.funcs[g]? with | some fn => !(fn.name == "runtime.NumGoroutine" || fn.body.isNone) | none => false
def callF (P : Program) (ih : IH1) (sub : FuncId → Bool) : CF := fun nid p o t rd =>
  match o.op with
  | .call { callee := .value fo, args, .. } => (match ev t fo with
    | .fn (.func g) first cap => (match plainFn P g with
      | true => callE ih (sub g) p g (first ++ args.toList.map (ev t) ++ cap) nid rd
      | false => none)
    | _ => none)
  | _ => none
theorem callF_ok {P : Program} {ih : IH1} (hih : ih.Ok P) {sub : FuncId → Bool} : CfOk P (callF P ih sub) := by
  intro nid p o t rd e h ho hd M hM
  unfold callF at h
  split at h
  case h_2 => cases h
  rename_i fo args ats hop
  split at h
  case h_2 => cases h
  rename_i g first cap hf
  split at h
  case h_2 => cases h
  rename_i hp
  have hcall := callE_ok hih h ho hd hM
  unfold plainFn at hp
  split at hp
  case h_2 => cases hp
  rename_i fn hg
  simp only [Bool.not_eq_true', Bool.or_eq_false_iff] at hp
  intro H E w a K Q hC hT hdf hk
  exact call_step hop hf hg hp.1 hp.2 hcall H E w a K Q hC hT hk

abbrev ER := Exit × St × List Prop
structure Hints where
  op : FuncId → Nat → Nat → Option Hint
  lp : FuncId → Nat → Option (Exit × (St → Option St))
  sub : FuncId → Bool
  ct : FuncId → List AV → List Blk → Option Ans
def noHints : Hints := ⟨fun _ _ _ => none, fun _ _ => none, fun _ => false, fun _ _ _ => none⟩
def Hints.Ok (P : Program) (ht : Hints) : Prop := ∀ g args M r M' mv ob, ht.ct g args M = some (r, M', mv, ob) → Hold ob → ACall P g args M r M' mv
theorem noHints_ok (P : Program) : noHints.Ok P := fun _ _ _ _ _ _ _ h => by cases h
def keyOf : Code → Option Nat
  | .region id _ _ => some id
  | .seq a _ => keyOf a
  | .block _ c => keyOf c
  | .loop c => keyOf c
  | _ => none

/-- the answer of a function whose code was reckoned -/
def ansOf (P : Program) (fn : Func) (fr : Bool) (e : ER) : Option Ans :=
  match e with
  | (.ret, st, ob) | (.normal, st, ob) => (match resA P st fn.results.toList with
    | some l => (match fr with
      | false => some (resV l, st.m, st.mv, ob)
      | true => (fun L => match nodup L with
        | true => some (ren (idx L) (resV l), pick L st.m L, [], ob)
        | false => none) (reach (getM st.m) depth (fresh [] (idsL l))))
    | none => none)
  | _ => none
def noBlk (M : List Blk) : Bool := match M with | [] => true | _ => false
def inl (P : Program) (ec : FuncId → Code → St → Option ER) (g : FuncId) (args : List AV) (M : List Blk) : Option Ans :=
  match P.funcs[g]? with
  | some fn => (match fn.body with
    | some c => (match ec g c ⟨initT fn.ntmps args, M, []⟩ with
      | some e => ansOf P fn (noBlk M) e
      | none => none)
    | none => none)
  | none => none
/-- the call at a place: by its contract, or by its code -/
def callAt (P : Program) (ht : Hints) (f : FuncId) (rg : Nat) (ec : FuncId → Code → St → Option ER) : IH1 := fun p g args M =>
  match ht.op f rg p with
  | some (.res r M') => some (r, M', [], [ACall P g args M r M' []])
  | _ => (match ht.ct g args M with
    | some a => some a
    | none => inl P ec g args M)

/-- rounds of a loop, one after another -/
def eloop (ec : FuncId → Code → St → Option ER) (f : FuncId) (c : Code) : Nat → St → Option ER
  | 0, _ => none
  | n + 1, st => match ec f c st with
    | some (.normal, st1, ob) => (match eloop ec f c n st1 with
      | some (x, st2, ob2) => some (x, st2, ob ++ ob2)
      | none => none)
    | r => r
def maxRounds : Nat := 65536
def estep (P : Program) (ht : Hints) (ec : FuncId → Code → St → Option ER) (f : FuncId) (c : Code) (st : St) : Option ER :=
  match c with
  | .skip => some (.normal, st, [])
  | .ret => some (.ret, st, [])
  | .exit id => some (.exit id, st, [])
  | .region id ops false => (match ops1 P (ht.op f id) (orE (callF P (callAt P ht f id ec) ht.sub) (xops P (ht.op f id))) ops ops.toList 0 st with
    | some (st', ob) => some (.normal, st', ob)
    | none => none)
  | .region id ops true => (match edraw P (ht.op f id) (orE (callF P (callAt P ht f id ec) ht.sub) (xops P (ht.op f id))) ops ops.toList 0 [] st with
    | some (ds, st') => (match regOk st ds with | true => some (.normal, st', obsOf ds) | false => none)
    | none => none)
  | .seq a b => (match ec f a st with
    | some (.normal, st1, ob) => (match ec f b st1 with
      | some (x, st2, ob2) => some (x, st2, ob ++ ob2)
      | none => none)
    | r => r)
  | .cond c a b => (match ev (get st.t) c with
    | .s (.bool true) => ec f a st
    | .s (.bool false) => ec f b st
    | _ => none)
  | .block id c => (match ec f c st with
    | some (.exit j, st', ob) => (match Nat.beq j id with
      | true => some (.normal, st', ob)
      | false => some (.exit j, st', ob))
    | r => r)
  | .loop c => (match (match keyOf c with | some k => ht.lp f k | none => none) with
    | some (x, g) => (match g st with
      | some st' => some (x, st', [ACode P (.loop c) st x st'])
      | none => none)
    | none => eloop ec f c maxRounds st)
  | _ => none
def ecode (P : Program) (ht : Hints) (n : Nat) : FuncId → Code → St → Option ER :=
  Nat.rec (fun _ _ _ => none) (fun _ ih => estep P ht ih) n

def EcOk (P : Program) (ec : FuncId → Code → St → Option ER) : Prop := ∀ f c st x st' ob, ec f c st = some (x, st', ob) → Hold ob → ACode P c st x st'

theorem eloop_ok {P : Program} {ec : FuncId → Code → St → Option ER} (hec : EcOk P ec) {f : FuncId} {c : Code} : ∀ {n : Nat} {st st' : St} {x : Exit} {ob : List Prop}, eloop ec f c n st = some (x, st', ob) → Hold ob → ∃ m, ARounds P c m st x st'
  | 0, _, _, _, _, h, _ => by cases h
  | n + 1, st, st', x, ob, h, ho => by
    simp only [eloop] at h
    split at h
    · rename_i h1
      split at h
      case h_2 => cases h
      rename_i h2
      cases h
      obtain ⟨o1, o2⟩ := ho.append
      obtain ⟨m, hm⟩ := eloop_ok hec h2 o2
      exact ⟨m + 1, ARounds.next (hec _ _ _ _ _ _ h1 o1) hm⟩
    · rename_i hn
      refine ⟨1, ARounds.out (fun e => ?_) (hec _ _ _ _ _ _ h ho)⟩
      subst e
      exact hn _ _ h
theorem ansOf_ok {P : Program} {f : FuncId} {fn : Func} {c : Code} {args : List AV} {M0 : List Blk} {e : ER} {r : AV} {M : List Blk} {mv : List Nat} {ob : List Prop} (hf : P.funcs[f]? = some fn) (hb : fn.body = some c)
    (h : Hold e.2.2 → ACode P c ⟨initT fn.ntmps args, M0, []⟩ e.1 e.2.1) (ha : ansOf P fn (noBlk M0) e = some (r, M, mv, ob)) (ho : Hold ob) : ACall P f args M0 r M mv := by
  unfold ansOf at ha
  split at ha
  case h_3 => cases ha
  all_goals
    split at ha
    case h_2 => cases ha
    rename_i l hl
    split at ha
    · cases ha
      first
        | exact ACall.of_code hf hb (.inl rfl) (h ho) hl
        | exact ACall.of_code hf hb (.inr rfl) (h ho) hl
    · rename_i hM
      have : M0 = [] := by cases M0 with | nil => rfl | cons _ _ => simp [noBlk] at hM
      subst this
      simp only at ha
      split at ha
      case h_2 => cases ha
      rename_i hn
      cases ha
      first
        | exact ACall.compact (ACall.of_code hf hb (.inl rfl) (h ho) hl) hn
        | exact ACall.compact (ACall.of_code hf hb (.inr rfl) (h ho) hl) hn
theorem inl_ok {P : Program} {ec : FuncId → Code → St → Option ER} (hec : EcOk P ec) {g : FuncId} {args : List AV} {M0 : List Blk} {r : AV} {M : List Blk} {mv : List Nat} {ob : List Prop} (h : inl P ec g args M0 = some (r, M, mv, ob)) (ho : Hold ob) : ACall P g args M0 r M mv := by
  unfold inl at h
  split at h
  case h_2 => cases h
  rename_i fn hf
  split at h
  case h_2 => cases h
  rename_i c hb
  split at h
  case h_2 => cases h
  rename_i e he
  obtain ⟨x, st', ob'⟩ := e
  exact ansOf_ok hf hb (hec _ _ _ _ _ _ he) h ho
theorem callAt_ok {P : Program} {ht : Hints} (hct : ht.Ok P) {f : FuncId} {rg : Nat} {ec : FuncId → Code → St → Option ER} (hec : EcOk P ec) : (callAt P ht f rg ec).Ok P := by
  intro p g args M r M' mv ob h ho
  unfold callAt at h
  split at h
  · cases h
    exact ho _ (List.mem_singleton.2 rfl)
  · split at h
    · rename_i hc
      cases h
      exact hct _ _ _ _ _ _ _ hc ho
    · exact inl_ok hec h ho
theorem estep_ok {P : Program} (hm : P.follows .mixedOrders = true) {ht : Hints} (hct : ht.Ok P) {ec : FuncId → Code → St → Option ER} (hec : EcOk P ec) : EcOk P (estep P ht ec) := by
  intro f c st x st' ob h ho
  unfold estep at h
  split at h
  · cases h; exact ACode.skip
  · cases h; exact ACode.ret
  · cases h; exact ACode.exit
  · split at h
    case h_2 => cases h
    rename_i h1
    cases h
    exact ACode.straight (orE_ok (callF_ok (callAt_ok hct hec)) (xops_ok P _)) h1 ho
  · split at h
    case h_2 => cases h
    rename_i h1
    split at h
    case h_2 => cases h
    rename_i hreg
    cases h
    exact ACode.draw hm (orE_ok (callF_ok (callAt_ok hct hec)) (xops_ok P _)) h1 hreg ho
  · split at h
    · rename_i h1
      split at h
      case h_2 => cases h
      rename_i h2
      cases h
      obtain ⟨o1, o2⟩ := ho.append
      exact (hec _ _ _ _ _ _ h1 o1).seq (hec _ _ _ _ _ _ h2 o2)
    · rename_i hn
      have h1 := hec _ _ _ _ _ _ h ho
      refine ACode.seq_out (fun e => ?_) h1
      subst e
      exact hn _ _ h
  · split at h
    · rename_i hc
      exact ACode.cond hc (hec _ _ _ _ _ _ h ho)
    · rename_i hc
      exact ACode.cond hc (hec _ _ _ _ _ _ h ho)
    · cases h
  · rename_i id c
    split at h
    · rename_i j st1 ob1 h1
      split at h
      · rename_i hb
        cases h
        have := Nat.eq_of_beq_eq_true hb
        subst this
        exact ACode.block_exit (hec _ _ _ _ _ _ h1 ho)
      · rename_i hb
        cases h
        refine ACode.block (hec _ _ _ _ _ _ h1 ho) fun e => ?_
        cases e
        rw [Nat.beq_refl] at hb; cases hb
    · rename_i hn
      refine ACode.block (hec _ _ _ _ _ _ h ho) fun e => ?_
      subst e
      exact hn _ _ _ h
  · split at h
    · split at h
      case h_2 => cases h
      cases h
      exact ho _ (List.mem_singleton.2 rfl)
    · obtain ⟨m, hm⟩ := eloop_ok hec h ho
      exact ACode.loop hm
  · cases h
theorem ecode_ok {P : Program} (hm : P.follows .mixedOrders = true) {ht : Hints} (hct : ht.Ok P) : ∀ n, EcOk P (ecode P ht n)
  | 0 => fun _ _ _ _ _ _ h => by cases h
  | n + 1 => estep_ok hm hct (ecode_ok hm hct n)
end Go.Ax

/-! Calls by interfaces, and Go's own handles of types. -/
namespace Go.Ax
open Go
variable [Inhabited Gl0]

def findM (name : String) : List Method → Option Method
  | [] => none
  | m :: r => match m.name == name with | true => some m | false => findM name r
theorem findM_eq (name : String) : ∀ l, findM name l = l.find? (·.name == name)
  | [] => rfl
  | m :: r => by
    simp only [findM, List.find?_cons, findM_eq name r]
    cases m.name == name <;> rfl
def isPtrD : TypeDesc → Bool
  | .pointer _ => true
  | _ => false
/-- the method of a type, where the receiver is the value itself -/
def methE (P : Program) (ty : TypeId) (name : String) : Option FuncId := match P.info? ty with
  | some i => (match findM name i.methods.toList with
    | some m => (match m.path.toList, m.func, P.underlying ty with
      | [], some (f, b), some d => (match b == isPtrD d || !b && !isPtrD d with | true => some f | false => none)
      | _, _, _ => none)
    | none => none)
  | none => none
theorem method_run {P : Program} {w : World} {ty : TypeId} {name : String} {f : FuncId} (v : Value) (h : methE P ty name = some f) (n : Nat) : (method (n + 1) ty v name).run P w = .ok (f, v) w := by
  unfold methE at h
  split at h
  case h_2 => cases h
  rename_i i hi
  split at h
  case h_2 => cases h
  rename_i m hm
  split at h
  case h_2 => cases h
  rename_i f' b d hp hf hu
  split at h
  case h_2 => cases h
  rename_i hb
  cases h
  have hm' : i.methods.find? (·.name == name) = some m := by
    rw [findM_eq] at hm
    rw [← Array.find?_toList]; exact hm
  have hpt : m.path = #[] := Array.ext' hp
  cases b with
  | true =>
    cases d <;> simp [isPtrD] at hb
    simp [method, typeInfo, hi, hm', hpt, hf, follow, receiverAt, run_underlying hu, Place.get, Result.andThen]
  | false =>
    cases d <;> simp [isPtrD] at hb <;> simp [method, typeInfo, hi, hm', hpt, hf, follow, receiverAt, run_underlying hu, Place.get, Result.andThen]
theorem callMethod_run {P : Program} {w : World} {ty : TypeId} {name : String} {f : FuncId} {v : Value} (h : methE P ty name = some f) (args : Array Value) : (callMethod (.iface ty v) name args).run P w = (callFunc f (#[v] ++ args)).run P w := by
  obtain ⟨n, hn⟩ : ∃ n, P.types.size + Made.depth = n + 1 := by
    have : 0 < Made.depth := by decide
    exact ⟨P.types.size + Made.depth - 1, by omega⟩
  simp [callMethod, hn, method_run v h n, Result.andThen]

/-- a call by an interface as an operation -/
theorem inv_run {P : Program} {o : Oper} {T : Nat → AV} {ro : Operand} {name : String} {args : Array Operand} {ats : Array TypeId} {g : FuncId} {ty : TypeId} {av : AV} {H : HH} {E : Env} {w : World} {a : Act}
    (hop : o.op = .call { callee := .invoke ro name, args, argTypes := ats }) (hr : ev T ro = .ifc ty av) (hm : methE P ty name = some g) (hT : RelT T H E a) :
    ∃ vals, RelL (av :: args.toList.map (ev T)) H E vals.toList ∧ (execOp a.eval o).run P w = (callFunc g vals).run P w := by
  have h1 := rel_ev hT ro
  rw [hr] at h1
  obtain ⟨v, hv, hx⟩ := h1
  refine ⟨#[v] ++ args.map a.eval, ?_, ?_⟩
  · have := relL_ev hT args.toList
    simp only [Array.toList_append, List.cons_append, List.nil_append, Array.toList_map]
    exact ⟨v, _, rfl, hx, this⟩
  · have h1 : (#[Value.iface ty v] ++ args.map a.eval).extract 1 (#[Value.iface ty v] ++ args.map a.eval).size = args.map a.eval := by
      apply Array.ext'
      simp
      exact List.take_of_length_le (by simp)
    have h0 : (#[Value.iface ty v] ++ args.map a.eval)[0]? = some (.iface ty v) := by
      rw [Array.getElem?_append_left (by simp)]
      rfl
    have h2 : (execOp a.eval o).run P w = (invoke (.fn (.method name) #[]) (#[Value.iface ty v] ++ args.map a.eval)).run P w := by
      simp [execOp, hop, resolve, hv, Result.andThen]
    rw [h2]
    generalize #[Value.iface ty v] ++ args.map a.eval = A at h0 h1
    simp only [invoke, h0, h1]
    exact callMethod_run hm _
theorem inv_step {P : Program} {o : Oper} {T : Nat → AV} {ro : Operand} {name : String} {args : Array Operand} {ats : Array TypeId} {g : FuncId} {ty : TypeId} {av : AV} {fn : Func} {M M' : List Blk} {r : AV} {mv : List Nat}
    (hop : o.op = .call { callee := .invoke ro name, args, argTypes := ats }) (hr : ev T ro = .ifc ty av) (hm : methE P ty name = some g) (hg : P.funcs[g]? = some fn) (hn : (fn.name == "runtime.NumGoroutine") = false) (hb : fn.body.isNone = false)
    (h : ACall P g (av :: args.toList.map (ev T)) M r M' mv) :
    ∀ H E w a (K : Act → World → Prop) (Q : Exit → Act → World → Prop), Conc H E w M → RelT T H E a → (∀ v w' H' E', Rel r H' E' v → Conc H' E' w' M' → Evol mv H E w H' E' w' → K (a.put o.dst v) w') → o.wp P a w K Q := by
  intro H E w a K Q hC hT hk
  obtain ⟨vals, hargs, hrun⟩ := inv_run (w := w) hop hr hm hT
  have hrun2 : (execOp a.eval o).run P w = .ok (.enter g vals) w := by
    rw [hrun]
    have hn' : ¬ fn.name = "runtime.NumGoroutine" := by simpa using hn
    have hb' : ¬ fn.body = none := fun e => by simp [e] at hb
    simp [callFunc, hg, hn', hb']
  unfold Oper.wp
  rw [hrun2]
  refine (h H E w _ hC hargs).mono ?_
  rintro e w' ⟨v, H', E', rfl, hr', hC', hE'⟩
  exact hk v w' H' E' hr' hC' hE'

/-! Go's own handles of types -/
def nTO : String := "internal/reflectlite.TypeOf"
def nCo : String := "(internal/reflectlite.rtype).Comparable"
def cutT (P : Program) (n : String) : Option TypeId := match P.cutTypes.find? (·.1 == n) with | some (_, t) => some t | none => none
def extE (P : Program) (g : FuncId) (args : List AV) : Option AV := match P.funcs[g]? with
  | some fn => (match fn.body.isNone && fn.origin == "" with
    | true => (match fn.name == nTO with
      | true => (match args, cutT P "internal/reflectlite.rtype" with
        | [.ifc t _], some rt => some (.ifc rt (.agg [.s (typeHandle P t)]))
        | _, _ => none)
      | false => (match fn.name == nCo with
        | true => (match args with
          | [.agg [.s h]] => (match handleType P h with
            | some t => (match P.packed t || P.holdsPacked P.depth t, P.info? t with
              | false, some i => some (.s (.bool i.comparable))
              | _, _ => none)
            | none => none)
          | _ => none)
        | false => none))
    | false => none)
  | none => none
theorem find_TO {fn : Func} (h : fn.name = nTO) : Extern.find fn = some Extern.ReflectliteType.typeOf := by
  unfold Extern.find
  simp only [h]
  have h1 : Extern.allGenericRows.lookup nTO = none := by kernel_rfl
  have h2 : Extern.allTypedRows.lookup nTO = none := by kernel_rfl
  have h3 : Extern.allRows.lookup nTO = some Extern.ReflectliteType.typeOf := by kernel_rfl
  simp [h1, h2, h3]
theorem next_TO {fn : Func} (h : fn.name = nTO) (ho : fn.origin = "") : Extern.findNext fn = none := by
  unfold Extern.findNext
  simp only [h, ho]
  have h1 : Extern.allNextRows.lookup nTO = none := by kernel_rfl
  have h2 : Extern.allNextRows.lookup "" = none := by kernel_rfl
  simp [h1, h2]
theorem find_Co {fn : Func} (h : fn.name = nCo) : Extern.find fn = some (Extern.ReflectliteType.method fun t => do Extern.Rtype.noPackHeld "Comparable" t; pure (.bool (← typeInfo t).comparable)) := by
  unfold Extern.find
  simp only [h]
  have h1 : Extern.allGenericRows.lookup nCo = none := by kernel_rfl
  have h2 : Extern.allTypedRows.lookup nCo = none := by kernel_rfl
  have h3 : Extern.allRows.lookup nCo = some (Extern.ReflectliteType.method fun t => do Extern.Rtype.noPackHeld "Comparable" t; pure (.bool (← typeInfo t).comparable)) := by kernel_rfl
  simp [h1, h2, h3]
theorem next_Co {fn : Func} (h : fn.name = nCo) (ho : fn.origin = "") : Extern.findNext fn = none := by
  unfold Extern.findNext
  simp only [h, ho]
  have h1 : Extern.allNextRows.lookup nCo = none := by kernel_rfl
  have h2 : Extern.allNextRows.lookup "" = none := by kernel_rfl
  simp [h1, h2]
theorem cutT_ok {P : Program} {n : String} {t : TypeId} (h : cutT P n = some t) (w : World) : (cutType n).run P w = .ok t w := by
  unfold cutT at h
  split at h
  case h_2 => cases h
  rename_i q t' hf
  cases h
  simp [cutType, hf, Result.andThen]
theorem extE_ok {P : Program} {g : FuncId} {args : List AV} {r : AV} (h : extE P g args = some r) {H : HH} {E : Env} {vals : Array Value} (hargs : RelL args H E vals.toList) (w : World) : ∃ v, (callFunc g vals).run P w = .ok (.value v) w ∧ Rel r H E v := by
  unfold extE at h
  split at h
  case h_2 => cases h
  rename_i fn hg
  split at h
  case h_2 => cases h
  rename_i hb
  simp only [Bool.and_eq_true, beq_iff_eq] at hb
  split at h
  · rename_i hn
    have hn := beq_iff_eq.1 hn
    split at h
    case h_2 => cases h
    rename_i t a rt hrt
    cases h
    obtain ⟨v, q, hv, ⟨x, rfl, _⟩, hq⟩ := hargs
    have hq : q = [] := hq
    subst hq
    have hvals : vals = #[.iface t x] := Array.ext' hv
    subst hvals
    refine ⟨.iface rt (.agg #[typeHandle P t]), ?_, ⟨_, rfl, _, rfl, _, [], rfl, ⟨rfl, rfl⟩, rfl⟩⟩
    rw [run_callFunc_extern hg (by rw [hn]; decide +kernel) hb.1 (next_TO hn hb.2) (find_TO hn)]
    have e : Extern.ReflectliteType.typeOf #[.iface t x] = Extern.ReflectliteType.toType t := rfl
    simp [e, Extern.ReflectliteType.toType, cutT_ok hrt, Extern.Rtype.handle, Result.andThen]
  · split at h
    case h_2 => cases h
    rename_i hn
    have hn := beq_iff_eq.1 hn
    split at h
    case h_2 => cases h
    rename_i hd
    split at h
    case h_2 => cases h
    rename_i t ht
    split at h
    case h_2 => cases h
    rename_i i hpk hi
    cases h
    obtain ⟨v, q, hv, ⟨vs, rfl, hvs⟩, hq⟩ := hargs
    have hq : q = [] := hq
    subst hq
    obtain ⟨u, r, hu, ⟨rfl, hs⟩, hr⟩ := hvs
    have hr : r = [] := hr
    subst hr
    have e1 : vs = #[u] := Array.ext' hu
    subst e1
    have hvals : vals = #[.agg #[u]] := Array.ext' hv
    subst hvals
    simp only [Bool.or_eq_false_iff] at hpk
    refine ⟨.bool i.comparable, ?_, ⟨rfl, rfl⟩⟩
    rw [run_callFunc_extern hg (by rw [hn]; decide +kernel) hb.1 (next_Co hn hb.2) (find_Co hn)]
    have e1 : ∀ f : TypeId → Sem Value, Extern.ReflectliteType.method f #[.agg #[u]] = (Extern.ReflectliteType.ofRtype (.agg #[u])).bind f := fun _ => rfl
    have e2 : Extern.ReflectliteType.ofRtype (.agg #[u]) = (do let t ← Extern.Rtype.ofHandle u; Extern.Rtype.noPack "a Type asked or handed on" t; pure t) := rfl
    have a1 : (Extern.Rtype.ofHandle u).run P w = .ok t w := by simp [Extern.Rtype.ofHandle, ht, Result.andThen]
    have a2 : (Extern.Rtype.noPack "a Type asked or handed on" t).run P w = .ok () w := by
      show (if P.packed t then _ else pure () : Sem Unit).run P w = _
      rw [hpk.1]; rfl
    have a3 : (Extern.Rtype.noPackHeld "Comparable" t).run P w = .ok () w := by
      show (if P.holdsPacked P.depth t then _ else pure () : Sem Unit).run P w = _
      rw [hpk.2]; rfl
    have a4 : (typeInfo t).run P w = .ok i w := by simp [typeInfo, hi, Result.andThen]
    have a5 : (Extern.ReflectliteType.ofRtype (.agg #[u])).run P w = .ok t w := by
      rw [e2]
      simp only [Sem.run_bind, a1, a2, Result.andThen]
      rfl
    have a6 : ((Extern.ReflectliteType.ofRtype (.agg #[u])) >>= fun t => do Extern.Rtype.noPackHeld "Comparable" t; pure (Value.bool (← typeInfo t).comparable)).run P w = .ok (.bool i.comparable) w := by
      simp only [Sem.run_bind, a5, a3, a4, Result.andThen]
      rfl
    rw [e1]
    exact (congrArg (fun r => Result.andThen r fun v w' => .ok (Next.value v) w') a6)

/-! what is reached no more goes, where a function returns -/
def upTo : Nat → Nat → List Nat
  | _, 0 => []
  | i, n + 1 => i :: upTo (i + 1) n
theorem upTo_at : ∀ (n i j : Nat) (r : List Nat), j < n → (upTo i n ++ r)[j]? = some (i + j)
  | 0, _, _, _, h => absurd h (Nat.not_lt_zero _)
  | n + 1, i, 0, _, _ => rfl
  | n + 1, i, j + 1, r, h => by
    simp only [upTo, List.cons_append, List.getElem?_cons_succ, upTo_at n (i + 1) j r (by omega)]
    congr 1
    omega
def above (n : Nat) : List Nat → List Nat
  | [] => []
  | i :: r => match Nat.ble n i with | true => i :: above n r | false => above n r
theorem ACall.compactM {P : Program} {f : FuncId} {args : List AV} {r : AV} {M0 M : List Blk} {mv : List Nat} {L : List Nat} (h : ACall P f args M0 r M mv) (hL : nodup L = true) (hp : ∀ i, i < len M0 → L[i]? = some i) : ACall P f args M0 (ren (idx L) r) (pick L M L) mv := by
  intro H E w vals hC hargs
  refine (h H E w vals hC hargs).mono ?_
  rintro e w1 ⟨v, H1, E1, rfl, hr, hC1, hE1⟩
  have hvia : E1.via (E1.pull L) (idx L) := fun i j hij hl => by
    have := idx_ok hij
    simp [Env.pull, this, hl]
  refine ⟨v, H1, E1.pull L, rfl, Rel.ren _ hvia hr, ⟨hC1.imm, hC1.tf, fun j => ?_, fun i j b hi hj hib hjb => ?_, fun i b hi hib => ?_⟩, ⟨hE1.os, hE1.tape, hE1.output, hE1.size, hE1.keep, fun i b hi hib => ?_, hE1.hh, hE1.new, fun i hl hmv => ?_⟩⟩
  · rw [getM_pick]
    cases hj : L[j]? with
    | none => simp only [Env.pull, BlkOk, hj]
    | some i =>
      simp only []
      refine (hC1.blk i).move (HH.le_refl _) hvia ?_ ?_ ?_ ?_ fun _ _ _ => rfl <;> simp [Env.pull, hj]
  · simp only [Env.pull] at hi hj hib hjb
    cases hx : L[i]? with
    | none => rw [hx] at hi; cases hi
    | some x =>
      cases hy : L[j]? with
      | none => rw [hy] at hj; cases hj
      | some y =>
        rw [hx] at hi hib; rw [hy] at hj hjb
        have := hC1.inj x y b hi hj hib hjb
        subst this
        exact nodup_ok hL i j x hx hy
  · simp only [Env.pull] at hi hib
    cases hx : L[i]? with
    | none => rw [hx] at hi; cases hi
    | some x => rw [hx] at hi hib; exact hC1.sep x b hi hib
  · simp only [Env.pull] at hi hib
    cases hx : L[i]? with
    | none => rw [hx] at hi; cases hi
    | some x => rw [hx] at hi hib; exact hE1.own x b hi hib
  · have hi : i < len M0 := by
      rcases Nat.lt_or_ge i (len M0) with h | h
      · exact h
      · have := hC.blk i
        rw [getM_len _ _ h] at this
        rw [show E.lv i = false from this] at hl; cases hl
    have := hE1.ids i hl hmv
    simp only [Env.pull, hp i hi]
    exact this
end Go.Ax
