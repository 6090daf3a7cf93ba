import Derived.Test.YtghhkabankbkoaaTxB
import Derived.Test.YtghhkabankbkoaaAxN
set_option linter.unusedVariables false
set_option linter.unusedSimpArgs false
/-! What says less. -/
namespace Go.Ax
open Go

def kindB : IntKind → IntKind → Bool
  | a, b => decide (a = b)
def veq : Value → Value → Prop
  | .int k a, .int k' b => (match kindB k k' with | true => a = b | false => False)
  | .bool a, .bool b => a = b
  | .string a, .string b => a = b
  | .nilIface, .nilIface => True
  | .nilFunc, .nilFunc => True
  | .pointer none, .pointer none => True
  | .slice none 0 0, .slice none 0 0 => True
  | a, b => a = b
theorem veq_eq {a b : Value} (h : veq a b) : a = b := by
  unfold veq at h
  split at h
  · rename_i k a k' b
    split at h
    · rename_i hk
      have := of_decide_eq_true hk
      rw [this, h]
    · exact h.elim
  · rw [h]
  · rw [h]
  · rfl
  · rfl
  · rfl
  · rfl
  · exact h
def isNilS : Value → Bool
  | .slice none 0 0 => true
  | _ => false
def fnB : Fn → Fn → Bool
  | .func f, .func g => Nat.beq f g
  | _, _ => false
theorem fnB_eq {a b : Fn} (h : fnB a b = true) : a = b := by
  unfold fnB at h
  split at h
  · rw [Nat.eq_of_beq_eq_true h]
  · cases h

/-- one value says no more than another; what lies in slices is the same -/
def sameC (n sz : Nat) (c c' : Nat → Nat → AV) : Prop := ∀ k, k < n → ∀ j, j < sz → c k j = c' k j
def le0 : AV → AV → Prop
  | .s v, .s u => veq v u
  | .s v, .y u => veq v u
  | .s v, .ys _ _ n _ => (match isNilS v with | true => n = 0 | false => False)
  | .y v, .s u => veq v u
  | .y v, .y u => veq v u
  | .sl d sz n c, .sl d' sz' n' c' => (match Nat.beq sz sz' with | true => d = d' ∧ n = n' ∧ sameC n sz c c' | false => False)
  | .sl d sz n c, .ys d' sz' n' c' => (match Nat.beq sz sz' with | true => d = d' ∧ n = n' ∧ sameC n sz c c' | false => False)
  | .ys d sz n c, .ys d' sz' n' c' => (match Nat.beq sz sz' with | true => d = d' ∧ n = n' ∧ sameC n sz c c' | false => False)
  | _, .junk => True
  | a, b => a = b
theorem nil_ys {v : Value} {H : HH} {E : Env} {b : Bool} {sz n : Nat} {c : Nat → Nat → AV} (hn : isNilS v = true) (h : n = 0) : Rel (.ys b sz n c) H E v := by
  subst h
  unfold isNilS at hn
  split at hn
  · exact ⟨none, 0, rfl, ⟨Nat.le_refl _, fun _ => rfl⟩, fun h => by omega⟩
  · cases hn
theorem rel_le0 {a b : AV} {H : HH} {E : Env} {v : Value} (h : le0 a b) (hr : Rel a H E v) : Rel b H E v := by
  unfold le0 at h
  split at h
  · obtain ⟨rfl, hs⟩ := hr; rw [← veq_eq h]; exact ⟨rfl, hs⟩
  · obtain ⟨rfl, hs⟩ := hr; rw [← veq_eq h]; exact ⟨rfl, hs⟩
  · obtain ⟨rfl, hs⟩ := hr
    split at h
    · rename_i hn; exact nil_ys hn h
    · exact h.elim
  · obtain ⟨rfl, hs⟩ := hr; rw [← veq_eq h]; exact ⟨rfl, hs⟩
  · obtain ⟨rfl, hs⟩ := hr; rw [← veq_eq h]; exact ⟨rfl, hs⟩
  all_goals
    first
      | (split at h
         · rename_i hb
           simp only [Nat.beq_eq] at hb
           subst hb
           obtain ⟨rfl, rfl, hc⟩ := h
           obtain ⟨a, cap, hu, hn, hk⟩ := hr
           refine ⟨a, cap, hu, hn, fun h0 => ?_⟩
           obtain ⟨ad, ha, hk⟩ := hk h0
           refine ⟨ad, ha, fun k hkn j hj => ?_⟩
           obtain ⟨x, hx, h1, h2⟩ := hk k hkn j hj
           exact ⟨x, hx, h1, by rw [← hc k hkn j hj]; exact h2⟩
         · exact h.elim)
      | trivial
      | (rw [← h]; exact hr)
def contLe (n sz : Nat) (c c' : Nat → Nat → AV) : Prop := ∀ k, k < n → ∀ j, j < sz → le0 (c k j) (c' k j)
def cellLe (m : Nat) (c c' : Nat → AV) : Prop := ∀ j, j < m → le0 (c j) (c' j)
mutual
def AV.le : AV → AV → Prop
  | .s v, b => (match b with
    | .junk => True
    | .s u => veq v u
    | .y u => veq v u
    | .ys _ _ n _ => (match isNilS v with | true => n = 0 | false => False)
    | _ => False)
  | .y v, b => (match b with
    | .junk => True
    | .y u => veq v u
    | .s u => veq v u
    | _ => False)
  | .junk, b => (match b with | .junk => True | _ => False)
  | .ptr i k sz o, b => (match b with
    | .junk => True
    | .ptr i' k' sz' o' => (match Nat.beq i i' && Nat.beq sz sz' with | true => k = k' ∧ o = o' | false => False)
    | _ => False)
  | .own i sz lo n, b => (match b with
    | .junk => True
    | .own i' sz' lo' n' => (match Nat.beq i i' && Nat.beq sz sz' with | true => lo = lo' ∧ n = n' | false => False)
    | _ => False)
  | .sl d sz n c, b => (match b with
    | .junk => True
    | .sl d' sz' n' c' => (match Nat.beq sz sz' with | true => d = d' ∧ n = n' ∧ contLe n sz c c' | false => False)
    | .ys d' sz' n' c' => (match Nat.beq sz sz' with | true => d = d' ∧ n = n' ∧ contLe n sz c c' | false => False)
    | _ => False)
  | .ys d sz n c, b => (match b with
    | .junk => True
    | .ys d' sz' n' c' => (match Nat.beq sz sz' with | true => d = d' ∧ n = n' ∧ contLe n sz c c' | false => False)
    | _ => False)
  | .yn d sz n c, b => (match b with
    | .junk => True
    | b => AV.yn d sz n c = b)
  | .ip d m c, b => (match b with
    | .junk => True
    | .ip d' m' c' => d = d' ∧ m' ≤ m ∧ cellLe m' c c'
    | _ => False)
  | .agg cs, b => (match b with
    | .junk => True
    | .agg cs' => leL cs cs'
    | _ => False)
  | .tup cs, b => (match b with
    | .junk => True
    | .tup cs' => leL cs cs'
    | _ => False)
  | .fn f x y, b => (match b with
    | .junk => True
    | .fn f' x' y' => (match fnB f f' with | true => leL x x' ∧ leL y y' | false => False)
    | _ => False)
  | .ifc t a, b => (match b with
    | .junk => True
    | .ifc t' a' => (match Nat.beq t t' with | true => a.le a' | false => False)
    | _ => False)
def leL : List AV → List AV → Prop
  | [], l => (match l with | [] => True | _ => False)
  | a :: as, l => (match l with
    | .junk :: bs => leL as bs
    | b :: bs => a.le b ∧ leL as bs
    | [] => False)
end

mutual
theorem rel_le : ∀ (a : AV) {b : AV} {H : HH} {E : Env} {v : Value}, a.le b → Rel a H E v → Rel b H E v
  | .s u, b, H, E, v, h, hr => by
    obtain ⟨rfl, hs⟩ := hr
    cases b <;> simp only [AV.le] at h <;> try exact h.elim
    · rw [← veq_eq h]; exact ⟨rfl, hs⟩
    · rw [← veq_eq h]; exact ⟨rfl, hs⟩
    · trivial
    · split at h
      · rename_i hn; exact nil_ys hn h
      · exact h.elim
  | .y u, b, H, E, v, h, hr => by
    obtain ⟨rfl, hs⟩ := hr
    cases b <;> simp only [AV.le] at h <;> try exact h.elim
    · rw [← veq_eq h]; exact ⟨rfl, hs⟩
    · rw [← veq_eq h]; exact ⟨rfl, hs⟩
    · trivial
  | .junk, b, H, E, v, h, hr => by
    cases b <;> simp only [AV.le] at h <;> first | exact h.elim | trivial
  | .ptr i k sz o, b, H, E, v, h, hr => by
    cases b <;> simp only [AV.le] at h <;> try exact h.elim
    · trivial
    · split at h
      · rename_i hb
        simp only [Bool.and_eq_true, Nat.beq_eq] at hb
        obtain ⟨rfl, rfl⟩ := hb
        obtain ⟨rfl, rfl⟩ := h
        exact hr
      · exact h.elim
  | .own i sz lo n, b, H, E, v, h, hr => by
    cases b <;> simp only [AV.le] at h <;> try exact h.elim
    · trivial
    · split at h
      · rename_i hb
        simp only [Bool.and_eq_true, Nat.beq_eq] at hb
        obtain ⟨rfl, rfl⟩ := hb
        obtain ⟨rfl, rfl⟩ := h
        exact hr
      · exact h.elim
  | .sl d sz n c, b, H, E, v, h, hr => by
    cases b <;> simp only [AV.le] at h <;> try exact h.elim
    · trivial
    · split at h
      · rename_i hb
        simp only [Nat.beq_eq] at hb
        subst hb
        obtain ⟨rfl, rfl, hc⟩ := h
        obtain ⟨a, cap, hu, hn, hk⟩ := hr
        refine ⟨a, cap, hu, hn, fun h0 => ?_⟩
        obtain ⟨ad, ha, hk⟩ := hk h0
        refine ⟨ad, ha, fun k hkn j hj => ?_⟩
        obtain ⟨x, hx, h1, h2⟩ := hk k hkn j hj
        exact ⟨x, hx, h1, rel_le0 (hc k hkn j hj) h2⟩
      · exact h.elim
    · split at h
      · rename_i hb
        simp only [Nat.beq_eq] at hb
        subst hb
        obtain ⟨rfl, rfl, hc⟩ := h
        obtain ⟨a, cap, hu, hn, hk⟩ := hr
        refine ⟨a, cap, hu, hn, fun h0 => ?_⟩
        obtain ⟨ad, ha, hk⟩ := hk h0
        refine ⟨ad, ha, fun k hkn j hj => ?_⟩
        obtain ⟨x, hx, h1, h2⟩ := hk k hkn j hj
        exact ⟨x, hx, h1, rel_le0 (hc k hkn j hj) h2⟩
      · exact h.elim
  | .ys d sz n c, b, H, E, v, h, hr => by
    cases b <;> simp only [AV.le] at h <;> try exact h.elim
    · trivial
    · split at h
      · rename_i hb
        simp only [Nat.beq_eq] at hb
        subst hb
        obtain ⟨rfl, rfl, hc⟩ := h
        obtain ⟨a, cap, hu, hn, hk⟩ := hr
        refine ⟨a, cap, hu, hn, fun h0 => ?_⟩
        obtain ⟨ad, ha, hk⟩ := hk h0
        refine ⟨ad, ha, fun k hkn j hj => ?_⟩
        obtain ⟨x, hx, h1, h2⟩ := hk k hkn j hj
        exact ⟨x, hx, h1, rel_le0 (hc k hkn j hj) h2⟩
      · exact h.elim
  | .yn d sz n c, b, H, E, v, h, hr => by
    cases b <;> simp only [AV.le] at h <;> first | trivial | (rw [← h]; exact hr)
  | .ip d m c, b, H, E, v, h, hr => by
    cases b <;> simp only [AV.le] at h <;> try exact h.elim
    · trivial
    · obtain ⟨rfl, hm, hc⟩ := h
      obtain ⟨ad, hu, hk⟩ := hr
      refine ⟨ad, hu, fun j hj => ?_⟩
      obtain ⟨x, hx, h1, h2⟩ := hk j (by omega)
      exact ⟨x, hx, h1, rel_le0 (hc j hj) h2⟩
  | .agg cs, b, H, E, v, h, hr => by
    cases b <;> simp only [AV.le] at h <;> try exact h.elim
    · trivial
    · obtain ⟨vs, hu, h2⟩ := hr
      exact ⟨vs, hu, relL_le cs h h2⟩
  | .tup cs, b, H, E, v, h, hr => by
    cases b <;> simp only [AV.le] at h <;> try exact h.elim
    · trivial
    · obtain ⟨vs, hu, h2⟩ := hr
      exact ⟨vs, hu, relL_le cs h h2⟩
  | .fn f x y, b, H, E, v, h, hr => by
    cases b <;> simp only [AV.le] at h <;> try exact h.elim
    · trivial
    · split at h
      · rename_i hb
        have := fnB_eq hb
        subst this
        obtain ⟨p, q, hu, h1, h2⟩ := hr
        exact ⟨p, q, hu, relL_le x h.1 h1, relL_le y h.2 h2⟩
      · exact h.elim
  | .ifc t a, b, H, E, v, h, hr => by
    cases b <;> simp only [AV.le] at h <;> try exact h.elim
    · trivial
    · split at h
      · rename_i hb
        simp only [Nat.beq_eq] at hb
        subst hb
        obtain ⟨x, hu, h1⟩ := hr
        exact ⟨x, hu, rel_le a h h1⟩
      · exact h.elim
theorem relL_le : ∀ (l : List AV) {r : List AV} {H : HH} {E : Env} {vs : List Value}, leL l r → RelL l H E vs → RelL r H E vs
  | [], r, _, _, _, h, hr => by
    cases r with
    | nil => exact hr
    | cons _ _ => exact h.elim
  | a :: as, r, _, _, _, h, hr => by
    obtain ⟨v, q, hv, h1, h2⟩ := hr
    cases r with
    | nil => exact h.elim
    | cons b bs =>
      have key : a.le b ∧ leL as bs → RelL (b :: bs) _ _ _ := fun k => ⟨v, q, hv, rel_le a k.1 h1, relL_le as k.2 h2⟩
      cases b with
      | junk => exact ⟨v, q, hv, trivial, relL_le as h h2⟩
      | _ => exact key h
end
end Go.Ax
