import Derived.Test.YtghhkabankbkoaaTxE
import Derived.Test.YtghhkabankbkoaaAxV
set_option linter.unusedVariables false
set_option linter.unusedSimpArgs false
/-! slices.Insert on a row of any length. -/
namespace Go.Ax
open Go Go.Shelf

def insRow (i m : Nat) (c d : Nat → Nat → AV) (k j : Nat) : AV := if k < i then c k j else if k < i + m then d (k - i) j else c (k - m) j
def intOf : AV → Option Int
  | .y (.int .i64 i) => some i
  | .s (.int .i64 i) => some i
  | _ => none
def insT (ty : TypeId) (sz bytes : Nat) (args : List AV) (M : List Blk) : Option (T An) :=
  match args with
  | [.own a s1 0 n, iv, v] => (match intOf iv, insSrc sz M v with
    | some i, some (b, m + 1, vs) => (match getM M a with
      | .row ty' s2 n' _ c => (match ty' == ty && s2 == sz && s1 == sz && !Nat.beq a b && noRefL vs with
        | true => some (.need (n' = n ∧ 0 ≤ i ∧ i ≤ (n : Int) ∧ n + (m + 1) ≤ 9223372036854775807 ∧ (n + (m + 1)) * bytes ≤ 140737488355328)
            (.ret (.own a sz 0 (n + (m + 1)), killM [a] (putM M a (.row ty sz (n + (m + 1)) none (insRow i.toNat (m + 1) c (fun k j => get vs (k * sz + j))))), [a])))
        | false => none)
      | _ => none)
    | _, _ => none)
  | _ => none

theorem cont_ins {H : HH} {E : Env} {sz n m i : Nat} {ty : TypeId} {c : Nat → Nat → AV} {xs news : List Value} {vs : List AV} (hin : i ≤ n) (hc : ∀ k, k < n → ∀ j, j < sz → ∃ x, xs[k * sz + j]? = some x ∧ Rel (c k j) H E0 x) (hx : xs.length = n * sz) (hn : news.length = m * sz) (hv : RelL vs H E news) (hr : noRefL vs = true) :
    Cont H E sz (n + m) ty (.row ty sz (n + m) none (insRow i m c (fun k j => get vs (k * sz + j)))) (xs.take (i * sz) ++ news ++ xs.drop (i * sz)) := by
  refine ⟨rfl, rfl, rfl, fun k hk j hj => ?_⟩
  have hmul : ∀ a b : Nat, a < b → a * sz + j < b * sz := fun a b h => by
    have : (a + 1) * sz ≤ b * sz := Nat.mul_le_mul_right _ h
    rw [Nat.add_mul, Nat.one_mul] at this; omega
  have hle : i * sz ≤ n * sz := Nat.mul_le_mul_right _ hin
  have htl : (xs.take (i * sz)).length = i * sz := by rw [List.length_take]; omega
  unfold insRow
  by_cases h1 : k < i
  · rw [if_pos h1]
    obtain ⟨x, hx1, hx2⟩ := hc k (by omega) j hj
    have := hmul k i h1
    refine ⟨x, ?_, hx2⟩
    rw [List.append_assoc, List.getElem?_append_left (by omega), List.getElem?_take, if_pos this]
    exact hx1
  · rw [if_neg h1]
    by_cases h2 : k < i + m
    · rw [if_pos h2]
      have h3 := hmul (k - i) m (by omega)
      have hki : k * sz = i * sz + (k - i) * sz := by rw [← Nat.add_mul]; congr 1; omega
      have hlt : (k - i) * sz + j < news.length := by omega
      refine ⟨news[(k - i) * sz + j], ?_, ?_⟩
      · rw [List.append_assoc, List.getElem?_append_right (by omega), List.getElem?_append_left (by omega), htl]
        rw [List.getElem?_eq_getElem (by omega)]
        congr 2; omega
      · have hg := RelL.noRef (E' := E0) _ hr hv
        exact relL_get hg _ _ (List.getElem?_eq_getElem hlt)
    · rw [if_neg h2]
      obtain ⟨x, hx1, hx2⟩ := hc (k - m) (by omega) j hj
      refine ⟨x, ?_, hx2⟩
      have hki : k * sz = (k - m) * sz + m * sz := by rw [← Nat.add_mul]; congr 1; omega
      have h4 : i * sz ≤ (k - m) * sz := Nat.mul_le_mul_right _ (by omega)
      rw [List.getElem?_append_right (by rw [List.length_append]; omega), List.length_append, htl, hn, List.getElem?_drop]
      rw [show i * sz + (k * sz + j - (i * sz + m * sz)) = (k - m) * sz + j by omega]
      exact hx1

theorem insT_ok {P : Program} {ρ : Ren} {sz bytes : Nat} {zv : Value} {nm : String} (L : InsLay P ρ sz bytes zv nm) {args : List AV} {M : List Blk} {t : T An} (h : insT (ρ.t 9) sz bytes args M = some t) : t.Sat (ACall' P (ρ.f 22) args M) := by
  obtain ⟨i0, hi0, hz0, hs0, hb0⟩ := info_parts L.i9
  unfold insT at h
  split at h
  case h_2 => cases h
  rename_i a s1 n iv va
  split at h
  case h_2 => cases h
  rename_i i b m vs hiv hsrc
  split at h
  case h_2 => cases h
  rename_i ty' s2 n' cap c hg
  split at h
  case h_2 => cases h
  rename_i hb
  cases h
  simp only [Bool.and_eq_true, beq_iff_eq, Bool.not_eq_true'] at hb
  obtain ⟨⟨⟨⟨rfl, rfl⟩, rfl⟩, hab⟩, hnr⟩ := hb
  have hne : a ≠ b := fun e => by subst e; rw [Nat.beq_refl] at hab; cases hab
  refine T.Sat.need fun hn => T.Sat.ret ?_
  obtain ⟨rfl, hi1, hi2, hn63, hnb⟩ := hn
  obtain ⟨i, rfl⟩ := Int.eq_ofNat_of_zero_le hi1
  have hin : i ≤ n' := by omega
  rw [Int.toNat_natCast]
  intro H E w vals hC hargs
  obtain ⟨s, l1, e1, hs, iv', l2, e2, hiv', v, l3, e3, hv, e4⟩ := hargs
  have e4 : l3 = [] := e4
  subst e4; subst e3; subst e2
  have hiv2 : iv' = .int .i64 i := by
    unfold intOf at hiv
    split at hiv
    · cases hiv; exact hiv'.1
    · cases hiv; exact hiv'.1
    · cases hiv
  subst hiv2
  have hvals : vals = #[s, .int .i64 i, v] := Array.ext' e1
  subst hvals
  obtain ⟨hlb, g, off, cv, vcur, tA, news, hbg, rfl, hvh, hvl, hvs, hvr, hv1⟩ := insSrc_ok hC hv hsrc
  have hm63 : maxLen = 9223372036854775807 := rfl
  obtain ⟨hlv, hκ, hm⟩ := hs
  have hBk := hC.blk a
  rw [hg] at hBk
  obtain ⟨_, hmκ, hκm, _, hm2⟩ := hBk
  have hown : ∃ xs, w.ownsRow 0 (ρ.t 9) s1 s n' xs ∧ s.ownBlock = E.ι a ∧ ones xs ∧ xs.length = n' * s1 ∧ ∀ k, k < n' → ∀ j, j < s1 → ∃ x, xs[k * s1 + j]? = some x ∧ Rel (c k j) H E0 x := by
    cases hι : E.ι a with
    | none =>
      rw [hι] at hm hm2
      obtain ⟨_, rfl, rfl⟩ := hm
      exact ⟨[], ⟨by simp, .inl ⟨rfl, rfl⟩⟩, rfl, fun x hx => (by cases hx), by simp, fun k hk => by omega⟩
    | some g' =>
      rw [hι] at hm hm2
      obtain ⟨ad, rfl, had⟩ := hm
      obtain ⟨cur, h1, h2, h3, h4⟩ := hm2
      rw [had.1 (.inl rfl)]
      have hle : n' * s1 ≤ E.κ a * s1 := Nat.mul_le_mul_right _ hmκ.2
      refine ⟨_, ⟨by simp; omega, .inr ⟨g', E.κ a, cur, by simp, Nat.zero_le _, h1, by omega, hκm, h3, rfl⟩⟩, rfl, h2, by simp; omega, fun k hk j hj => ?_⟩
      obtain ⟨x, hx, hr⟩ := h4 k hk j hj
      refine ⟨x, ?_, hr⟩
      have : (k + 1) * s1 ≤ n' * s1 := Nat.mul_le_mul_right _ hk
      rw [Nat.add_mul, Nat.one_mul] at this
      rw [List.getElem?_take, if_pos (by omega)]
      simpa using hx
  obtain ⟨xs, hown, hob, hxs, hxl, hxr⟩ := hown
  refine (insert_run L hi0 hz0 hs0 hb0 (vc := cv) (i := i) hown hin (Nat.succ_pos m) (by rw [hob]; exact fun e => hne (hC.inj a b g hlv hlb e hbg)) hvh hvl hvs hxs hv1 (by omega) hnb).mono ?_
  rintro e w' ⟨v', rfl, hown', hgrow, hat⟩
  obtain ⟨bo, κ, hbo, hnκ, hκm', hv', hblk, hbn⟩ := owns_form hown'
  rw [hob] at hgrow hat
  obtain ⟨e1, e2, e3, e4⟩ := E.set_same a bo κ (n' + (m + 1))
  have hvia : E.via (E.set a bo κ (n' + (m + 1))) (keepOf [a]) := by
    intro p q hpq hlp
    unfold keepOf at hpq
    split at hpq
    · cases hpq
    · rename_i hn
      cases hpq
      obtain ⟨f1, f2, f3⟩ := E.set_ne a p bo κ (n' + (m + 1)) (by simpa using hn)
      exact ⟨f1.trans hlp, f2, f3⟩
  have hcont := cont_ins (ty := ρ.t 9) hin hxr hxl hvl hvr hnr
  have hB : BlkOk H (E.set a bo κ (n' + (m + 1))) w' a (renB (keepOf [a]) (.row (ρ.t 9) s1 (n' + (m + 1)) none (insRow i (m + 1) c (fun k j => get vs (k * s1 + j))))) := by
    refine cont_blk (cont_ren hvia hcont) rfl e1 (by rw [e3, e4]; exact ⟨rfl, hnκ⟩) (by rw [e3]; exact hκm') (fun y hy => ?_) (by rw [e2, e3]; exact hblk)
    rcases List.mem_append.1 hy with hy | hy
    · rcases List.mem_append.1 hy with hy | hy
      · exact hxs y (List.mem_of_mem_take hy)
      · exact hv1 y hy
    · exact hxs y (List.mem_of_mem_drop hy)
  obtain ⟨hconc, hev⟩ := hC.move hlv hgrow (bo' := bo) (κ' := κ) (η' := n' + (m + 1)) (fun g hg => by
    rw [hbo, hg] at hat
    rcases hat with h | h
    · exact .inl h.symm
    · cases h; exact .inr (Nat.le_refl _)) hB
  refine ⟨v', H, E.set a bo κ (n' + (m + 1)), rfl, ⟨e1, by rw [e3, e4]; omega, ?_⟩, hconc, hev⟩
  rw [e2, e3]
  cases bo with
  | none => exact ⟨rfl, by have := hbn rfl; omega, hv'⟩
  | some b => exact ⟨_, hv', ⟨fun _ => by simp, by simp⟩⟩
theorem insCt_sat {P : Program} {ρ : Ren} {sz bytes : Nat} {zv : Value} {nm : String} (L : InsLay P ρ sz bytes zv nm) {args : List AV} {M M' : List Blk} {r : AV} {mv : List Nat} {ob : List Prop} (h : insCt (ρ.t 9) sz bytes args M = some (r, M', mv, ob)) : (T.ret (r, M', mv) : T An).Sat (ACall' P (ρ.f 22) args M) :=
  T.Sat.ret (insCt_ok L h)
end Go.Ax
