import Derived.Test.YtghhkabankbkoaaAxD
set_option linter.unusedVariables false
set_option linter.unusedSimpArgs false
/-! Loads, stores, new blocks. -/
namespace Go.Ax
open Go

theorem run_isAgg' {P : Program} {t : TypeId} (w : World) (h : ∃ d, P.underlying t = some d) : (_root_.Go.isAgg t).run P w = .ok (isAgg P t) w := by
  obtain ⟨d, hd⟩ := h
  unfold _root_.Go.isAgg isAgg
  simp only [Sem.run_bind, run_underlying hd, Result.andThen_ok, hd]
  cases d <;> rfl
theorem run_sizeOf' {P : Program} {t : TypeId} {n : Nat} (w : World) (h : sizeT P t = some n) : (sizeOf t).run P w = .ok n w := by
  unfold sizeT at h
  cases hi : P.info? t with
  | none => simp [hi] at h
  | some i => simp [hi] at h; subst h; simp [sizeOf, typeInfo, hi]
theorem und_of_size {P : Program} {t : TypeId} {n : Nat} (h : sizeT P t = some n) : ∃ i, P.info? t = some i ∧ i.size = n := by
  unfold sizeT at h
  cases hi : P.info? t with
  | none => simp [hi] at h
  | some i => simp [hi] at h; exact ⟨i, rfl, h⟩

theorem e0_via (E : Env) : E0.via E some := fun _ _ _ h => by simp [E0] at h
theorem rel_e0 {a : AV} {H : HH} {E : Env} {v : Value} (h : Rel a H E0 v) : Rel a H E v := Rel.env (e0_via E) h
theorem rel_in {a : AV} {H : HH} {E : Env} {v : Value} {b : Bool} (ht : (H true).le (H false)) (h : Rel a (H.at b) E0 v) : Rel a H E v := Rel.mono _ (HH.at_le_self ht b) (rel_e0 h)

theorem split_some {α β : Type} {x : Option α} {f : α → Option β} {y : β} (h : (match x with | some a => f a | none => none) = some y) : ∃ a, x = some a ∧ f a = some y := by
  cases x with
  | none => cases h
  | some a => exact ⟨a, rfl, h⟩

theorem ones_sub {l : List Value} {q p n : Nat} (h : ones (l.take q)) (hpn : p + n ≤ q) : ones ((l.drop p).take n) := by
  intro x hx
  obtain ⟨j, hj⟩ := List.mem_iff_getElem?.1 hx
  rw [List.getElem?_take] at hj
  split at hj
  · rw [List.getElem?_drop] at hj
    exact h x (List.mem_iff_getElem?.2 ⟨p + j, by rw [List.getElem?_take, if_pos (by omega)]; exact hj⟩)
  · cases hj

theorem rdBlk_ok {H : HH} {E : Env} {w : World} {i b k sz o n : Nat} {B : Blk} {hh : Option Hint} {cs : List AV} {ob : List Bool} (hB : BlkOk H E w i B) (hb : E.ι i = some b)
    (h : rdBlk hh B k sz o n = some (cs, ob)) (ho : All ob) :
    ∃ vs : List Value, vs.length = n ∧ (∀ j u, vs[j]? = some u → w.cell? ⟨b, k * sz + o + j, none⟩ = some u) ∧ RelL cs H E vs ∧ ones vs := by
  cases B with
  | dead => simp [rdBlk] at h
  | box ty l =>
    obtain ⟨_, b', vs, h1, h2, h3, h4⟩ := hB
    rw [hb] at h1; cases h1
    cases k with
    | succ k => simp [rdBlk] at h
    | zero =>
      simp only [rdBlk, len_eq] at h
      split at h
      · rename_i hle
        cases h
        have hlen := RelL.length h4
        refine ⟨(vs.toList.drop o).take n, by simp; simp at hlen; omega, fun j u hu => ?_, relL_mk (by rw [length_takeL]; simp; simp at hlen; omega) fun j u hu => ?_, fun x hx => h3 x (List.mem_of_mem_drop (List.mem_of_mem_take hx))⟩
        · rw [cell_of_row w b _ vs ty (0, 0) h2]
          rw [List.getElem?_take] at hu
          split at hu
          · rw [List.getElem?_drop] at hu; simpa using hu
          · cases hu
        · rw [List.getElem?_take] at hu
          split at hu
          · rename_i hj
            rw [get_takeL _ _ _ _ hj]
            rw [List.getElem?_drop] at hu
            exact relL_get h4 _ _ hu
          · cases hu
      · cases h
  | lst ty sz' m cap l =>
    obtain ⟨_, h0, hκ, _, h1⟩ := hB
    rw [hb] at h1
    obtain ⟨vs, h2, h3, h5, h4⟩ := h1
    simp only [rdBlk] at h
    split at h
    · rename_i hle
      cases h
      simp only [Bool.and_eq_true, beq_iff_eq, Nat.ble_eq, len_eq] at hle
      obtain ⟨rfl, hle⟩ := hle
      have hlen := RelL.length h4
      have hm : m * sz' ≤ vs.toList.length := by simp [h5]; exact Nat.mul_le_mul_right _ h0.2
      have hll : l.length = m * sz' := by simp at hlen; simp at hm; omega
      refine ⟨(vs.toList.drop (k * sz' + o)).take n, by simp; simp at hm; omega, fun j u hu => ?_, relL_mk (by rw [length_takeL]; simp; simp at hm; omega) fun j u hu => ?_, ones_sub h3 (by rw [← hll]; exact hle)⟩
      · rw [cell_of_row w b _ vs ty (0, 0) h2]
        rw [List.getElem?_take] at hu
        split at hu
        · rw [List.getElem?_drop] at hu; simpa using hu
        · cases hu
      · rw [List.getElem?_take] at hu
        split at hu
        · rename_i hj
          rw [get_takeL _ _ _ _ hj]
          rw [List.getElem?_drop] at hu
          exact relL_get h4 _ _ (by rw [List.getElem?_take, if_pos (by omega)]; exact hu)
        · cases hu
    · cases h
  | row ty sz' m cap c =>
    obtain ⟨_, h0, hκ, _, h1⟩ := hB
    rw [hb] at h1
    obtain ⟨vs, h2, h3, h5, h4⟩ := h1
    simp only [rdBlk] at h
    split at h
    · rename_i hle
      simp only [Bool.and_eq_true, beq_iff_eq, Nat.ble_eq] at hle
      obtain ⟨rfl, hle⟩ := hle
      split at h
      case h_2 => cases h
      rename_i ob' hc
      cases h
      have hk : k < m := by simpa using chk_ok hc ho
      have hcell : ∀ j, j < n → ∃ x, vs[k * sz' + (o + j)]? = some x ∧ Rel (c k (o + j)) H E0 x := fun j hj => h4 k hk (o + j) (by omega)
      have hkm : k * sz' + o + n ≤ m * sz' := by
        have : (k + 1) * sz' ≤ m * sz' := Nat.mul_le_mul_right _ hk
        rw [Nat.add_mul] at this; omega
      have hsz : k * sz' + (o + n) ≤ vs.size := by
        have : m * sz' ≤ E.κ i * sz' := Nat.mul_le_mul_right _ h0.2
        omega
      refine ⟨(vs.toList.drop (k * sz' + o)).take n, by simp; omega, fun j u hu => ?_, relL_mk (by rw [length_tab]; simp; omega) fun j u hu => ?_, ones_sub h3 hkm⟩
      · rw [cell_of_row w b _ vs ty (0, 0) h2]
        rw [List.getElem?_take] at hu
        split at hu
        · rw [List.getElem?_drop] at hu; simpa using hu
        · cases hu
      · rw [List.getElem?_take] at hu
        split at hu
        · rename_i hj
          rw [get_tab _ _ _ _ hj]
          rw [List.getElem?_drop] at hu
          obtain ⟨x, hx, hr⟩ := hcell j hj
          have : x = u := by
            have : vs[k * sz' + (o + j)]? = some u := by rw [← Nat.add_assoc]; simpa using hu
            rw [hx] at this; simpa using this
          subst this
          exact rel_e0 hr
        · cases hu
    · cases h

theorem rdPtr_ok {H : HH} {E : Env} {w : World} {M : List Blk} {hh : Option Hint} {av : AV} {v : Value} {n : Nat} {cs : List AV} {ob : List Bool} (hC : Conc H E w M) (hr : Rel av H E v)
    (h : rdPtr hh (getM M) av n = some (cs, ob)) (ho : All ob) :
    ∃ ad, ∃ vs : List Value, v = .pointer (some ad) ∧ vs.length = n ∧ (∀ j u, vs[j]? = some u → w.cell? (ad.add j) = some u) ∧ RelL cs H E vs ∧ ones vs := by
  cases av with
  | ptr i k sz o =>
    obtain ⟨hl, b, hb, rfl⟩ := hr
    obtain ⟨vs, h1, h2, h3, h4⟩ := rdBlk_ok (hC.blk i) hb h ho
    exact ⟨_, vs, rfl, h1, fun j u hu => by rw [addr_add]; exact h2 j u hu, h3, h4⟩
  | ip b m c =>
    obtain ⟨ad, rfl, hc⟩ := hr
    simp only [rdPtr] at h
    split at h
    · rename_i hle
      cases h
      have hle : n ≤ m := by simpa using hle
      have hex : ∀ n', n' ≤ m → ∃ vs : List Value, vs.length = n' ∧ ∀ j u, vs[j]? = some u → w.cell? (ad.add j) = some u ∧ Rel (c j) H E u ∧ u.oneCell' = true := by
        intro n'
        induction n' with
        | zero => intro _; exact ⟨[], rfl, fun j u hu => by simp at hu⟩
        | succ q ih =>
          intro hq
          obtain ⟨vs, hl, hv⟩ := ih (by omega)
          obtain ⟨x, hx, h1, hrx⟩ := hc q (by omega)
          refine ⟨vs ++ [x], by simp [hl], fun j u hu => ?_⟩
          rw [List.getElem?_append] at hu
          split at hu
          · exact hv j u hu
          · rename_i hj
            have : j = q := by
              rcases Nat.lt_or_ge (j - vs.length) 1 with h' | h'
              · omega
              · rw [List.getElem?_eq_none (by simpa using h')] at hu; cases hu
            subst this
            simp [hl] at hu
            subst hu
            exact ⟨imm_cell hC.imm hC.tf hx, rel_in hC.tf hrx, h1⟩
      obtain ⟨vs, hl, hv⟩ := hex n hle
      refine ⟨ad, vs, rfl, hl, fun j u hu => (hv j u hu).1, relL_mk (by rw [length_tab, hl]) fun j u hu => ?_, fun x hx => ?_⟩
      · have hj : j < n := by rw [← hl]; exact (List.getElem?_eq_some_iff.1 hu).1
        rw [get_tab _ _ _ _ hj, Nat.zero_add]
        exact (hv j u hu).2.1
      · obtain ⟨j, hj⟩ := List.mem_iff_getElem?.1 hx
        exact (hv j x hj).2.2
    · cases h
  | _ => simp [rdPtr] at h

theorem isAgg_und {P : Program} {t : TypeId} (h : isAgg P t = true) : ∃ d, P.underlying t = some d := by
  unfold isAgg at h
  cases hu : P.underlying t with
  | none => simp [hu] at h
  | some d => exact ⟨d, rfl⟩

/-- what is left as it is -/
structure Plain (e : Eff) : Prop where
  wr : e.wr = []
  kl : e.kl = []
theorem plain_pur {r : AV} {e : Eff} (h : pur r = some e) : Plain e ∧ e.r = r ∧ e.ob = [] := by cases h; exact ⟨⟨rfl, rfl⟩, rfl, rfl⟩
theorem plain_purO {r : AV} {ob : List Bool} {e : Eff} (h : purO r ob = some e) : Plain e ∧ e.r = r ∧ e.ob = ob := by cases h; exact ⟨⟨rfl, rfl⟩, rfl, rfl⟩
theorem agree_eq {y x : Bool} (h : agree y x = true) : x = y := by cases y <;> cases x <;> simp_all [agree]
theorem boolR_ok {hh : Option Hint} {x : Bool} {e : Eff} {H : HH} {E : Env} (h : boolR hh x = some e) (ho : All e.ob) : Plain e ∧ Rel e.r H E (.bool x) := by
  unfold boolR at h
  split at h
  · rename_i y
    obtain ⟨hp, hr, hob⟩ := plain_purO h
    refine ⟨hp, ?_⟩
    rw [hr]
    have hxy : x = y := agree_eq (ho (agree y x) (by rw [hob]; simp))
    subst hxy
    exact ⟨rfl, rfl⟩
  · obtain ⟨hp, hr, _⟩ := plain_pur h
    exact ⟨hp, by rw [hr]; exact ⟨rfl, rfl⟩⟩

theorem load_ok {P : Program} {H : HH} {E : Env} {w : World} {M : List Blk} {hh : Option Hint} {t : TypeId} {av : AV} {v : Value} {e : Eff} (hC : Conc H E w M) (hr : Rel av H E v)
    (hu : ∃ d, P.underlying t = some d) (h : aLoad P hh (getM M) t av = some e) (ho : All e.ob) : Plain e ∧ ∃ u, (Instr.loadAt t v).run P w = .ok u w ∧ Rel e.r H E u := by
  unfold aLoad at h
  split at h
  · rename_i hagg
    split at h
    case h_2 => cases h
    rename_i n hn
    split at h
    case h_2 => cases h
    rename_i cs ob hp
    obtain ⟨hpl, hr', hob⟩ := plain_purO h
    obtain ⟨ad, vs, rfl, hl, hc, hrel, _⟩ := rdPtr_ok hC hr hp (by rw [← hob]; exact ho)
    refine ⟨hpl, .agg vs.toArray, ?_, by rw [hr']; exact ⟨_, rfl, hrel⟩⟩
    have hlc := run_loadCells_list (P := P) w ad vs hc
    rw [hl] at hlc
    simp [Instr.loadAt, Instr.sureAddr, loadVar, run_isAgg' w hu, hagg, run_sizeOf' w hn, hlc]
  · rename_i hagg
    split at h
    · rename_i c _ ob hp
      have hone : ∀ {ob' : List Bool}, All ob' → ob' = ob → ∃ ad u, v = .pointer (some ad) ∧ w.cell? ad = some u ∧ Rel c H E u := by
        rintro _ ho' rfl
        obtain ⟨ad, vs, rfl, hl, hc, hrel, _⟩ := rdPtr_ok hC hr hp ho'
        obtain ⟨u, r, rfl, h1, _⟩ := hrel
        exact ⟨ad, u, rfl, by have := hc 0 u rfl; simpa [Addr.add] using this, h1⟩
      have hrun : ∀ ad u, w.cell? ad = some u → (Instr.loadAt t (.pointer (some ad))).run P w = .ok u w := by
        intro ad u hc
        simp [Instr.loadAt, Instr.sureAddr, loadVar, run_isAgg' w hu, hagg, hc]
      split at h
      · rename_i y x
        obtain ⟨hpl, hr', hob⟩ := plain_purO h
        obtain ⟨ad, u, rfl, hc, h1⟩ := hone (fun b hb => ho b (by rw [hob]; simp [hb])) rfl
        refine ⟨hpl, u, hrun ad u hc, ?_⟩
        rw [hr']
        obtain ⟨rfl, _⟩ := h1
        have hxy : x = y := agree_eq (ho (agree y x) (by rw [hob]; simp))
        subst hxy
        exact ⟨rfl, rfl⟩
      · obtain ⟨hpl, hr', hob⟩ := plain_purO h
        obtain ⟨ad, u, rfl, hc, h1⟩ := hone ho hob
        exact ⟨hpl, u, hrun ad u hc, by rw [hr']; exact h1⟩
    · cases h
end Go.Ax
