import Derived.Test.YtjmdejbijigfjaaDoorW3
set_option linter.unusedVariables false
set_option linter.unusedSimpArgs false
/-! Records: the contracts of Keep. -/
namespace Go.Proofs.YtjmdejbijigfjaaDoor
open Go.Ax
set_option maxRecDepth 1000000
theorem log_val {l : List Rec} (h : isLog l = true) {k : Nat} (hk : k < l.length) : (l.getD k default).val.length ≤ 256 := by
  simp only [isLog, Bool.and_eq_true] at h
  have h1 := h.1
  unfold logFrom at h1
  rw [List.all_eq_true] at h1
  have h2 := h1 k (by simp; omega)
  simp only [okR, Bool.and_eq_true, decide_eq_true_eq] at h2
  exact h2.2.2
theorem log_len {l : List Rec} (h : isLog l = true) : l.length ≤ 4096 := by
  simp only [isLog, Bool.and_eq_true, decide_eq_true_eq] at h
  exact h.2
theorem ke_len (r : Rng) (l : List Rec) : ∀ k, k ≤ l.length → (ke r (l.take k)).to.length = k ∧ (ke r (l.take k)).out.length ≤ k := by
  intro k
  induction k with
  | zero => intro _; simp [ke]
  | succ k ih =>
    intro hk
    obtain ⟨h1, h2⟩ := ih (by omega)
    rw [ke_step (by omega)]
    unfold Ke.step
    constructor
    · simp [h1]
    · dsimp only
      split
      · simp; omega
      · omega
theorem ke_len' (r : Rng) (l : List Rec) : (ke r l).to.length = l.length ∧ (ke r l).out.length ≤ l.length := by
  have := ke_len r l l.length (Nat.le_refl _)
  rwa [List.take_length] at this
theorem kp_loop (b : Bool) (r : Rng) (l : List Rec) (hl : isLog l = true) (k : Nat) : LoopOk Tryd.prog 23 6 (loopAt Tryd.prog 23 6) ⟨kpT b l (ke r (l.take k)) k, kpM r (ke r (l.take k)), []⟩ (T.map (lout jX (kpS r (ke r l))) (.ret ())) := by
  refine loop_vcH (o := fun _ => .ret ()) (stT := fun k => kpT b l (ke r (l.take k)) k) (stM := fun k => kpM r (ke r (l.take k))) Tryd.mixed (fun _ => rfl) (fun k => (vcKpL_eq b r l k).mpr ?_) k
  unfold vcKpL
  have hn := log_len hl
  by_cases h : k < l.length
  · obtain ⟨h1, h2⟩ := ke_len r l k (by omega)
    have hz : decide ((k : Int) < l.length) = true := by simp; omega
    have hv := log_val hl h
    have hs := ke_step (r := r) h
    have hw : IntKind.i64.wrap ((k : Int) + 1) = ((k + 1 : Nat) : Int) := by rw [wrap_i64 (by omega) (by omega)]; omega
    simp only [hz, Int.toNat_natCast]
    generalize l.getD k default = x at *
    generalize ke r (l.take k) = s at *
    simp
    refine ⟨⟨by omega, by omega⟩, fun hh => ⟨by omega, ⟨by omega, by omega⟩, Exists.intro (k + 1) ?_⟩, fun hh => Exists.intro (k + 1) ?_⟩
    · have a1 : contLe (s.to.length + 1) 1 (appRow s.to.length (cellsOf' encU s.to) fun k j => Ax.get [AV.y (Value.int IntKind.u64 (IntKind.u64.wrap ↑s.out.length))] (k + j)) (cellsOf' encU (s.to ++ [IntKind.u64.wrap ↑s.out.length])) := app1_le1 (le0_refl _)
      rw [hs]
      simp [Ke.step, hh]
      refine ⟨by omega, hw, app1_le rfl (rec_le (le0_refl _) (le0_refl _) (le0_refl _) (le0_refl _) (le0_refl _)), a1⟩
    · have a1 : contLe (s.to.length + 1) 1 (appRow s.to.length (cellsOf' encU s.to) fun k j => Ax.get [AV.y (Value.int IntKind.u64 (IntKind.u64.wrap ↑s.out.length))] (k + j)) (cellsOf' encU (s.to ++ [IntKind.u64.wrap ↑s.out.length])) := app1_le1 (le0_refl _)
      rw [hs]
      simp [Ke.step, hh]
      refine ⟨by omega, hw, a1⟩
  · have hz : decide ((k : Int) < l.length) = false := by simp; omega
    rw [List.take_of_length_le (by omega)]
    simp [hz]
    exact fun e => absurd e h
theorem kr_loop (b : Bool) (r : Rng) (l : List Rec) (hl : isLog l = true) (k : Nat) : LoopOk Tryd.prog 24 7 (loopAt Tryd.prog 24 7) ⟨krT b l (ke r (l.take k)) k, kpM r (ke r (l.take k)), []⟩ (T.map (lout jX (krS r (ke r l))) (.ret ())) := by
  refine loop_vcH (o := fun _ => .ret ()) (stT := fun k => krT b l (ke r (l.take k)) k) (stM := fun k => kpM r (ke r (l.take k))) Tryd.mixed (fun _ => rfl) (fun k => (vcKrL_eq b r l k).mpr ?_) k
  unfold vcKrL
  have hn := log_len hl
  by_cases h : k < l.length
  · obtain ⟨h1, h2⟩ := ke_len r l k (by omega)
    have hz : decide ((k : Int) < l.length) = true := by simp; omega
    have hv := log_val hl h
    have hs := ke_step (r := r) h
    have hw : IntKind.i64.wrap ((k : Int) + 1) = ((k + 1 : Nat) : Int) := by rw [wrap_i64 (by omega) (by omega)]; omega
    simp only [hz, Int.toNat_natCast]
    generalize l.getD k default = x at *
    generalize ke r (l.take k) = s at *
    simp
    refine ⟨⟨by omega, by omega⟩, fun hh => ⟨by omega, ⟨by omega, by omega⟩, Exists.intro (k + 1) ?_⟩, fun hh => Exists.intro (k + 1) ?_⟩
    · have a1 : contLe (s.to.length + 1) 1 (appRow s.to.length (cellsOf' encU s.to) fun k j => Ax.get [AV.y (Value.int IntKind.u64 (IntKind.u64.wrap ↑s.out.length))] (k + j)) (cellsOf' encU (s.to ++ [IntKind.u64.wrap ↑s.out.length])) := app1_le1 (le0_refl _)
      rw [hs]
      simp [Ke.step, hh]
      refine ⟨by omega, hw, app1_le rfl (rec_le (le0_refl _) (le0_refl _) (le0_refl _) (le0_refl _) (le0_refl _)), a1⟩
    · have a1 : contLe (s.to.length + 1) 1 (appRow s.to.length (cellsOf' encU s.to) fun k j => Ax.get [AV.y (Value.int IntKind.u64 (IntKind.u64.wrap ↑s.out.length))] (k + j)) (cellsOf' encU (s.to ++ [IntKind.u64.wrap ↑s.out.length])) := app1_le1 (le0_refl _)
      rw [hs]
      simp [Ke.step, hh]
      refine ⟨by omega, hw, a1⟩
  · have hz : decide ((k : Int) < l.length) = false := by simp; omega
    rw [List.take_of_length_le (by omega)]
    simp [hz]
    exact fun e => absurd e h
theorem keep_c (b : Bool) (r : Rng) (l : List Rec) (h1 : l.length ≤ 4611686018427387903) : (keT r l).Sat (ACall' Tryd.prog 23 [encRs b l, .agg (encG r)] []) := by
  refine ctr_vc (ht := keH b r l) Tryd.mixed rfl ?_
  rw [vcKeep_eq b r l]
  unfold vcKeep
  cases hl : isLog l
  · simp; omega
  · have hn := log_len hl
    have lp := kp_loop b r l hl 0
    rw [List.take_zero] at lp
    obtain ⟨q1, q2⟩ := ke_len' r l
    have hw : IntKind.i64.wrap ((l.length : Int) + 1) = (l.length : Int) + 1 := wrap_i64 (by omega) (by omega)
    have a1 : contLe ((ke r l).to.length + 1) 1 (appRow (ke r l).to.length (cellsOf' encU (ke r l).to) fun k j => Ax.get [AV.y (Value.int IntKind.u64 (IntKind.u64.wrap ↑(ke r l).out.length))] (k + j)) (cellsOf' encU ((ke r l).to ++ [IntKind.u64.wrap ↑(ke r l).out.length])) := app1_le1 (le0_refl _)
    simp only [hw]
    by_cases hc : chkK r = 0
    · simp [hc, lp, Ke.end, a1]
      omega
    · simp [hc]; omega
theorem keepr_c (b : Bool) (r : Rng) (l : List Rec) (h1 : l.length ≤ 4611686018427387903) : (keT r l).Sat (ACall' Tryd.prog 24 [encRs b l, .agg (encG r)] []) := by
  refine ctr_vc (ht := keH2 b r l) Tryd.mixed rfl ?_
  rw [vcKeep2_eq b r l]
  unfold vcKeep2
  cases hl : isLog l
  · simp; omega
  · have hn := log_len hl
    have lp := kr_loop b r l hl 0
    rw [List.take_zero] at lp
    obtain ⟨q1, q2⟩ := ke_len' r l
    have a1 : contLe ((ke r l).to.length + 1) 1 (appRow (ke r l).to.length (cellsOf' encU (ke r l).to) fun k j => Ax.get [AV.y (Value.int IntKind.u64 (IntKind.u64.wrap ↑(ke r l).out.length))] (k + j)) (cellsOf' encU ((ke r l).to ++ [IntKind.u64.wrap ↑(ke r l).out.length])) := app1_le1 (le0_refl _)
    by_cases hc : chkK r = 0
    · simp [hc, lp, Ke.end, a1]
      omega
    · simp [hc]; omega
end Go.Proofs.YtjmdejbijigfjaaDoor

/-! Records: the law RecordsWhole. -/
namespace Go.Proofs.YtjmdejbijigfjaaDoor
open Go.Ax
set_option maxRecDepth 1000000
def emB : ByteArray := ByteArray.empty
def allG : Rng := ⟨emB, emB⟩
def toL (n : Nat) : List Int := (List.range n).map fun (k : Nat) => IntKind.u64.wrap k
theorem to_len (n : Nat) : (toL n).length = n := by simp [toL]
theorem to_step (n : Nat) : toL (n + 1) = toL n ++ [IntKind.u64.wrap (n : Nat)] := by simp [toL, List.range_succ]
theorem to_at {n k : Nat} (h : k < n) : (toL n).getD k 0 = IntKind.u64.wrap (k : Nat) := by simp [toL, List.getElem?_eq_getElem, h]
theorem log_at {l : List Rec} (h : isLog l = true) {k : Nat} (hk : k < l.length) : (l.getD k default).off = IntKind.u64.wrap (k : Nat) ∧ (l.getD k default).key.size ≤ 32 := by
  simp only [isLog, Bool.and_eq_true] at h
  have h1 := h.1
  unfold logFrom at h1
  rw [List.all_eq_true] at h1
  have h2 := h1 k (by simp; omega)
  simp only [okR, Bool.and_eq_true, decide_eq_true_eq, Bool.not_eq_true', bne_eq_false_iff_eq] at h2
  exact ⟨h2.1, h2.2.1⟩
theorem to_self {x : Rec} {o : Int} (h : x.off = o) : x.to o = x := by
  cases x
  simp [Rec.to] at h ⊢
  exact h.symm
theorem take_one {l : List Rec} {k : Nat} (h : k < l.length) : l.take (k + 1) = l.take k ++ [l.getD k default] := by
  rw [List.take_add_one, List.getElem?_eq_getElem h]
  simp [List.getElem?_eq_getElem h]
theorem has_all (k : ByteArray) (h : k.size ≤ 32) : hasK allG k = true := by
  have h1 : chkK allG = 0 := by decide
  have h2 : decide ((k.size : Int) ≤ 32) = true := by simp; omega
  have h3 : (lt allG.lo k || allG.lo.data.toList == k.data.toList) = true := by
    show (Op.bytesLess [] k.data.toList || ([] : List UInt8) == k.data.toList) = true
    cases k.data.toList <;> rfl
  have h4 : (allG.hi.data.toList == []) = true := rfl
  unfold hasK
  rw [h1, h2, h3, h4]
  rfl
theorem ke_all {l : List Rec} (h : isLog l = true) : ∀ k, k ≤ l.length → ke allG (l.take k) = ⟨l.take k, toL k⟩ := by
  intro k
  induction k with
  | zero => intro _; rfl
  | succ k ih =>
    intro hk
    obtain ⟨h1, h2⟩ := log_at h (show k < l.length by omega)
    rw [ke_step (by omega), ih (by omega), take_one (by omega), to_step]
    unfold Ke.step
    have hl : (l.take k).length = k := by rw [List.length_take]; omega
    simp only [has_all _ h2, if_true, hl]
    rw [to_self h1]
theorem joinA {l : List Rec} (h : isLog l = true) (tb : List Int) : ∀ n k, n + k = l.length → joinN n ⟨l.drop k, [], l.take k, toL k, tb⟩ = some ⟨[], [], l, toL l.length, tb⟩
  | 0, k, hk => by
    obtain rfl : k = l.length := by omega
    rw [joinN]
    simp
  | n + 1, k, hk => by
    rw [joinN]
    have hne : l.drop k = l.getD k default :: l.drop (k + 1) := by
      have := drop_cons (l := l) (k := k) (by omega)
      simpa using this
    have htA : Jo.tA ⟨l.drop k, [], l.take k, toL k, tb⟩ = true := by unfold Jo.tA; rw [hne]; rfl
    rw [if_pos htA]
    have hl : (l.take k).length = k := by rw [List.length_take]; omega
    obtain ⟨h1, _⟩ := log_at h (show k < l.length by omega)
    have : Jo.goA ⟨l.drop k, [], l.take k, toL k, tb⟩ = ⟨l.drop (k + 1), [], l.take (k + 1), toL (k + 1), tb⟩ := by
      unfold Jo.goA Jo.at
      rw [take_one (by omega), to_step, hl]
      congr 1
      · simp
      · congr 2
        rw [hne]
        exact to_self h1
    rw [this]
    exact joinA h tb n (k + 1) (by omega)
theorem joinB {l : List Rec} (h : isLog l = true) (ta : List Int) : ∀ n k, n + k = l.length → joinN n ⟨[], l.drop k, l.take k, ta, toL k⟩ = some ⟨[], [], l, ta, toL l.length⟩
  | 0, k, hk => by
    obtain rfl : k = l.length := by omega
    rw [joinN]
    simp
  | n + 1, k, hk => by
    rw [joinN]
    have hne : l.drop k = l.getD k default :: l.drop (k + 1) := by
      have := drop_cons (l := l) (k := k) (by omega)
      simpa using this
    have htA : Jo.tA ⟨[], l.drop k, l.take k, ta, toL k⟩ = false := by unfold Jo.tA; rfl
    have htB : Jo.tB ⟨[], l.drop k, l.take k, ta, toL k⟩ = true := by unfold Jo.tB; rw [hne]; rfl
    rw [if_neg (by simp [htA]), if_pos htB]
    have hl : (l.take k).length = k := by rw [List.length_take]; omega
    obtain ⟨h1, _⟩ := log_at h (show k < l.length by omega)
    have : Jo.goB ⟨[], l.drop k, l.take k, ta, toL k⟩ = ⟨[], l.drop (k + 1), l.take (k + 1), ta, toL (k + 1)⟩ := by
      unfold Jo.goB Jo.at
      rw [take_one (by omega), to_step, hl]
      congr 1
      · simp
      · congr 2
        rw [hne]
        exact to_self h1
    rw [this]
    exact joinB h ta n (k + 1) (by omega)
theorem run_l0 {l : List Rec} (h : isLog l = true) : (jo0 l []).run = some ⟨[], [], l, toL l.length, []⟩ := by
  have := joinA h [] l.length 0 (by omega)
  simpa [Jo.run, jo0, toL] using this
theorem run_0l {l : List Rec} (h : isLog l = true) : (jo0 [] l).run = some ⟨[], [], l, [], toL l.length⟩ := by
  have := joinB h [] l.length 0 (by omega)
  simpa [Jo.run, jo0, toL] using this
/-! the contracts, by the case -/
def wkT (i : Bool) (l : List Rec) : T An := match i with
  | true => keR ⟨l, toL (l.length + 1)⟩
  | false => .ret (.tup [.s (.slice none 0 0), .s (.slice none 0 0)], [], [])
def waT (i : Bool) (l : List Rec) : T An := match i with
  | true => joR ⟨[], [], l, toL (l.length + 1), [IntKind.u64.wrap (l.length : Nat)]⟩
  | false => joE 1
def wbT (i : Bool) (l : List Rec) : T An := match i with
  | true => joR ⟨[], [], l, [IntKind.u64.wrap (l.length : Nat)], toL (l.length + 1)⟩
  | false => joE 1
theorem nil_log : isLog [] = true := rfl
theorem wk_c (i : Bool) (b : Bool) (l : List Rec) (h : l.length ≤ 4611686018427387903) (hi : isLog l = i) : (wkT i l).Sat (ACall' Tryd.prog 23 [encRs b l, .agg (encG allG)] []) := by
  intro Q hq
  refine keep_c b allG l h Q ?_
  cases i
  · exact ⟨fun e => by rw [hi] at e; simp at e, fun _ => hq⟩
  · have e : ke allG l = ⟨l, toL l.length⟩ := by have := ke_all hi l.length (Nat.le_refl _); rwa [List.take_length] at this
    refine ⟨fun _ => ?_, fun e => by rw [hi] at e; exact absurd e (by decide)⟩
    show (keR (ke allG l).end).post Q
    rw [e]
    unfold Ke.end
    dsimp only
    rw [← to_step]
    exact hq
theorem wa_c (i : Bool) (b1 b2 : Bool) (l : List Rec) (h : l.length ≤ 4611686018427387903) (hi : isLog l = i) : (waT i l).Sat (ACall' Tryd.prog 22 [encRs b1 l, encRs b2 []] []) := by
  intro Q hq
  refine join_c b1 b2 l [] h (by simp) Q ?_
  cases i
  · exact ⟨fun e => by rw [hi] at e; simp at e, fun _ => hq⟩
  · have hn := log_len hi
    have e := run_l0 hi
    refine ⟨fun _ => ⟨fun _ => ⟨fun _ => ?_, fun e2 => by rw [e] at e2; cases e2⟩, fun e2 => by simp at e2; omega⟩, fun e => by rw [hi, nil_log] at e; cases e⟩
    show (joR ((jo0 l []).run.getD (jo0 l [])).end).post Q
    rw [e]
    unfold Jo.end Jo.at
    dsimp only [Option.getD_some]
    rw [← to_step]
    exact hq
theorem wb_c (i : Bool) (b1 b2 : Bool) (l : List Rec) (h : l.length ≤ 4611686018427387903) (hi : isLog l = i) : (wbT i l).Sat (ACall' Tryd.prog 22 [encRs b1 [], encRs b2 l] []) := by
  intro Q hq
  refine join_c b1 b2 [] l (by simp) h Q ?_
  cases i
  · exact ⟨fun e => by rw [hi] at e; simp at e, fun _ => hq⟩
  · have hn := log_len hi
    have e := run_0l hi
    refine ⟨fun _ => ⟨fun _ => ⟨fun _ => ?_, fun e2 => by rw [e] at e2; cases e2⟩, fun e2 => by simp at e2; omega⟩, fun e => by rw [hi, nil_log] at e; cases e⟩
    show (joR ((jo0 [] l).run.getD (jo0 [] l)).end).post Q
    rw [e]
    unfold Jo.end Jo.at
    dsimp only [Option.getD_some]
    rw [← to_step]
    exact hq
noncomputable def wkC (i : Bool) (b : Bool) (l : List Rec) : Ctr Tryd.prog := ⟨23, [encRs b l, .agg (encG allG)], [], .need (l.length ≤ 4611686018427387903 ∧ isLog l = i) (wkT i l), T.Sat.need fun h => wk_c i b l h.1 h.2⟩
noncomputable def waC (i : Bool) (b1 b2 : Bool) (l : List Rec) : Ctr Tryd.prog := ⟨22, [encRs b1 l, encRs b2 []], [], .need (l.length ≤ 4611686018427387903 ∧ isLog l = i) (waT i l), T.Sat.need fun h => wa_c i b1 b2 l h.1 h.2⟩
noncomputable def wbC (i : Bool) (b1 b2 : Bool) (l : List Rec) : Ctr Tryd.prog := ⟨22, [encRs b1 [], encRs b2 l], [], .need (l.length ≤ 4611686018427387903 ∧ isLog l = i) (wbT i l), T.Sat.need fun h => wb_c i b1 b2 l h.1 h.2⟩
def whB (l : List Rec) (r : List (Nat × AV)) : List AV := mkT 109 ([(0, encRs true l), (3, .y (.bool true)), (7, .own 2 5 0 l.length), (10, .y (.int .i64 0)), (11, .own 5 5 0 l.length), (14, .y (.int .i64 0)), (15, .y (.bool true))] ++ r)
def whT (l : List Rec) (k : Nat) : List AV := whB l [(6, .own 1 1 0 (toL (l.length + 1)).length), (16, .y (.int .i64 k))]
def whM (l : List Rec) : List Blk := [.dead, rowU (toL (l.length + 1)), rowR l, .dead, .dead, rowR l]
def whS (l : List Rec) (_ : Unit) : Exit × List AV × List Blk := (.exit 0, whB l [], whM l)
def whX : List Nat := [0, 1, 2, 3, 4, 5, 6, 7, 8, 9]
def vcWhL (l : List Rec) (k : Nat) : Prop :=
  (decide ((↑k : Int) < (↑(List.length (toL (List.length l + (1 : Nat)))) : Int)) = true → (true && decide ((↑k : Int) < (↑(List.length (toL (List.length l + (1 : Nat)))) : Int))) = true ∧ decide ((0 : Nat) + Int.toNat (↑k : Int) < List.length (toL (List.length l + (1 : Nat)))) = true ∧ ((List.getD (toL (List.length l + (1 : Nat))) ((0 : Nat) + Int.toNat (↑k : Int)) (0 : Int) != IntKind.wrap IntKind.u64 (↑k : Int)) = true → False) ∧ ((List.getD (toL (List.length l + (1 : Nat))) ((0 : Nat) + Int.toNat (↑k : Int)) (0 : Int) != IntKind.wrap IntKind.u64 (↑k : Int)) = false → ∃ (j : Nat), List.length l + (1 : Nat) - j < List.length l + (1 : Nat) - k ∧ (((true = true ∧ List.length l = List.length l ∧ contLe (List.length l) (5 : Nat) (cellsOf' encR l) (cellsOf' encR l)) ∧ true = true ∧ ((0 : Nat) = (0 : Nat) ∧ List.length (toL (List.length l + (1 : Nat))) = List.length (toL (List.length l + (1 : Nat)))) ∧ ((0 : Nat) = (0 : Nat) ∧ List.length l = List.length l) ∧ (0 : Int) = (0 : Int) ∧ ((0 : Nat) = (0 : Nat) ∧ List.length l = List.length l) ∧ (0 : Int) = (0 : Int) ∧ true = true ∧ IntKind.wrap IntKind.i64 ((↑k : Int) + (1 : Int)) = (↑j : Int) ∧ True) ∧ ((List.length (toL (List.length l + (1 : Nat))) = List.length (toL (List.length l + (1 : Nat))) ∧ contLe (List.length (toL (List.length l + (1 : Nat)))) (1 : Nat) (cellsOf' encU (toL (List.length l + (1 : Nat)))) (cellsOf' encU (toL (List.length l + (1 : Nat))))) ∧ (List.length l = List.length l ∧ contLe (List.length l) (5 : Nat) (cellsOf' encR l) (cellsOf' encR l)) ∧ (List.length l = List.length l ∧ contLe (List.length l) (5 : Nat) (cellsOf' encR l) (cellsOf' encR l)) ∧ True) ∧ true = true) ∧ true = true ∧ () = ())) ∧ (decide ((↑k : Int) < (↑(List.length (toL (List.length l + (1 : Nat)))) : Int)) = false → ((true = true ∧ List.length l = List.length l ∧ contLe (List.length l) (5 : Nat) (cellsOf' encR l) (cellsOf' encR l)) ∧ true = true ∧ ((0 : Nat) = (0 : Nat) ∧ List.length l = List.length l) ∧ (0 : Int) = (0 : Int) ∧ ((0 : Nat) = (0 : Nat) ∧ List.length l = List.length l) ∧ (0 : Int) = (0 : Int) ∧ true = true ∧ True) ∧ ((List.length (toL (List.length l + (1 : Nat))) = List.length (toL (List.length l + (1 : Nat))) ∧ contLe (List.length (toL (List.length l + (1 : Nat)))) (1 : Nat) (cellsOf' encU (toL (List.length l + (1 : Nat)))) (cellsOf' encU (toL (List.length l + (1 : Nat))))) ∧ (List.length l = List.length l ∧ contLe (List.length l) (5 : Nat) (cellsOf' encR l) (cellsOf' encR l)) ∧ (List.length l = List.length l ∧ contLe (List.length l) (5 : Nat) (cellsOf' encR l) (cellsOf' encR l)) ∧ True) ∧ true = true)
set_option maxRecDepth 1000000 in
theorem vcWhL_eq (l : List Rec) (k : Nat) : (loopVC Tryd.prog (hT _) 7 10 (fun k => l.length + 1 - k) (whT l) (fun _ => whM l) whX (fun _ => .ret ()) (whS l) k) = vcWhL l k := by kernel_rfl
noncomputable def whH (i : Bool) (l : List Rec) : HintsT Tryd.prog := hh _ (lp1 7 10 (jobOf (whT l) (fun _ => whM l) whX (fun _ => .ret ()) (whS l) 0) noLp)
  (cs1 7 1 0 livesC (cs1 7 2 1 (lgC true l) (cs1 7 3 2 (wkC i true l) (cs1 7 4 1 (waC i true true l) (cs1 7 5 1 (wbC i true true l)
  (cs1 7 8 2 (sameC false true l l) (cs1 7 8 6 (stC false false (toL (l.length + 1)) (toL (l.length + 1))) (cs1 7 8 11 (stC false false (toL (l.length + 1)) (toL (l.length + 1)))
  (cs1 7 14 15 (sameC false true l l) (cs1 7 14 20 (sameC false true l l) noCs)))))))))) noOp
def vcWh (l : List Rec) : Prop :=
  True ∧ True ∧ ((true = true ∧ List.length l = List.length l ∧ contLe (List.length l) (5 : Nat) (cellsOf' encR l) (cellsOf' encR l)) ∧ True) ∧ True ∧ List.length l ≤ (9223372036854775806 : Nat) ∧ ((true = true ∧ List.length l = List.length l ∧ contLe (List.length l) (5 : Nat) (cellsOf' encR l) (cellsOf' encR l)) ∧ ({ data := #[] : ByteArray } = emB ∧ { data := #[] : ByteArray } = emB ∧ True) ∧ True) ∧ True ∧ (List.length l ≤ (4611686018427387903 : Nat) ∧ isLog l = true) ∧ ((true = true ∧ List.length l = List.length l ∧ contLe (List.length l) (5 : Nat) (cellsOf' encR l) (cellsOf' encR l)) ∧ (0 : Nat) = (0 : Nat) ∧ True) ∧ True ∧ (List.length l ≤ (4611686018427387903 : Nat) ∧ isLog l = true) ∧ ((0 : Nat) = (0 : Nat) ∧ (true = true ∧ List.length l = List.length l ∧ contLe (List.length l) (5 : Nat) (cellsOf' encR l) (cellsOf' encR l)) ∧ True) ∧ True ∧ (List.length l ≤ (4611686018427387903 : Nat) ∧ isLog l = true) ∧ ((!isLog l) = true → (true = true → (((↑(List.length l) : Int) == (0 : Int)) = true → (((↑(List.length (toL (List.length l + (1 : Nat)))) : Int) == (0 : Int)) = true → false = true ∧ True) ∧ (((↑(List.length (toL (List.length l + (1 : Nat)))) : Int) == (0 : Int)) = false → false = true ∧ True)) ∧ (((↑(List.length l) : Int) == (0 : Int)) = false → false = true ∧ True)) ∧ (true = false → false = true ∧ True)) ∧ ((!isLog l) = false → ((false = false ∧ List.length l = List.length l ∧ contLe (List.length l) (5 : Nat) (Ax.rowAt (0 : Nat) (cellsOf' encR l)) (cellsOf' encR l)) ∧ (true = true ∧ List.length l = List.length l ∧ contLe (List.length l) (5 : Nat) (cellsOf' encR l) (cellsOf' encR l)) ∧ True) ∧ True ∧ (List.length l ≤ (9223372036854775806 : Nat) ∧ l = l) ∧ true = true ∧ True ∧ (true = true → ((false = false ∧ List.length (toL (List.length l + (1 : Nat))) = List.length (toL (List.length l + (1 : Nat))) ∧ contLe (List.length (toL (List.length l + (1 : Nat)))) (1 : Nat) (Ax.rowAt (0 : Nat) (cellsOf' encU (toL (List.length l + (1 : Nat))))) (cellsOf' encU (toL (List.length l + (1 : Nat))))) ∧ (false = false ∧ List.length (toL (List.length l + (1 : Nat))) = List.length (toL (List.length l + (1 : Nat))) ∧ contLe (List.length (toL (List.length l + (1 : Nat)))) (1 : Nat) (Ax.rowAt (0 : Nat) (cellsOf' encU (toL (List.length l + (1 : Nat))))) (cellsOf' encU (toL (List.length l + (1 : Nat))))) ∧ True) ∧ True ∧ (List.length (toL (List.length l + (1 : Nat))) ≤ (9223372036854775806 : Nat) ∧ toL (List.length l + (1 : Nat)) = toL (List.length l + (1 : Nat))) ∧ true = true ∧ True ∧ (true = true → ((false = false ∧ List.length (toL (List.length l + (1 : Nat))) = List.length (toL (List.length l + (1 : Nat))) ∧ contLe (List.length (toL (List.length l + (1 : Nat)))) (1 : Nat) (Ax.rowAt (0 : Nat) (cellsOf' encU (toL (List.length l + (1 : Nat))))) (cellsOf' encU (toL (List.length l + (1 : Nat))))) ∧ (false = false ∧ List.length (toL (List.length l + (1 : Nat))) = List.length (toL (List.length l + (1 : Nat))) ∧ contLe (List.length (toL (List.length l + (1 : Nat)))) (1 : Nat) (Ax.rowAt (0 : Nat) (cellsOf' encU (toL (List.length l + (1 : Nat))))) (cellsOf' encU (toL (List.length l + (1 : Nat))))) ∧ True) ∧ True ∧ (List.length (toL (List.length l + (1 : Nat))) ≤ (9223372036854775806 : Nat) ∧ toL (List.length l + (1 : Nat)) = toL (List.length l + (1 : Nat))) ∧ true = true ∧ True ∧ (((true = true ∧ List.length l = List.length l ∧ contLe (List.length l) (5 : Nat) (cellsOf' encR l) (cellsOf' encR l)) ∧ true = true ∧ ((0 : Nat) = (0 : Nat) ∧ List.length (toL (List.length l + (1 : Nat))) = List.length (toL (List.length l + (1 : Nat)))) ∧ ((0 : Nat) = (0 : Nat) ∧ List.length l = List.length l) ∧ (0 : Int) = (0 : Int) ∧ ((0 : Nat) = (0 : Nat) ∧ List.length l = List.length l) ∧ (0 : Int) = (0 : Int) ∧ true = true ∧ (0 : Int) = (0 : Int) ∧ True) ∧ ((List.length (toL (List.length l + (1 : Nat))) = List.length (toL (List.length l + (1 : Nat))) ∧ contLe (List.length (toL (List.length l + (1 : Nat)))) (1 : Nat) (cellsOf' encU (toL (List.length l + (1 : Nat)))) (cellsOf' encU (toL (List.length l + (1 : Nat))))) ∧ (List.length l = List.length l ∧ contLe (List.length l) (5 : Nat) (cellsOf' encR l) (cellsOf' encR l)) ∧ (List.length l = List.length l ∧ contLe (List.length l) (5 : Nat) (cellsOf' encR l) (cellsOf' encR l)) ∧ True) ∧ true = true) ∧ LoopOk Tryd.prog (7 : Nat) (10 : Nat) (loopAt Tryd.prog (7 : Nat) (10 : Nat)) { t := whT l (0 : Nat), m := whM l, mv := [] : St } (T.map (lout whX (whS l)) ((fun (x : Nat) => T.ret ()) (0 : Nat))) ∧ (true = true → (true = true → (true = true → (true = true → ((false = false ∧ List.length l = List.length l ∧ contLe (List.length l) (5 : Nat) (Ax.rowAt (0 : Nat) (cellsOf' encR l)) (cellsOf' encR l)) ∧ (true = true ∧ List.length l = List.length l ∧ contLe (List.length l) (5 : Nat) (cellsOf' encR l) (cellsOf' encR l)) ∧ True) ∧ True ∧ (List.length l ≤ (9223372036854775806 : Nat) ∧ l = l) ∧ true = true ∧ True ∧ (true = true → ((false = false ∧ List.length l = List.length l ∧ contLe (List.length l) (5 : Nat) (Ax.rowAt (0 : Nat) (cellsOf' encR l)) (cellsOf' encR l)) ∧ (true = true ∧ List.length l = List.length l ∧ contLe (List.length l) (5 : Nat) (cellsOf' encR l) (cellsOf' encR l)) ∧ True) ∧ True ∧ (List.length l ≤ (9223372036854775806 : Nat) ∧ l = l) ∧ true = true ∧ True ∧ true = true ∧ True) ∧ (true = false → false = true ∧ True)) ∧ (true = false → false = true ∧ True)) ∧ (true = false → false = true ∧ True)) ∧ (true = false → false = true ∧ True)) ∧ (true = false → false = true ∧ True)) ∧ (true = false → (((true = true ∧ List.length l = List.length l ∧ contLe (List.length l) (5 : Nat) (cellsOf' encR l) (cellsOf' encR l)) ∧ true = true ∧ ((0 : Nat) = (0 : Nat) ∧ List.length (toL (List.length l + (1 : Nat))) = List.length (toL (List.length l + (1 : Nat)))) ∧ ((0 : Nat) = (0 : Nat) ∧ List.length l = List.length l) ∧ (0 : Int) = (0 : Int) ∧ ((0 : Nat) = (0 : Nat) ∧ List.length l = List.length l) ∧ (0 : Int) = (0 : Int) ∧ false = true ∧ (0 : Int) = (0 : Int) ∧ True) ∧ ((List.length (toL (List.length l + (1 : Nat))) = List.length (toL (List.length l + (1 : Nat))) ∧ contLe (List.length (toL (List.length l + (1 : Nat)))) (1 : Nat) (cellsOf' encU (toL (List.length l + (1 : Nat)))) (cellsOf' encU (toL (List.length l + (1 : Nat))))) ∧ (List.length l = List.length l ∧ contLe (List.length l) (5 : Nat) (cellsOf' encR l) (cellsOf' encR l)) ∧ (List.length l = List.length l ∧ contLe (List.length l) (5 : Nat) (cellsOf' encR l) (cellsOf' encR l)) ∧ True) ∧ true = true) ∧ LoopOk Tryd.prog (7 : Nat) (10 : Nat) (loopAt Tryd.prog (7 : Nat) (10 : Nat)) { t := whT l (0 : Nat), m := whM l, mv := [] : St } (T.map (lout whX (whS l)) ((fun (x : Nat) => T.ret ()) (0 : Nat))) ∧ (true = true → (true = true → (true = true → (true = true → ((false = false ∧ List.length l = List.length l ∧ contLe (List.length l) (5 : Nat) (Ax.rowAt (0 : Nat) (cellsOf' encR l)) (cellsOf' encR l)) ∧ (true = true ∧ List.length l = List.length l ∧ contLe (List.length l) (5 : Nat) (cellsOf' encR l) (cellsOf' encR l)) ∧ True) ∧ True ∧ (List.length l ≤ (9223372036854775806 : Nat) ∧ l = l) ∧ true = true ∧ True ∧ (true = true → ((false = false ∧ List.length l = List.length l ∧ contLe (List.length l) (5 : Nat) (Ax.rowAt (0 : Nat) (cellsOf' encR l)) (cellsOf' encR l)) ∧ (true = true ∧ List.length l = List.length l ∧ contLe (List.length l) (5 : Nat) (cellsOf' encR l) (cellsOf' encR l)) ∧ True) ∧ True ∧ (List.length l ≤ (9223372036854775806 : Nat) ∧ l = l) ∧ true = true ∧ True ∧ true = true ∧ True) ∧ (true = false → false = true ∧ True)) ∧ (true = false → false = true ∧ True)) ∧ (true = false → false = true ∧ True)) ∧ (true = false → false = true ∧ True)) ∧ (true = false → false = true ∧ True))) ∧ (true = false → (((true = true ∧ List.length l = List.length l ∧ contLe (List.length l) (5 : Nat) (cellsOf' encR l) (cellsOf' encR l)) ∧ true = true ∧ ((0 : Nat) = (0 : Nat) ∧ List.length (toL (List.length l + (1 : Nat))) = List.length (toL (List.length l + (1 : Nat)))) ∧ ((0 : Nat) = (0 : Nat) ∧ List.length l = List.length l) ∧ (0 : Int) = (0 : Int) ∧ ((0 : Nat) = (0 : Nat) ∧ List.length l = List.length l) ∧ (0 : Int) = (0 : Int) ∧ false = true ∧ (0 : Int) = (0 : Int) ∧ True) ∧ ((List.length (toL (List.length l + (1 : Nat))) = List.length (toL (List.length l + (1 : Nat))) ∧ contLe (List.length (toL (List.length l + (1 : Nat)))) (1 : Nat) (cellsOf' encU (toL (List.length l + (1 : Nat)))) (cellsOf' encU (toL (List.length l + (1 : Nat))))) ∧ (List.length l = List.length l ∧ contLe (List.length l) (5 : Nat) (cellsOf' encR l) (cellsOf' encR l)) ∧ (List.length l = List.length l ∧ contLe (List.length l) (5 : Nat) (cellsOf' encR l) (cellsOf' encR l)) ∧ True) ∧ true = true) ∧ LoopOk Tryd.prog (7 : Nat) (10 : Nat) (loopAt Tryd.prog (7 : Nat) (10 : Nat)) { t := whT l (0 : Nat), m := whM l, mv := [] : St } (T.map (lout whX (whS l)) ((fun (x : Nat) => T.ret ()) (0 : Nat))) ∧ (true = true → (true = true → (true = true → (true = true → ((false = false ∧ List.length l = List.length l ∧ contLe (List.length l) (5 : Nat) (Ax.rowAt (0 : Nat) (cellsOf' encR l)) (cellsOf' encR l)) ∧ (true = true ∧ List.length l = List.length l ∧ contLe (List.length l) (5 : Nat) (cellsOf' encR l) (cellsOf' encR l)) ∧ True) ∧ True ∧ (List.length l ≤ (9223372036854775806 : Nat) ∧ l = l) ∧ true = true ∧ True ∧ (true = true → ((false = false ∧ List.length l = List.length l ∧ contLe (List.length l) (5 : Nat) (Ax.rowAt (0 : Nat) (cellsOf' encR l)) (cellsOf' encR l)) ∧ (true = true ∧ List.length l = List.length l ∧ contLe (List.length l) (5 : Nat) (cellsOf' encR l) (cellsOf' encR l)) ∧ True) ∧ True ∧ (List.length l ≤ (9223372036854775806 : Nat) ∧ l = l) ∧ true = true ∧ True ∧ true = true ∧ True) ∧ (true = false → false = true ∧ True)) ∧ (true = false → false = true ∧ True)) ∧ (true = false → false = true ∧ True)) ∧ (true = false → false = true ∧ True)) ∧ (true = false → false = true ∧ True)))
set_option maxRecDepth 1000000 in
theorem vcWh_eq (l : List Rec) : (ctrVC Tryd.prog (whH true l) 7 [encRs true l] [] (boolR true)) = vcWh l := by kernel_rfl
def vcWh2 (l : List Rec) : Prop :=
  True ∧ True ∧ ((true = true ∧ List.length l = List.length l ∧ contLe (List.length l) (5 : Nat) (cellsOf' encR l) (cellsOf' encR l)) ∧ True) ∧ True ∧ List.length l ≤ (9223372036854775806 : Nat) ∧ ((true = true ∧ List.length l = List.length l ∧ contLe (List.length l) (5 : Nat) (cellsOf' encR l) (cellsOf' encR l)) ∧ ({ data := #[] : ByteArray } = emB ∧ { data := #[] : ByteArray } = emB ∧ True) ∧ True) ∧ True ∧ (List.length l ≤ (4611686018427387903 : Nat) ∧ isLog l = false) ∧ ((true = true ∧ List.length l = List.length l ∧ contLe (List.length l) (5 : Nat) (cellsOf' encR l) (cellsOf' encR l)) ∧ (0 : Nat) = (0 : Nat) ∧ True) ∧ True ∧ (List.length l ≤ (4611686018427387903 : Nat) ∧ isLog l = false) ∧ ((0 : Nat) = (0 : Nat) ∧ (true = true ∧ List.length l = List.length l ∧ contLe (List.length l) (5 : Nat) (cellsOf' encR l) (cellsOf' encR l)) ∧ True) ∧ True ∧ (List.length l ≤ (4611686018427387903 : Nat) ∧ isLog l = false) ∧ ((!isLog l) = true → (true = true → true = true ∧ True) ∧ (true = false → false = true ∧ True)) ∧ ((!isLog l) = false → (List.length l = (0 : Nat) ∧ (true = true ∧ List.length l = List.length l ∧ contLe (List.length l) (5 : Nat) (cellsOf' encR l) (cellsOf' encR l)) ∧ True) ∧ True ∧ (List.length l ≤ (9223372036854775806 : Nat) ∧ l = l) ∧ (true = true → (List.length (toL (List.length l + (1 : Nat))) = (0 : Nat) ∧ List.length (toL (List.length l + (1 : Nat))) = (0 : Nat) ∧ True) ∧ True ∧ (List.length (toL (List.length l + (1 : Nat))) ≤ (9223372036854775806 : Nat) ∧ toL (List.length l + (1 : Nat)) = toL (List.length l + (1 : Nat))) ∧ (true = true → (List.length (toL (List.length l + (1 : Nat))) = (0 : Nat) ∧ List.length (toL (List.length l + (1 : Nat))) = (0 : Nat) ∧ True) ∧ True ∧ (List.length (toL (List.length l + (1 : Nat))) ≤ (9223372036854775806 : Nat) ∧ toL (List.length l + (1 : Nat)) = toL (List.length l + (1 : Nat))) ∧ (((true = true ∧ List.length l = List.length l ∧ contLe (List.length l) (5 : Nat) (cellsOf' encR l) (cellsOf' encR l)) ∧ true = true ∧ False ∧ False ∧ (1 : Int) = (0 : Int) ∧ False ∧ (1 : Int) = (0 : Int) ∧ true = true ∧ (0 : Int) = (0 : Int) ∧ True) ∧ False ∧ true = true) ∧ LoopOk Tryd.prog (7 : Nat) (10 : Nat) (loopAt Tryd.prog (7 : Nat) (10 : Nat)) { t := whT l (0 : Nat), m := whM l, mv := [] : St } (T.map (lout whX (whS l)) ((fun (x : Nat) => T.ret ()) (0 : Nat))) ∧ (true = true → (true = true → (true = true → (true = true → ((false = false ∧ List.length l = List.length l ∧ contLe (List.length l) (5 : Nat) (Ax.rowAt (0 : Nat) (cellsOf' encR l)) (cellsOf' encR l)) ∧ (true = true ∧ List.length l = List.length l ∧ contLe (List.length l) (5 : Nat) (cellsOf' encR l) (cellsOf' encR l)) ∧ True) ∧ True ∧ (List.length l ≤ (9223372036854775806 : Nat) ∧ l = l) ∧ true = true ∧ True ∧ (true = true → ((false = false ∧ List.length l = List.length l ∧ contLe (List.length l) (5 : Nat) (Ax.rowAt (0 : Nat) (cellsOf' encR l)) (cellsOf' encR l)) ∧ (true = true ∧ List.length l = List.length l ∧ contLe (List.length l) (5 : Nat) (cellsOf' encR l) (cellsOf' encR l)) ∧ True) ∧ True ∧ (List.length l ≤ (9223372036854775806 : Nat) ∧ l = l) ∧ true = true ∧ True ∧ true = true ∧ True) ∧ (true = false → false = true ∧ True)) ∧ (true = false → false = true ∧ True)) ∧ (true = false → false = true ∧ True)) ∧ (true = false → false = true ∧ True)) ∧ (true = false → false = true ∧ True)) ∧ (true = false → (((true = true ∧ List.length l = List.length l ∧ contLe (List.length l) (5 : Nat) (cellsOf' encR l) (cellsOf' encR l)) ∧ true = true ∧ False ∧ False ∧ (1 : Int) = (0 : Int) ∧ False ∧ (1 : Int) = (0 : Int) ∧ false = true ∧ (0 : Int) = (0 : Int) ∧ True) ∧ False ∧ true = true) ∧ LoopOk Tryd.prog (7 : Nat) (10 : Nat) (loopAt Tryd.prog (7 : Nat) (10 : Nat)) { t := whT l (0 : Nat), m := whM l, mv := [] : St } (T.map (lout whX (whS l)) ((fun (x : Nat) => T.ret ()) (0 : Nat))) ∧ (true = true → (true = true → (true = true → (true = true → ((false = false ∧ List.length l = List.length l ∧ contLe (List.length l) (5 : Nat) (Ax.rowAt (0 : Nat) (cellsOf' encR l)) (cellsOf' encR l)) ∧ (true = true ∧ List.length l = List.length l ∧ contLe (List.length l) (5 : Nat) (cellsOf' encR l) (cellsOf' encR l)) ∧ True) ∧ True ∧ (List.length l ≤ (9223372036854775806 : Nat) ∧ l = l) ∧ true = true ∧ True ∧ (true = true → ((false = false ∧ List.length l = List.length l ∧ contLe (List.length l) (5 : Nat) (Ax.rowAt (0 : Nat) (cellsOf' encR l)) (cellsOf' encR l)) ∧ (true = true ∧ List.length l = List.length l ∧ contLe (List.length l) (5 : Nat) (cellsOf' encR l) (cellsOf' encR l)) ∧ True) ∧ True ∧ (List.length l ≤ (9223372036854775806 : Nat) ∧ l = l) ∧ true = true ∧ True ∧ true = true ∧ True) ∧ (true = false → false = true ∧ True)) ∧ (true = false → false = true ∧ True)) ∧ (true = false → false = true ∧ True)) ∧ (true = false → false = true ∧ True)) ∧ (true = false → false = true ∧ True))) ∧ (true = false → (((true = true ∧ List.length l = List.length l ∧ contLe (List.length l) (5 : Nat) (cellsOf' encR l) (cellsOf' encR l)) ∧ true = true ∧ False ∧ False ∧ (1 : Int) = (0 : Int) ∧ False ∧ (1 : Int) = (0 : Int) ∧ false = true ∧ (0 : Int) = (0 : Int) ∧ True) ∧ False ∧ true = true) ∧ LoopOk Tryd.prog (7 : Nat) (10 : Nat) (loopAt Tryd.prog (7 : Nat) (10 : Nat)) { t := whT l (0 : Nat), m := whM l, mv := [] : St } (T.map (lout whX (whS l)) ((fun (x : Nat) => T.ret ()) (0 : Nat))) ∧ (true = true → (true = true → (true = true → (true = true → ((false = false ∧ List.length l = List.length l ∧ contLe (List.length l) (5 : Nat) (Ax.rowAt (0 : Nat) (cellsOf' encR l)) (cellsOf' encR l)) ∧ (true = true ∧ List.length l = List.length l ∧ contLe (List.length l) (5 : Nat) (cellsOf' encR l) (cellsOf' encR l)) ∧ True) ∧ True ∧ (List.length l ≤ (9223372036854775806 : Nat) ∧ l = l) ∧ true = true ∧ True ∧ (true = true → ((false = false ∧ List.length l = List.length l ∧ contLe (List.length l) (5 : Nat) (Ax.rowAt (0 : Nat) (cellsOf' encR l)) (cellsOf' encR l)) ∧ (true = true ∧ List.length l = List.length l ∧ contLe (List.length l) (5 : Nat) (cellsOf' encR l) (cellsOf' encR l)) ∧ True) ∧ True ∧ (List.length l ≤ (9223372036854775806 : Nat) ∧ l = l) ∧ true = true ∧ True ∧ true = true ∧ True) ∧ (true = false → false = true ∧ True)) ∧ (true = false → false = true ∧ True)) ∧ (true = false → false = true ∧ True)) ∧ (true = false → false = true ∧ True)) ∧ (true = false → false = true ∧ True)))
set_option maxRecDepth 1000000 in
theorem vcWh2_eq (l : List Rec) : (ctrVC Tryd.prog (whH false l) 7 [encRs true l] [] (boolR true)) = vcWh2 l := by kernel_rfl
theorem wh_loop (l : List Rec) (hl : l.length ≤ 4096) (k : Nat) : LoopOk Tryd.prog 7 10 (loopAt Tryd.prog 7 10) ⟨whT l k, whM l, []⟩ (T.map (lout whX (whS l)) (.ret ())) := by
  refine loop_vc (o := fun _ => .ret ()) (stM := fun _ => whM l) Tryd.mixed (fun _ => rfl) (fun k => (vcWhL_eq l k).mpr ?_) k
  unfold vcWhL
  have ht := @to_at (l.length + 1) k
  simp [to_len]
  intro h
  have hk : k < l.length + 1 := by omega
  have ht := ht hk
  simp at ht
  exact ⟨h, hk, ht, fun _ => ⟨k + 1, by omega, by rw [wrap_i64 (by omega) (by omega)]; omega⟩⟩
theorem wh_c (l : List Rec) (h : l.length ≤ 4611686018427387903) : (boolR true).Sat (ACall' Tryd.prog 7 [encRs true l] []) := by
  cases hi : isLog l
  · refine ctr_vc (ht := whH false l) Tryd.mixed rfl ?_
    rw [vcWh2_eq l]
    unfold vcWh2
    simp [hi]
    exact ⟨by omega, rfl, by omega⟩
  · refine ctr_vc (ht := whH true l) Tryd.mixed rfl ?_
    rw [vcWh_eq l]
    unfold vcWh
    have hn := log_len hi
    have lp := wh_loop l hn 0
    simp [hi, lp, to_len]
    exact ⟨by omega, rfl, by omega, by omega, by omega, by omega⟩
end Go.Proofs.YtjmdejbijigfjaaDoor

/-! Records: consumers: the conditions. -/
namespace Go.Proofs.YtjmdejbijigfjaaDoor
open Go.Ax
set_option maxRecDepth 1000000
def coOk (l : List Con) (k : Nat) : Bool := nameOk (l.getD k default).name && !(decide (0 < k) && !lt (l.getD (k - 1) default).name (l.getD k default).name)
def coFrom (l : List Con) (k : Nat) : Bool := (List.range' k (l.length - k)).all fun j => coOk l j
theorem coFrom_end {l : List Con} {k : Nat} (h : l.length ≤ k) : coFrom l k = true := by
  unfold coFrom
  rw [show l.length - k = 0 by omega]; rfl
theorem coFrom_step {l : List Con} {k : Nat} (h : k < l.length) : coFrom l k = (coOk l k && coFrom l (k + 1)) := by
  unfold coFrom
  rw [show l.length - k = (l.length - (k + 1)) + 1 by omega, List.range'_succ]; rfl
def isCons (l : List Con) : Bool := coFrom l 0 && decide (l.length ≤ 64)
def coT (b : Bool) (l : List Con) (k : Nat) : List AV := mkT 35 [(0, encCs b l), (2, .s (.bool false)), (5, encCs b l), (6, .y (.int .i64 l.length)), (7, .y (.int .i64 k))]
def coS (b : Bool) (l : List Con) (r : Bool) : Exit × List AV × List Blk := match r with
  | true => (.exit 0, mkT 35 [(0, encCs b l)], [])
  | false => (.ret, mkT 35 [(2, .s (.bool false))], [])
def coO (l : List Con) (k : Nat) : T Bool := .ite (coFrom l k) (.ret true) (.ret false)
noncomputable def coHL (l : List Con) (k : Nat) : HintsT Tryd.prog := hh _ noLp (cs1 43 4 2 (nameC (l.getD k default).name) noCs) noOp
def vcCoL (b : Bool) (l : List Con) (k : Nat) : Prop :=
  (decide ((↑k : Int) < (↑(List.length l) : Int)) = true → (true && decide ((↑k : Int) < (↑(List.length l) : Int))) = true ∧ ((List.getD l (Int.toNat (↑k : Int)) (@default Con instInhabitedCon)).name = (List.getD l k (@default Con instInhabitedCon)).name ∧ True) ∧ True ∧ ((!nameOk (List.getD l k (@default Con instInhabitedCon)).name) = true → (coFrom l k = true → False) ∧ (coFrom l k = false → (false = false ∧ True) ∧ True ∧ true = true)) ∧ ((!nameOk (List.getD l k (@default Con instInhabitedCon)).name) = false → (decide ((0 : Int) < (↑k : Int)) = true → (decide ((0 : Int) ≤ IntKind.wrap IntKind.i64 ((↑k : Int) - (1 : Int))) && decide (IntKind.wrap IntKind.i64 ((↑k : Int) - (1 : Int)) < (↑(List.length l) : Int))) = true ∧ ((!Op.bytesLess (List.getD l (Int.toNat (IntKind.wrap IntKind.i64 ((↑k : Int) - (1 : Int)))) (@default Con instInhabitedCon)).name.data.toList (List.getD l (Int.toNat (↑k : Int)) (@default Con instInhabitedCon)).name.data.toList) = true → (coFrom l k = true → False) ∧ (coFrom l k = false → (false = false ∧ True) ∧ True ∧ true = true)) ∧ ((!Op.bytesLess (List.getD l (Int.toNat (IntKind.wrap IntKind.i64 ((↑k : Int) - (1 : Int)))) (@default Con instInhabitedCon)).name.data.toList (List.getD l (Int.toNat (↑k : Int)) (@default Con instInhabitedCon)).name.data.toList) = false → ∃ (j : Nat), List.length l - j < List.length l - k ∧ (((b = b ∧ List.length l = List.length l ∧ contLe (List.length l) (2 : Nat) (cellsOf' encC l) (cellsOf' encC l)) ∧ false = false ∧ (b = b ∧ List.length l = List.length l ∧ contLe (List.length l) (2 : Nat) (cellsOf' encC l) (cellsOf' encC l)) ∧ (↑(List.length l) : Int) = (↑(List.length l) : Int) ∧ IntKind.wrap IntKind.i64 ((↑k : Int) + (1 : Int)) = (↑j : Int) ∧ True) ∧ True ∧ true = true) ∧ true = true ∧ (coFrom l j = true → (coFrom l k = true → true = true) ∧ (coFrom l k = false → true = false)) ∧ (coFrom l j = false → (coFrom l k = true → false = true) ∧ (coFrom l k = false → false = false)))) ∧ (decide ((0 : Int) < (↑k : Int)) = false → ∃ (j : Nat), List.length l - j < List.length l - k ∧ (((b = b ∧ List.length l = List.length l ∧ contLe (List.length l) (2 : Nat) (cellsOf' encC l) (cellsOf' encC l)) ∧ false = false ∧ (b = b ∧ List.length l = List.length l ∧ contLe (List.length l) (2 : Nat) (cellsOf' encC l) (cellsOf' encC l)) ∧ (↑(List.length l) : Int) = (↑(List.length l) : Int) ∧ IntKind.wrap IntKind.i64 ((↑k : Int) + (1 : Int)) = (↑j : Int) ∧ True) ∧ True ∧ true = true) ∧ true = true ∧ (coFrom l j = true → (coFrom l k = true → true = true) ∧ (coFrom l k = false → true = false)) ∧ (coFrom l j = false → (coFrom l k = true → false = true) ∧ (coFrom l k = false → false = false))))) ∧ (decide ((↑k : Int) < (↑(List.length l) : Int)) = false → (coFrom l k = true → ((b = b ∧ List.length l = List.length l ∧ contLe (List.length l) (2 : Nat) (cellsOf' encC l) (cellsOf' encC l)) ∧ True) ∧ True ∧ true = true) ∧ (coFrom l k = false → False))
set_option maxRecDepth 1000000 in
theorem vcCoL_eq (b : Bool) (l : List Con) (k : Nat) : (loopVC Tryd.prog (coHL l k) 43 2 (fun k => l.length - k) (coT b l) (fun _ => []) [0] (coO l) (coS b l) k) = vcCoL b l k := by kernel_rfl
noncomputable def coH (b : Bool) (l : List Con) : HintsT Tryd.prog := hh _ (lp1 43 2 (jobOf (coT b l) (fun _ => []) [0] (coO l) (coS b l) 0) noLp) noCs noOp
def vcCo (b : Bool) (l : List Con) : Prop :=
  (((b = b ∧ List.length l = List.length l ∧ contLe (List.length l) (2 : Nat) (cellsOf' encC l) (cellsOf' encC l)) ∧ false = false ∧ (b = b ∧ List.length l = List.length l ∧ contLe (List.length l) (2 : Nat) (cellsOf' encC l) (cellsOf' encC l)) ∧ (↑(List.length l) : Int) = (↑(List.length l) : Int) ∧ (0 : Int) = (0 : Int) ∧ True) ∧ True ∧ true = true) ∧ LoopOk Tryd.prog (43 : Nat) (2 : Nat) (loopAt Tryd.prog (43 : Nat) (2 : Nat)) { t := coT b l (0 : Nat), m := [], mv := [] : St } (T.map (lout [(0 : Nat)] (coS b l)) (coO l (0 : Nat))) ∧ (coFrom l (0 : Nat) = true → decide ((↑(List.length l) : Int) ≤ (64 : Int)) = isCons l ∧ True) ∧ (coFrom l (0 : Nat) = false → false = isCons l ∧ True)
set_option maxRecDepth 1000000 in
theorem vcCo_eq (b : Bool) (l : List Con) : (ctrVC Tryd.prog (coH b l) 43 [encCs b l] [] (boolR (isCons l))) = vcCo b l := by kernel_rfl
def crT (b : Bool) (l : List Con) (k : Nat) : List AV := mkT 40 [(0, encCs b l), (2, .s (.bool false)), (3, .y (.int .i64 k))]
def crS (r : Bool) : Exit × List AV × List Blk := match r with
  | true => (.exit 0, mkT 40 [], [])
  | false => (.ret, mkT 40 [(2, .s (.bool false))], [])
noncomputable def crHL (l : List Con) (k : Nat) : HintsT Tryd.prog := hh _ noLp (cs1 44 6 5 (nmC (l.getD k default).name) noCs) noOp
def vcCrL (b : Bool) (l : List Con) (k : Nat) : Prop :=
  (decide ((↑k : Int) < (↑(List.length l) : Int)) = true → (true && decide ((↑k : Int) < (↑(List.length l) : Int))) = true ∧ ((List.getD l (Int.toNat (↑k : Int)) (@default Con instInhabitedCon)).name = (List.getD l k (@default Con instInhabitedCon)).name ∧ True) ∧ True ∧ ((!nameOk (List.getD l k (@default Con instInhabitedCon)).name) = true → (coFrom l k = true → False) ∧ (coFrom l k = false → (false = false ∧ True) ∧ True ∧ true = true)) ∧ ((!nameOk (List.getD l k (@default Con instInhabitedCon)).name) = false → (decide ((0 : Int) < (↑k : Int)) = true → (decide ((0 : Int) ≤ IntKind.wrap IntKind.i64 ((↑k : Int) - (1 : Int))) && decide (IntKind.wrap IntKind.i64 ((↑k : Int) - (1 : Int)) < (↑(List.length l) : Int))) = true ∧ (true && decide ((↑k : Int) < (↑(List.length l) : Int))) = true ∧ ((!Op.bytesLess (List.getD l (Int.toNat (IntKind.wrap IntKind.i64 ((↑k : Int) - (1 : Int)))) (@default Con instInhabitedCon)).name.data.toList (List.getD l (Int.toNat (↑k : Int)) (@default Con instInhabitedCon)).name.data.toList) = true → (coFrom l k = true → False) ∧ (coFrom l k = false → (false = false ∧ True) ∧ True ∧ true = true)) ∧ ((!Op.bytesLess (List.getD l (Int.toNat (IntKind.wrap IntKind.i64 ((↑k : Int) - (1 : Int)))) (@default Con instInhabitedCon)).name.data.toList (List.getD l (Int.toNat (↑k : Int)) (@default Con instInhabitedCon)).name.data.toList) = false → ∃ (j : Nat), List.length l - j < List.length l - k ∧ (((b = b ∧ List.length l = List.length l ∧ contLe (List.length l) (2 : Nat) (cellsOf' encC l) (cellsOf' encC l)) ∧ false = false ∧ IntKind.wrap IntKind.i64 ((↑k : Int) + (1 : Int)) = (↑j : Int) ∧ True) ∧ True ∧ true = true) ∧ true = true ∧ (coFrom l j = true → (coFrom l k = true → true = true) ∧ (coFrom l k = false → true = false)) ∧ (coFrom l j = false → (coFrom l k = true → false = true) ∧ (coFrom l k = false → false = false)))) ∧ (decide ((0 : Int) < (↑k : Int)) = false → ∃ (j : Nat), List.length l - j < List.length l - k ∧ (((b = b ∧ List.length l = List.length l ∧ contLe (List.length l) (2 : Nat) (cellsOf' encC l) (cellsOf' encC l)) ∧ false = false ∧ IntKind.wrap IntKind.i64 ((↑k : Int) + (1 : Int)) = (↑j : Int) ∧ True) ∧ True ∧ true = true) ∧ true = true ∧ (coFrom l j = true → (coFrom l k = true → true = true) ∧ (coFrom l k = false → true = false)) ∧ (coFrom l j = false → (coFrom l k = true → false = true) ∧ (coFrom l k = false → false = false))))) ∧ (decide ((↑k : Int) < (↑(List.length l) : Int)) = false → (coFrom l k = true → True ∧ True ∧ true = true) ∧ (coFrom l k = false → False))
set_option maxRecDepth 1000000 in
theorem vcCrL_eq (b : Bool) (l : List Con) (k : Nat) : (loopVC Tryd.prog (crHL l k) 44 4 (fun k => l.length - k) (crT b l) (fun _ => []) [0] (coO l) crS k) = vcCrL b l k := by kernel_rfl
noncomputable def crH (b : Bool) (l : List Con) : HintsT Tryd.prog := hh _ (lp1 44 4 (jobOf (crT b l) (fun _ => []) [0] (coO l) crS 0) noLp) noCs noOp
def vcCr (b : Bool) (l : List Con) : Prop :=
  (decide ((64 : Int) < (↑(List.length l) : Int)) = true → false = isCons l ∧ True) ∧ (decide ((64 : Int) < (↑(List.length l) : Int)) = false → (((b = b ∧ List.length l = List.length l ∧ contLe (List.length l) (2 : Nat) (cellsOf' encC l) (cellsOf' encC l)) ∧ false = false ∧ (0 : Int) = (0 : Int) ∧ True) ∧ True ∧ true = true) ∧ LoopOk Tryd.prog (44 : Nat) (4 : Nat) (loopAt Tryd.prog (44 : Nat) (4 : Nat)) { t := crT b l (0 : Nat), m := [], mv := [] : St } (T.map (lout [(0 : Nat)] crS) (coO l (0 : Nat))) ∧ (coFrom l (0 : Nat) = true → true = isCons l ∧ True) ∧ (coFrom l (0 : Nat) = false → false = isCons l ∧ True))
set_option maxRecDepth 1000000 in
theorem vcCr_eq (b : Bool) (l : List Con) : (ctrVC Tryd.prog (crH b l) 44 [encCs b l] [] (boolR (isCons l))) = vcCr b l := by kernel_rfl
/-! Read -/
def eqN (a b : ByteArray) : Bool := a.data.toList == b.data.toList
def findC (l : List Con) (s : ByteArray) : Option Con := l.find? fun x => eqN x.name s
def fnR (s : ByteArray) : AV := .fn (.func 57) [] [.ip false 1 (get [.y (.string s)])]
def rxT (b : Bool) (s : ByteArray) (l : List Con) (k : Nat) : List AV := mkT 19 [(0, encCs b l), (1, fnR s), (4, .s (.int .i64 0)), (7, .y (.int .i64 l.length)), (8, .y (.int .i64 k))]
def rxS (r : Bool × Nat) : Exit × List AV × List Blk := match r.1 with
  | true => (.ret, mkT 19 [(4, .y (.int .i64 r.2))], [])
  | false => (.exit 0, mkT 19 [], [])
def inC (l : List Con) (s : ByteArray) : Bool := l.any fun x => eqN x.name s
def rxO (l : List Con) (s : ByteArray) (k : Nat) : T (Bool × Nat) := .ite (inC (l.drop k) s) (.ret (true, k + (l.drop k).findIdx fun x => eqN x.name s)) (.ret (false, 0))
def vcRxL (b : Bool) (s : ByteArray) (l : List Con) (k : Nat) : Prop :=
  (decide ((↑k : Int) < (↑(List.length l) : Int)) = true → (true && decide ((↑k : Int) < (↑(List.length l) : Int))) = true ∧ (((List.getD l (Int.toNat (↑k : Int)) (@default Con instInhabitedCon)).name.data.toList == s.data.toList) = true → (inC (List.drop k l) s = true → ((↑k : Int) = (↑(k + List.findIdx (fun (x : Con) => eqN x.name s) (List.drop k l)) : Int) ∧ True) ∧ True ∧ true = true) ∧ (inC (List.drop k l) s = false → False)) ∧ (((List.getD l (Int.toNat (↑k : Int)) (@default Con instInhabitedCon)).name.data.toList == s.data.toList) = false → ∃ (j : Nat), List.length l - j < List.length l - k ∧ (((b = b ∧ List.length l = List.length l ∧ contLe (List.length l) (2 : Nat) (cellsOf' encC l) (cellsOf' encC l)) ∧ (True ∧ (false = false ∧ (1 : Nat) ≤ (1 : Nat) ∧ cellLe (1 : Nat) (Ax.get [AV.y (Value.string s)]) (Ax.get [AV.y (Value.string s)])) ∧ True) ∧ (0 : Int) = (0 : Int) ∧ (↑(List.length l) : Int) = (↑(List.length l) : Int) ∧ IntKind.wrap IntKind.i64 ((↑k : Int) + (1 : Int)) = (↑j : Int) ∧ True) ∧ True ∧ true = true) ∧ true = true ∧ (inC (List.drop j l) s = true → (inC (List.drop k l) s = true → (true, j + List.findIdx (fun (x : Con) => eqN x.name s) (List.drop j l)) = (true, k + List.findIdx (fun (x : Con) => eqN x.name s) (List.drop k l))) ∧ (inC (List.drop k l) s = false → (true, j + List.findIdx (fun (x : Con) => eqN x.name s) (List.drop j l)) = (false, (0 : Nat)))) ∧ (inC (List.drop j l) s = false → (inC (List.drop k l) s = true → (false, (0 : Nat)) = (true, k + List.findIdx (fun (x : Con) => eqN x.name s) (List.drop k l))) ∧ (inC (List.drop k l) s = false → (false, (0 : Nat)) = (false, (0 : Nat)))))) ∧ (decide ((↑k : Int) < (↑(List.length l) : Int)) = false → (inC (List.drop k l) s = true → False) ∧ (inC (List.drop k l) s = false → True ∧ True ∧ true = true))
set_option maxRecDepth 1000000 in
theorem vcRxL_eq (b : Bool) (s : ByteArray) (l : List Con) (k : Nat) : (loopVC Tryd.prog (hT _) 56 2 (fun k => l.length - k) (rxT b s l) (fun _ => []) [0] (rxO l s) rxS k) = vcRxL b s l k := by kernel_rfl
noncomputable def rxH (b : Bool) (s : ByteArray) (l : List Con) : HintsT Tryd.prog := hh _ (lp1 56 2 (jobOf (rxT b s l) (fun _ => []) [0] (rxO l s) rxS 0) noLp) noCs noOp
def readO (l : List Con) (s : ByteArray) : Int := ((findC l s).getD default).off
def rdR (l : List Con) (s : ByteArray) : T An := .ret (.tup [.y (.int .u64 (readO l s)), .y (.bool (inC l s))], [], [])
def vcRead (b : Bool) (s : ByteArray) (l : List Con) : Prop :=
  (((b = b ∧ List.length l = List.length l ∧ contLe (List.length l) (2 : Nat) (cellsOf' encC l) (cellsOf' encC l)) ∧ (True ∧ (false = false ∧ (1 : Nat) ≤ (1 : Nat) ∧ cellLe (1 : Nat) (fun (j : Nat) => Ax.get [AV.y (Value.string s)] ((0 : Nat) + j)) (Ax.get [AV.y (Value.string s)])) ∧ True) ∧ (0 : Int) = (0 : Int) ∧ (↑(List.length l) : Int) = (↑(List.length l) : Int) ∧ (0 : Int) = (0 : Int) ∧ True) ∧ True ∧ true = true) ∧ LoopOk Tryd.prog (56 : Nat) (2 : Nat) (loopAt Tryd.prog (56 : Nat) (2 : Nat)) { t := rxT b s l (0 : Nat), m := [], mv := [] : St } (T.map (lout [(0 : Nat)] rxS) (rxO l s (0 : Nat))) ∧ (inC (List.drop (0 : Nat) l) s = true → true = true ∧ True ∧ (false = true → ((0 : Int) = readO l s ∧ false = inC l s ∧ True) ∧ True) ∧ (false = false → (true && decide ((↑((0 : Nat) + List.findIdx (fun (x : Con) => eqN x.name s) (List.drop (0 : Nat) l)) : Int) < (↑(List.length l) : Int))) = true ∧ ((List.getD l (Int.toNat (↑((0 : Nat) + List.findIdx (fun (x : Con) => eqN x.name s) (List.drop (0 : Nat) l)) : Int)) (@default Con instInhabitedCon)).off = readO l s ∧ true = inC l s ∧ True) ∧ True)) ∧ (inC (List.drop (0 : Nat) l) s = false → true = true ∧ True ∧ ((0 : Int) = readO l s ∧ false = inC l s ∧ True) ∧ True)
set_option maxRecDepth 1000000 in
theorem vcRead_eq (b : Bool) (s : ByteArray) (l : List Con) : (ctrVC Tryd.prog (rxH b s l) 35 [encCs b l, .y (.string s)] [] (rdR l s)) = vcRead b s l := by kernel_rfl
def rrT (b : Bool) (s : ByteArray) (l : List Con) (k : Nat) : List AV := mkT 25 [(0, encCs b l), (1, .y (.string s)), (6, .y (.int .i64 k))]
def rrS (r : Bool × Int) : Exit × List AV × List Blk := match r.1 with
  | true => (.ret, mkT 25 [(4, .y (.int .u64 r.2)), (5, .s (.bool true))], [])
  | false => (.exit 0, mkT 25 [], [])
def rrO (l : List Con) (s : ByteArray) (k : Nat) : T (Bool × Int) := .ite (inC (l.drop k) s) (.ret (true, readO (l.drop k) s)) (.ret (false, 0))
def vcRrL (b : Bool) (s : ByteArray) (l : List Con) (k : Nat) : Prop :=
  (decide ((↑k : Int) < (↑(List.length l) : Int)) = true → (true && decide ((↑k : Int) < (↑(List.length l) : Int))) = true ∧ (((List.getD l (Int.toNat (↑k : Int)) (@default Con instInhabitedCon)).name.data.toList == s.data.toList) = true → (true && decide ((↑k : Int) < (↑(List.length l) : Int))) = true ∧ (inC (List.drop k l) s = true → ((List.getD l (Int.toNat (↑k : Int)) (@default Con instInhabitedCon)).off = readO (List.drop k l) s ∧ true = true ∧ True) ∧ True ∧ true = true) ∧ (inC (List.drop k l) s = false → False)) ∧ (((List.getD l (Int.toNat (↑k : Int)) (@default Con instInhabitedCon)).name.data.toList == s.data.toList) = false → ∃ (j : Nat), List.length l - j < List.length l - k ∧ (((b = b ∧ List.length l = List.length l ∧ contLe (List.length l) (2 : Nat) (cellsOf' encC l) (cellsOf' encC l)) ∧ s = s ∧ IntKind.wrap IntKind.i64 ((↑k : Int) + (1 : Int)) = (↑j : Int) ∧ True) ∧ True ∧ true = true) ∧ true = true ∧ (inC (List.drop j l) s = true → (inC (List.drop k l) s = true → (true, readO (List.drop j l) s) = (true, readO (List.drop k l) s)) ∧ (inC (List.drop k l) s = false → (true, readO (List.drop j l) s) = (false, (0 : Int)))) ∧ (inC (List.drop j l) s = false → (inC (List.drop k l) s = true → (false, (0 : Int)) = (true, readO (List.drop k l) s)) ∧ (inC (List.drop k l) s = false → (false, (0 : Int)) = (false, (0 : Int)))))) ∧ (decide ((↑k : Int) < (↑(List.length l) : Int)) = false → (inC (List.drop k l) s = true → False) ∧ (inC (List.drop k l) s = false → True ∧ True ∧ true = true))
set_option maxRecDepth 1000000 in
theorem vcRrL_eq (b : Bool) (s : ByteArray) (l : List Con) (k : Nat) : (loopVC Tryd.prog (hT _) 36 2 (fun k => l.length - k) (rrT b s l) (fun _ => []) [0] (rrO l s) rrS k) = vcRrL b s l k := by kernel_rfl
noncomputable def rrH (b : Bool) (s : ByteArray) (l : List Con) : HintsT Tryd.prog := hh _ (lp1 36 2 (jobOf (rrT b s l) (fun _ => []) [0] (rrO l s) rrS 0) noLp) noCs noOp
def vcRr (b : Bool) (s : ByteArray) (l : List Con) : Prop :=
  (((b = b ∧ List.length l = List.length l ∧ contLe (List.length l) (2 : Nat) (cellsOf' encC l) (cellsOf' encC l)) ∧ s = s ∧ (0 : Int) = (0 : Int) ∧ True) ∧ True ∧ true = true) ∧ LoopOk Tryd.prog (36 : Nat) (2 : Nat) (loopAt Tryd.prog (36 : Nat) (2 : Nat)) { t := rrT b s l (0 : Nat), m := [], mv := [] : St } (T.map (lout [(0 : Nat)] rrS) (rrO l s (0 : Nat))) ∧ (inC (List.drop (0 : Nat) l) s = true → (readO (List.drop (0 : Nat) l) s = readO l s ∧ true = inC l s ∧ True) ∧ True) ∧ (inC (List.drop (0 : Nat) l) s = false → ((0 : Int) = readO l s ∧ false = inC l s ∧ True) ∧ True)
set_option maxRecDepth 1000000 in
theorem vcRr_eq (b : Bool) (s : ByteArray) (l : List Con) : (ctrVC Tryd.prog (rrH b s l) 36 [encCs b l, .y (.string s)] [] (rdR l s)) = vcRr b s l := by kernel_rfl
/-! where one reads on who read on at an offset -/
def elemO (to : List Int) (o : Int) : Int := to.getD (min o (to.length - 1)).toNat 0
def u64R (k : Int) : T An := .ret (.y (.int .u64 k), [], [])
def vcOf (b : Bool) (to : List Int) (o : Int) : Prop :=
  (decide ((0 : Int) ≤ if IntKind.wrap IntKind.u64 (IntKind.wrap IntKind.i64 ((↑(List.length to) : Int) - (1 : Int))) < o then IntKind.wrap IntKind.u64 (IntKind.wrap IntKind.i64 ((↑(List.length to) : Int) - (1 : Int))) else o) && decide ((if IntKind.wrap IntKind.u64 (IntKind.wrap IntKind.i64 ((↑(List.length to) : Int) - (1 : Int))) < o then IntKind.wrap IntKind.u64 (IntKind.wrap IntKind.i64 ((↑(List.length to) : Int) - (1 : Int))) else o) < (↑(List.length to) : Int))) = true ∧ List.getD to (Int.toNat (if IntKind.wrap IntKind.u64 (IntKind.wrap IntKind.i64 ((↑(List.length to) : Int) - (1 : Int))) < o then IntKind.wrap IntKind.u64 (IntKind.wrap IntKind.i64 ((↑(List.length to) : Int) - (1 : Int))) else o)) (0 : Int) = elemO to o ∧ True
set_option maxRecDepth 1000000 in
theorem vcOf_eq (b : Bool) (to : List Int) (o : Int) : (ctrVC Tryd.prog (hT _) 58 [encUs b to, .y (.int .u64 o)] [] (u64R (elemO to o))) = vcOf b to o := by kernel_rfl
def vcEl (b : Bool) (to : List Int) (o : Int) : Prop :=
  (decide (IntKind.wrap IntKind.u64 (↑(List.length to) : Int) ≤ o) = true → (decide ((0 : Int) ≤ IntKind.wrap IntKind.i64 ((↑(List.length to) : Int) - (1 : Int))) && decide (IntKind.wrap IntKind.i64 ((↑(List.length to) : Int) - (1 : Int)) < (↑(List.length to) : Int))) = true ∧ List.getD to (Int.toNat (IntKind.wrap IntKind.i64 ((↑(List.length to) : Int) - (1 : Int)))) (0 : Int) = elemO to o ∧ True) ∧ (decide (IntKind.wrap IntKind.u64 (↑(List.length to) : Int) ≤ o) = false → (decide ((0 : Int) ≤ IntKind.wrap IntKind.i64 o) && decide (IntKind.wrap IntKind.i64 o < (↑(List.length to) : Int))) = true ∧ List.getD to (Int.toNat (IntKind.wrap IntKind.i64 o)) (0 : Int) = elemO to o ∧ True)
set_option maxRecDepth 1000000 in
theorem vcEl_eq (b : Bool) (to : List Int) (o : Int) : (ctrVC Tryd.prog (hT _) 59 [encUs b to, .y (.int .u64 o)] [] (u64R (elemO to o))) = vcEl b to o := by kernel_rfl
end Go.Proofs.YtjmdejbijigfjaaDoor

/-! Records: consumers: the contracts. -/
namespace Go.Proofs.YtjmdejbijigfjaaDoor
open Go.Ax
set_option maxRecDepth 1000000
theorem co_loop (b : Bool) (l : List Con) (hl : l.length ≤ 9223372036854775806) (k : Nat) : LoopOk Tryd.prog 43 2 (loopAt Tryd.prog 43 2) ⟨coT b l k, [], []⟩ ((coO l k).map (lout [0] (coS b l))) := by
  refine loop_vcH (ht := coHL l) Tryd.mixed (fun _ => rfl) (fun k => (vcCoL_eq b l k).mpr ?_) k
  unfold vcCoL
  simp
  refine ⟨fun h => ?_, fun h => by simp [coFrom_end h]⟩
  rw [coFrom_step h]
  have e1 : IntKind.i64.wrap ((k : Int) + 1) = ((k + 1 : Nat) : Int) := by rw [wrap_i64 (by omega) (by omega)]; omega
  rw [e1]
  rcases Nat.eq_zero_or_pos k with rfl | hk
  · simp [coOk]
    generalize l[0]?.getD default = x
    cases nameOk x.name <;> simp
    all_goals repeat' with_reducible apply And.intro
    all_goals first | omega | exact ⟨1, by omega, by simp, by grind⟩
  · have e2 : IntKind.i64.wrap ((k : Int) - 1) = ((k - 1 : Nat) : Int) := by rw [wrap_i64 (by omega) (by omega)]; omega
    rw [e2]
    simp [coOk, lt, hk]
    generalize l[k]?.getD default = x
    generalize l[k - 1]?.getD default = y
    generalize Op.bytesLess y.name.data.toList x.name.data.toList = q
    cases nameOk x.name <;> cases q <;> simp <;> (try omega)
    all_goals repeat' with_reducible apply And.intro
    all_goals first | omega | (intro h0; exact absurd h0 (by omega)) | exact ⟨k + 1, by omega, by simp, by grind⟩
theorem co_c (b : Bool) (l : List Con) (hl : l.length ≤ 9223372036854775806) : (boolR (isCons l)).Sat (ACall' Tryd.prog 43 [encCs b l] []) := by
  refine ctr_vc (ht := coH b l) Tryd.mixed rfl ?_
  rw [vcCo_eq b l]
  unfold vcCo
  have := co_loop b l hl 0
  simp [this, isCons]
  grind
theorem cr_loop (b : Bool) (l : List Con) (hl : l.length ≤ 9223372036854775806) (k : Nat) : LoopOk Tryd.prog 44 4 (loopAt Tryd.prog 44 4) ⟨crT b l k, [], []⟩ ((coO l k).map (lout [0] crS)) := by
  refine loop_vcH (ht := crHL l) Tryd.mixed (fun _ => rfl) (fun k => (vcCrL_eq b l k).mpr ?_) k
  unfold vcCrL
  simp
  refine ⟨fun h => ?_, fun h => by simp [coFrom_end h]⟩
  rw [coFrom_step h]
  have e1 : IntKind.i64.wrap ((k : Int) + 1) = ((k + 1 : Nat) : Int) := by rw [wrap_i64 (by omega) (by omega)]; omega
  rw [e1]
  rcases Nat.eq_zero_or_pos k with rfl | hk
  · simp [coOk]
    generalize l[0]?.getD default = x
    cases nameOk x.name <;> simp
    all_goals repeat' with_reducible apply And.intro
    all_goals first | omega | exact ⟨1, by omega, by simp, by grind⟩
  · have e2 : IntKind.i64.wrap ((k : Int) - 1) = ((k - 1 : Nat) : Int) := by rw [wrap_i64 (by omega) (by omega)]; omega
    rw [e2]
    simp [coOk, lt, hk]
    generalize l[k]?.getD default = x
    generalize l[k - 1]?.getD default = y
    generalize Op.bytesLess y.name.data.toList x.name.data.toList = q
    cases nameOk x.name <;> cases q <;> simp <;> (try omega)
    all_goals repeat' with_reducible apply And.intro
    all_goals first | omega | (intro h0; exact absurd h0 (by omega)) | exact ⟨k + 1, by omega, by simp, by grind⟩
theorem cr_c (b : Bool) (l : List Con) (hl : l.length ≤ 9223372036854775806) : (boolR (isCons l)).Sat (ACall' Tryd.prog 44 [encCs b l] []) := by
  refine ctr_vc (ht := crH b l) Tryd.mixed rfl ?_
  rw [vcCr_eq b l]
  unfold vcCr
  have := cr_loop b l hl 0
  simp [this, isCons]
  grind
theorem inC_nil (s : ByteArray) : inC [] s = false := rfl
theorem inC_cons (y : Con) (l : List Con) (s : ByteArray) : inC (y :: l) s = (eqN y.name s || inC l s) := rfl
theorem readO_cons (y : Con) (l : List Con) (s : ByteArray) : readO (y :: l) s = if eqN y.name s then y.off else readO l s := by
  unfold readO findC
  rw [List.find?_cons]
  split <;> simp_all
theorem rx_loop (b : Bool) (s : ByteArray) (l : List Con) (hl : l.length ≤ 9223372036854775806) (k : Nat) : LoopOk Tryd.prog 56 2 (loopAt Tryd.prog 56 2) ⟨rxT b s l k, [], []⟩ ((rxO l s k).map (lout [0] rxS)) := by
  refine loop_vc Tryd.mixed (fun _ => rfl) (fun k => (vcRxL_eq b s l k).mpr ?_) k
  unfold vcRxL
  simp
  refine ⟨fun h => ?_, fun h => by simp [drop_end h, inC_nil]⟩
  simp (disch := omega) only [wrap_i64]
  rw [drop_cons h]
  simp only [inC_cons, List.findIdx_cons]
  generalize l[k]?.getD default = y
  by_cases h1 : y.name.data = s.data
  · simp [eqN, h1, h]
  · simp [eqN, h1, h, cast_succ_eq]
    exact ⟨k + 1, by omega, rfl, by grind⟩
theorem at_find : ∀ (l : List Con) (s : ByteArray), inC l s = true → (l.findIdx fun x => eqN x.name s) < l.length ∧ (l.getD (l.findIdx fun x => eqN x.name s) default).off = readO l s
  | [], s, h => by simp [inC_nil] at h
  | y :: l, s, h => by
    rw [inC_cons] at h
    rw [readO_cons, List.findIdx_cons]
    cases hy : eqN y.name s
    · rw [hy, Bool.false_or] at h
      have := at_find l s h
      simpa using this
    · simp
theorem read_none : ∀ (l : List Con) (s : ByteArray), inC l s = false → readO l s = 0
  | [], s, _ => rfl
  | y :: l, s, h => by
    rw [inC_cons, Bool.or_eq_false_iff] at h
    rw [readO_cons, h.1]
    simpa using read_none l s h.2
theorem read_c (b : Bool) (s : ByteArray) (l : List Con) (hl : l.length ≤ 9223372036854775806) : (rdR l s).Sat (ACall' Tryd.prog 35 [encCs b l, .y (.string s)] []) := by
  refine ctr_vc (ht := rxH b s l) Tryd.mixed rfl ?_
  rw [vcRead_eq b s l]
  unfold vcRead
  have lp := rx_loop b s l hl 0
  cases hi : inC l s
  · have := read_none l s hi
    simp [lp, hi, this]
  · have := at_find l s hi
    simp [lp, hi, this.1] at this ⊢
    exact this
theorem rr_loop (b : Bool) (s : ByteArray) (l : List Con) (hl : l.length ≤ 9223372036854775806) (k : Nat) : LoopOk Tryd.prog 36 2 (loopAt Tryd.prog 36 2) ⟨rrT b s l k, [], []⟩ ((rrO l s k).map (lout [0] rrS)) := by
  refine loop_vc Tryd.mixed (fun _ => rfl) (fun k => (vcRrL_eq b s l k).mpr ?_) k
  unfold vcRrL
  simp
  refine ⟨fun h => ?_, fun h => by simp [drop_end h, inC_nil]⟩
  simp (disch := omega) only [wrap_i64]
  rw [drop_cons h]
  simp only [inC_cons, readO_cons]
  generalize l[k]?.getD default = y
  by_cases h1 : y.name.data = s.data
  · simp [eqN, h1, h]
  · simp [eqN, h1, h, cast_succ_eq]
    exact ⟨k + 1, by omega, rfl, by grind⟩
theorem rr_c (b : Bool) (s : ByteArray) (l : List Con) (hl : l.length ≤ 9223372036854775806) : (rdR l s).Sat (ACall' Tryd.prog 36 [encCs b l, .y (.string s)] []) := by
  refine ctr_vc (ht := rrH b s l) Tryd.mixed rfl ?_
  rw [vcRr_eq b s l]
  unfold vcRr
  have lp := rr_loop b s l hl 0
  cases hi : inC l s
  · have := read_none l s hi
    simp [lp, hi, this]
  · simp [lp, hi]
def offOk (o : Int) : Prop := 0 ≤ o ∧ o < 18446744073709551616
theorem of_c (b : Bool) (to : List Int) (o : Int) (h0 : 0 < to.length) (hl : to.length ≤ 9223372036854775806) (ho : offOk o) : (u64R (elemO to o)).Sat (ACall' Tryd.prog 58 [encUs b to, .y (.int .u64 o)] []) := by
  refine ctr_vc (ht := hT _) Tryd.mixed rfl ?_
  rw [vcOf_eq b to o]
  unfold vcOf
  have h1 := ho.1
  have h2 := ho.2
  have e : IntKind.u64.wrap (IntKind.i64.wrap ((to.length : Int) - 1)) = (to.length : Int) - 1 := by
    rw [wrap_i64 (by omega) (by omega), wrap_u64 (by omega) (by omega)]
  rw [e]
  unfold elemO
  have hm : (if (to.length : Int) - 1 < o then (to.length : Int) - 1 else o) = min o (to.length - 1) := by
    rw [Int.min_def]; split <;> split <;> omega
  rw [hm]
  have h3 : (0 : Int) ≤ min o (to.length - 1) := by rw [Int.min_def]; split <;> omega
  have h4 : min o ((to.length : Int) - 1) < to.length := by rw [Int.min_def]; split <;> omega
  refine ⟨?_, rfl, trivial⟩
  rw [decide_eq_true h3, decide_eq_true h4]; rfl
theorem el_c (b : Bool) (to : List Int) (o : Int) (h0 : 0 < to.length) (hl : to.length ≤ 9223372036854775806) (ho : offOk o) : (u64R (elemO to o)).Sat (ACall' Tryd.prog 59 [encUs b to, .y (.int .u64 o)] []) := by
  refine ctr_vc (ht := hT _) Tryd.mixed rfl ?_
  rw [vcEl_eq b to o]
  unfold vcEl
  have h1 := ho.1
  have h2 := ho.2
  have e : IntKind.u64.wrap (to.length : Int) = to.length := by rw [wrap_u64 (by omega) (by omega)]
  have e1 : IntKind.i64.wrap ((to.length : Int) - 1) = (to.length : Int) - 1 := by rw [wrap_i64 (by omega) (by omega)]
  rw [e, e1]
  unfold elemO
  refine ⟨fun h => ?_, fun h => ?_⟩
  · have h := of_decide_eq_true h
    have hm : min o ((to.length : Int) - 1) = to.length - 1 := by rw [Int.min_def]; split <;> omega
    rw [hm]
    refine ⟨?_, rfl, trivial⟩
    rw [decide_eq_true (by omega), decide_eq_true (by omega)]; rfl
  · have h := of_decide_eq_false h
    have hm : min o ((to.length : Int) - 1) = o := by rw [Int.min_def]; split <;> omega
    have e2 : IntKind.i64.wrap o = o := by rw [wrap_i64 (by omega) (by omega)]
    rw [hm, e2]
    refine ⟨?_, rfl, trivial⟩
    rw [decide_eq_true (by omega), decide_eq_true (by omega)]; rfl
noncomputable def coC (b : Bool) (l : List Con) : Ctr Tryd.prog := ⟨43, [encCs b l], [], .need (l.length ≤ 9223372036854775806) (boolR (isCons l)), T.Sat.need fun h => co_c b l h⟩
noncomputable def crC (b : Bool) (l : List Con) : Ctr Tryd.prog := ⟨44, [encCs b l], [], .need (l.length ≤ 9223372036854775806) (boolR (isCons l)), T.Sat.need fun h => cr_c b l h⟩
noncomputable def rdC (b : Bool) (l : List Con) (s : ByteArray) : Ctr Tryd.prog := ⟨35, [encCs b l, .y (.string s)], [], .need (l.length ≤ 9223372036854775806) (rdR l s), T.Sat.need fun h => read_c b s l h⟩
noncomputable def rrC (b : Bool) (l : List Con) (s : ByteArray) : Ctr Tryd.prog := ⟨36, [encCs b l, .y (.string s)], [], .need (l.length ≤ 9223372036854775806) (rdR l s), T.Sat.need fun h => rr_c b s l h⟩
noncomputable def ofC (b : Bool) (to : List Int) (o : Int) : Ctr Tryd.prog := ⟨58, [encUs b to, .y (.int .u64 o)], [], .need (0 < to.length ∧ to.length ≤ 9223372036854775806 ∧ offOk o) (u64R (elemO to o)), T.Sat.need fun h => of_c b to o h.1 h.2.1 h.2.2⟩
noncomputable def elC (b : Bool) (to : List Int) (o : Int) : Ctr Tryd.prog := ⟨59, [encUs b to, .y (.int .u64 o)], [], .need (0 < to.length ∧ to.length ≤ 9223372036854775806 ∧ offOk o) (u64R (elemO to o)), T.Sat.need fun h => el_c b to o h.1 h.2.1 h.2.2⟩
end Go.Proofs.YtjmdejbijigfjaaDoor

/-! Records: slices.Clone, BinarySearchFunc of consumers. -/
namespace Go.Proofs.YtjmdejbijigfjaaDoor
open Go.Ax
set_option maxRecDepth 1000000
theorem less_trans : ∀ (a b c : List UInt8), Op.bytesLess a b = true → Op.bytesLess b c = true → Op.bytesLess a c = true
  | [], [], c, h, _ => by simp [Op.bytesLess] at h
  | [], _ :: _, [], _, h => by simp [Op.bytesLess] at h
  | [], _ :: _, _ :: _, _, _ => rfl
  | _ :: _, [], _, h, _ => by simp [Op.bytesLess] at h
  | _ :: _, _ :: _, [], _, h => by simp [Op.bytesLess] at h
  | a :: l, b :: m, c :: n, h1, h2 => by
    simp only [Op.bytesLess, Bool.or_eq_true, Bool.and_eq_true, decide_eq_true_eq, beq_iff_eq] at h1 h2 ⊢
    rcases h1 with h1 | ⟨rfl, h1⟩
    · rcases h2 with h2 | ⟨rfl, h2⟩
      · exact Or.inl (UInt8.lt_trans h1 h2)
      · exact Or.inl h1
    · rcases h2 with h2 | ⟨rfl, h2⟩
      · exact Or.inl h2
      · exact Or.inr ⟨rfl, less_trans l m n h1 h2⟩
theorem lt_trans' {a b c : ByteArray} (h1 : lt a b = true) (h2 : lt b c = true) : lt a c = true := less_trans _ _ _ h1 h2
/-- names rise -/
def risC (l : List Con) : Prop := ∀ i j, i < j → j < l.length → lt (l.getD i default).name (l.getD j default).name = true
def belC (l : List Con) (s : ByteArray) : Nat := (l.takeWhile (fun y => lt y.name s)).length
theorem belC_eq {l : List Con} {s : ByteArray} {i : Nat} (h : i ≤ l.length) (lo : ∀ k, k < i → lt (l.getD k default).name s = true) (hi : ∀ k, i ≤ k → k < l.length → lt (l.getD k default).name s = false) : belC l s = i := by
  unfold belC
  have e : l = l.take i ++ l.drop i := (List.take_append_drop i l).symm
  have h1 : ∀ a ∈ l.take i, lt a.name s = true := by
    intro a ha
    obtain ⟨k, hk, rfl⟩ := List.mem_iff_getElem.1 ha
    simp only [List.length_take] at hk
    have := lo k (by omega)
    have hkl : k < l.length := by omega
    simp [hkl] at this
    simpa using this
  have h2 : (l.drop i).takeWhile (fun y => lt y.name s) = [] := by
    cases hd : l.drop i with
    | nil => rfl
    | cons y r =>
      have hil : i < l.length := by
        have := congrArg List.length hd
        simp at this; omega
      have := hi i (Nat.le_refl _) hil
      rw [List.drop_eq_getElem_cons hil] at hd
      cases hd
      simp [hil] at this
      rw [List.takeWhile_cons_of_neg]
      simpa using this
  rw [e, List.takeWhile_append_of_pos h1, h2, List.append_nil, List.length_take]
  omega
theorem belC_le (l : List Con) (s : ByteArray) : belC l s ≤ l.length := (List.takeWhile_sublist _).length_le
theorem ris_lo {l : List Con} {s : ByteArray} (hr : risC l) {m k : Nat} (hm : m < l.length) (hk : k ≤ m) (h : lt (l.getD m default).name s = true) : lt (l.getD k default).name s = true := by
  rcases Nat.lt_or_ge k m with h1 | h1
  · exact lt_trans' (hr k m h1 hm) h
  · obtain rfl : k = m := by omega
    exact h
theorem ris_hi {l : List Con} {s : ByteArray} (hr : risC l) {m k : Nat} (hk : m ≤ k) (hl : k < l.length) (h : lt (l.getD m default).name s = false) : lt (l.getD k default).name s = false := by
  cases hc : lt (l.getD k default).name s
  · rfl
  · rw [ris_lo hr hl hk hc] at h; exact h
structure BS (l : List Con) (x : Con) where
  i : Nat
  j : Nat
  ij : i ≤ j
  jl : j ≤ l.length
  lo : ∀ k, k < i → lt (l.getD k default).name x.name = true
  hi : ∀ k, j ≤ k → k < l.length → lt (l.getD k default).name x.name = false
def BS.up {l : List Con} {x : Con} (hr : risC l) (q : BS l x) (m : Nat) (h2 : m < q.j) (hx : lt (l.getD m default).name x.name = true) : BS l x where
  i := m + 1
  j := q.j
  ij := by omega
  jl := q.jl
  lo := fun k hk => ris_lo hr (m := m) (by have := q.jl; omega) (by omega) hx
  hi := q.hi
def BS.down {l : List Con} {x : Con} (hr : risC l) (q : BS l x) (m : Nat) (h1 : q.i ≤ m) (h2 : m < q.j) (hx : lt (l.getD m default).name x.name = false) : BS l x where
  i := q.i
  j := m
  ij := h1
  jl := by have := q.jl; omega
  lo := q.lo
  hi := fun k hk hl => ris_hi hr hk hl hx
def BS.start (l : List Con) (x : Con) : BS l x := ⟨0, l.length, Nat.zero_le _, Nat.le_refl _, fun _ h => absurd h (Nat.not_lt_zero _), fun k h1 h2 => absurd h2 (by omega)⟩
def fnB : AV := .fn (.func 54) [] []
def cmpV (a b : ByteArray) : Int := if lt a b then -1 else if lt b a then 1 else 0
def vcBy (x : Con) (y : Con) : Prop :=
  ((!x.name.data.toList == x.name.data.toList) = true → ((!y.name.data.toList == y.name.data.toList) = true → (0 : Int) = cmpV x.name y.name ∧ True) ∧ ((!y.name.data.toList == y.name.data.toList) = false → (-1 : Int) = cmpV x.name y.name ∧ True)) ∧ ((!x.name.data.toList == x.name.data.toList) = false → ((!y.name.data.toList == y.name.data.toList) = true → (1 : Int) = cmpV x.name y.name ∧ True) ∧ ((!y.name.data.toList == y.name.data.toList) = false → (Op.bytesLess x.name.data.toList y.name.data.toList = true → (-1 : Int) = cmpV x.name y.name ∧ True) ∧ (Op.bytesLess x.name.data.toList y.name.data.toList = false → ((!(Op.bytesLess x.name.data.toList y.name.data.toList || x.name.data.toList == y.name.data.toList)) = true → (1 : Int) = cmpV x.name y.name ∧ True) ∧ ((!(Op.bytesLess x.name.data.toList y.name.data.toList || x.name.data.toList == y.name.data.toList)) = false → (0 : Int) = cmpV x.name y.name ∧ True))))
set_option maxRecDepth 1000000 in
theorem vcBy_eq (x : Con) (y : Con) : (ctrVC Tryd.prog (hT _) 54 [.agg (encC x), .agg (encC y)] [] (intR (cmpV x.name y.name))) = vcBy x y := by kernel_rfl
theorem by_c (x y : Con) : (intR (cmpV x.name y.name)).Sat (ACall' Tryd.prog 54 [.agg (encC x), .agg (encC y)] []) := by
  refine ctr_vc (ht := hT _) Tryd.mixed rfl ?_
  rw [vcBy_eq x y]
  unfold vcBy cmpV lt
  have h1 := less_asymm x.name.data.toList y.name.data.toList
  have h2 := less_total x.name.data.toList y.name.data.toList
  have h3 : Op.bytesLess y.name.data.toList x.name.data.toList = true → ¬ x.name.data = y.name.data := fun h e => by rw [e, less_irr] at h; simp at h
  generalize Op.bytesLess x.name.data.toList y.name.data.toList = p at *
  generalize Op.bytesLess y.name.data.toList x.name.data.toList = q at *
  cases p <;> cases q <;> simp at * <;> assumption
noncomputable def byC (x y : Con) : Ctr Tryd.prog := ⟨54, [.agg (encC x), .agg (encC y)], [], intR (cmpV x.name y.name), by_c x y⟩
def bsT (b : Bool) (l : List Con) (x : Con) (q : BS l x) : List AV := mkT 49 [(0, encCs b l), (2, fnB), (4, .ptr 0 0 0 0), (6, .s (.int .i64 0)), (7, .s (.bool false)), (8, .y (.int .i64 l.length)), (9, .y (.int .i64 q.i)), (10, .y (.int .i64 q.j))]
def bsM (x : Con) : List Blk := [.box 59 (encC x)]
def bsS (b : Bool) (l : List Con) (x : Con) (_ : Unit) : Exit × List AV × List Blk := (.exit 0, mkT 49 [(0, encCs b l), (2, fnB), (4, .ptr 0 0 0 0), (8, .y (.int .i64 l.length)), (9, .y (.int .i64 (belC l x.name)))], bsM x)
noncomputable def bsHL (l : List Con) (x : Con) (q : BS l x) : HintsT Tryd.prog := hh _ noLp (cs1 65 5 6 (byC (l.getD ((q.i + q.j) / 2) default) x) noCs) noOp
def vcBsL (b : Bool) (l : List Con) (x : Con) (q : BS l x) : Prop :=
  (decide ((↑q.i : Int) < (↑q.j : Int)) = true → (decide ((0 : Int) ≤ IntKind.wrap IntKind.i64 (IntKind.wrap IntKind.u64 (IntKind.wrap IntKind.i64 ((↑q.i : Int) + (↑q.j : Int))) / (2 : Int))) && decide (IntKind.wrap IntKind.i64 (IntKind.wrap IntKind.u64 (IntKind.wrap IntKind.i64 ((↑q.i : Int) + (↑q.j : Int))) / (2 : Int)) < (↑(List.length l) : Int))) = true ∧ (((List.getD l (Int.toNat (IntKind.wrap IntKind.i64 (IntKind.wrap IntKind.u64 (IntKind.wrap IntKind.i64 ((↑q.i : Int) + (↑q.j : Int))) / (2 : Int)))) (@default Con instInhabitedCon)).name = (List.getD l ((q.i + q.j) / (2 : Nat)) (@default Con instInhabitedCon)).name ∧ (List.getD l (Int.toNat (IntKind.wrap IntKind.i64 (IntKind.wrap IntKind.u64 (IntKind.wrap IntKind.i64 ((↑q.i : Int) + (↑q.j : Int))) / (2 : Int)))) (@default Con instInhabitedCon)).off = (List.getD l ((q.i + q.j) / (2 : Nat)) (@default Con instInhabitedCon)).off ∧ True) ∧ (x.name = x.name ∧ x.off = x.off ∧ True) ∧ True) ∧ True ∧ (decide (cmpV (List.getD l ((q.i + q.j) / (2 : Nat)) (@default Con instInhabitedCon)).name x.name < (0 : Int)) = true → ∃ (j : BS l x), j.j - j.i < q.j - q.i ∧ (((b = b ∧ List.length l = List.length l ∧ contLe (List.length l) (2 : Nat) (cellsOf' encC l) (cellsOf' encC l)) ∧ (True ∧ True) ∧ ((0 : Nat) = (0 : Nat) ∧ (0 : Nat) = (0 : Nat)) ∧ (0 : Int) = (0 : Int) ∧ false = false ∧ (↑(List.length l) : Int) = (↑(List.length l) : Int) ∧ IntKind.wrap IntKind.i64 (IntKind.wrap IntKind.i64 (IntKind.wrap IntKind.u64 (IntKind.wrap IntKind.i64 ((↑q.i : Int) + (↑q.j : Int))) / (2 : Int)) + (1 : Int)) = (↑j.i : Int) ∧ (↑q.j : Int) = (↑j.j : Int) ∧ True) ∧ ((x.name = x.name ∧ x.off = x.off ∧ True) ∧ True) ∧ true = true) ∧ true = true ∧ () = ()) ∧ (decide (cmpV (List.getD l ((q.i + q.j) / (2 : Nat)) (@default Con instInhabitedCon)).name x.name < (0 : Int)) = false → ∃ (j : BS l x), j.j - j.i < q.j - q.i ∧ (((b = b ∧ List.length l = List.length l ∧ contLe (List.length l) (2 : Nat) (cellsOf' encC l) (cellsOf' encC l)) ∧ (True ∧ True) ∧ ((0 : Nat) = (0 : Nat) ∧ (0 : Nat) = (0 : Nat)) ∧ (0 : Int) = (0 : Int) ∧ false = false ∧ (↑(List.length l) : Int) = (↑(List.length l) : Int) ∧ (↑q.i : Int) = (↑j.i : Int) ∧ IntKind.wrap IntKind.i64 (IntKind.wrap IntKind.u64 (IntKind.wrap IntKind.i64 ((↑q.i : Int) + (↑q.j : Int))) / (2 : Int)) = (↑j.j : Int) ∧ True) ∧ ((x.name = x.name ∧ x.off = x.off ∧ True) ∧ True) ∧ true = true) ∧ true = true ∧ () = ())) ∧ (decide ((↑q.i : Int) < (↑q.j : Int)) = false → ((b = b ∧ List.length l = List.length l ∧ contLe (List.length l) (2 : Nat) (cellsOf' encC l) (cellsOf' encC l)) ∧ (True ∧ True) ∧ ((0 : Nat) = (0 : Nat) ∧ (0 : Nat) = (0 : Nat)) ∧ (↑(List.length l) : Int) = (↑(List.length l) : Int) ∧ (↑q.i : Int) = (↑(belC l x.name) : Int) ∧ True) ∧ ((x.name = x.name ∧ x.off = x.off ∧ True) ∧ True) ∧ true = true)
set_option maxRecDepth 1000000 in
theorem vcBsL_eq (b : Bool) (l : List Con) (x : Con) (q : BS l x) : (loopVC Tryd.prog (bsHL l x q) 65 3 (fun q : BS l x => q.j - q.i) (bsT b l x) (fun _ => bsM x) [1, 2, 3, 4] (fun _ => .ret ()) (bsS b l x) q) = vcBsL b l x q := by kernel_rfl
noncomputable def bsH (b : Bool) (l : List Con) (x : Con) : HintsT Tryd.prog := hh _ (lp1 65 3 (jobOf (bsT b l x) (fun _ => bsM x) [1, 2, 3, 4] (fun _ => .ret ()) (bsS b l x) (BS.start l x)) noLp) (cs1 65 8 11 (byC (l.getD (belC l x.name) default) x) noCs) noOp
def bsF (l : List Con) (x : Con) : Bool := decide (belC l x.name < l.length) && (cmpV (l.getD (belC l x.name) default).name x.name == 0)
def bsR (l : List Con) (x : Con) : T An := .ret (.tup [.y (.int .i64 (belC l x.name)), .y (.bool (bsF l x))], [], [])
def vcBs (b : Bool) (l : List Con) (x : Con) : Prop :=
  (((b = b ∧ List.length l = List.length l ∧ contLe (List.length l) (2 : Nat) (cellsOf' encC l) (cellsOf' encC l)) ∧ (True ∧ True) ∧ ((0 : Nat) = (0 : Nat) ∧ (0 : Nat) = (0 : Nat)) ∧ (0 : Int) = (0 : Int) ∧ false = false ∧ (↑(List.length l) : Int) = (↑(List.length l) : Int) ∧ (0 : Int) = (0 : Int) ∧ (↑(List.length l) : Int) = (↑(List.length l) : Int) ∧ True) ∧ ((x.name = x.name ∧ x.off = x.off ∧ True) ∧ True) ∧ true = true) ∧ LoopOk Tryd.prog (65 : Nat) (3 : Nat) (loopAt Tryd.prog (65 : Nat) (3 : Nat)) { t := bsT b l x (BS.start l x), m := bsM x, mv := [] : St } (T.map (lout [(1 : Nat), (2 : Nat), (3 : Nat), (4 : Nat)] (bsS b l x)) ((fun (x : BS l x) => T.ret ()) (BS.start l x))) ∧ (decide ((↑(belC l x.name) : Int) < (↑(List.length l) : Int)) = true → (true && decide ((↑(belC l x.name) : Int) < (↑(List.length l) : Int))) = true ∧ (((List.getD l (Int.toNat (↑(belC l x.name) : Int)) (@default Con instInhabitedCon)).name = (List.getD l (belC l x.name) (@default Con instInhabitedCon)).name ∧ (List.getD l (Int.toNat (↑(belC l x.name) : Int)) (@default Con instInhabitedCon)).off = (List.getD l (belC l x.name) (@default Con instInhabitedCon)).off ∧ True) ∧ (x.name = x.name ∧ x.off = x.off ∧ True) ∧ True) ∧ True ∧ ((↑(belC l x.name) : Int) = (↑(belC l x.name) : Int) ∧ (cmpV (List.getD l (belC l x.name) (@default Con instInhabitedCon)).name x.name == (0 : Int)) = bsF l x ∧ True) ∧ True) ∧ (decide ((↑(belC l x.name) : Int) < (↑(List.length l) : Int)) = false → ((↑(belC l x.name) : Int) = (↑(belC l x.name) : Int) ∧ false = bsF l x ∧ True) ∧ True)
set_option maxRecDepth 1000000 in
theorem vcBs_eq (b : Bool) (l : List Con) (x : Con) : (ctrVC Tryd.prog (bsH b l x) 65 [encCs b l, .agg (encC x), fnB] [] (bsR l x)) = vcBs b l x := by kernel_rfl
/-! slices.Clone -/
def ccR (l : List Con) : T An := .ret (.own 0 2 0 l.length, [rowC l], [])
noncomputable def ccH : HintsT Tryd.prog := hh _ noLp noCs (op1 66 2 0 (.row 59 2) noOp)
def vcCc0 (l : List Con) : Prop :=
  ((0 : Nat) = (0 : Nat) ∧ (0 : Nat) = List.length l) ∧ ((0 : Nat) = List.length l ∧ contLe (0 : Nat) (2 : Nat) (fun (x x_1 : Nat) => AV.junk) (cellsOf' encC l)) ∧ True
set_option maxRecDepth 1000000 in
theorem vcCc0_eq (l : List Con) : (ctrVC Tryd.prog ccH 66 [.s (.slice none 0 0)] [] (ccR l)) = vcCc0 l := by kernel_rfl
def vcCc1 (b : Bool) (l : List Con) : Prop :=
  (decide ((0 : Nat) + List.length l ≤ (9223372036854775807 : Nat)) && decide (((0 : Nat) + List.length l) * (24 : Nat) ≤ (140737488355328 : Nat))) = true ∧ ((0 : Nat) = (0 : Nat) ∧ (0 : Nat) + List.length l = List.length l) ∧ ((0 : Nat) + List.length l = List.length l ∧ contLe ((0 : Nat) + List.length l) (2 : Nat) (appRow (0 : Nat) (fun (k j : Nat) => AV.junk) (cellsOf' encC l)) (cellsOf' encC l)) ∧ True
set_option maxRecDepth 1000000 in
theorem vcCc1_eq (b : Bool) (l : List Con) : (ctrVC Tryd.prog ccH 66 [.yn b 2 l.length (cellsOf' encC l)] [] (ccR l)) = vcCc1 b l := by kernel_rfl
theorem cc_c (b : Bool) (l : List Con) (hl : l.length * 24 ≤ 140737488355328) : (ccR l).Sat (ACall' Tryd.prog 66 [encCs b l] []) := by
  refine nil_cases (pre := []) (post := []) (fun h0 => ?_) ?_ ⟨_, rfl⟩
  · refine ctr_vc (ht := ccH) Tryd.mixed rfl ?_
    rw [List.nil_append, vcCc0_eq l]
    unfold vcCc0
    simp [h0]
  · refine ctr_vc (ht := ccH) Tryd.mixed rfl ?_
    rw [List.nil_append, vcCc1_eq b l]
    unfold vcCc1
    simp
    omega
noncomputable def ccC (b : Bool) (l : List Con) (hl : l.length * 24 ≤ 140737488355328) : Ctr Tryd.prog := ⟨66, [encCs b l], [], ccR l, cc_c b l hl⟩
theorem cmp_le {a b : ByteArray} (h : lt a b = false) : (decide (cmpV a b < 0)) = false := by
  unfold cmpV; rw [h]; simp; split <;> omega
theorem cmp_lt {a b : ByteArray} (h : lt a b = true) : (decide (cmpV a b < 0)) = true := by
  unfold cmpV; rw [h]; rfl
theorem bs_loop (b : Bool) (l : List Con) (x : Con) (hl : l.length ≤ 4611686018427387900) (hr : risC l) (q : BS l x) : LoopOk Tryd.prog 65 3 (loopAt Tryd.prog 65 3) ⟨bsT b l x q, bsM x, []⟩ (T.map (lout [1, 2, 3, 4] (bsS b l x)) (.ret ())) := by
  refine loop_vcH (ht := bsHL l x) (o := fun _ => .ret ()) Tryd.mixed (fun _ => rfl) (fun q => (vcBsL_eq b l x q).mpr ?_) q
  unfold vcBsL
  have h1 := q.ij
  have h2 := q.jl
  obtain ⟨m, hm⟩ : ∃ m, m = (q.i + q.j) / 2 := ⟨_, rfl⟩
  have hw : IntKind.i64.wrap (IntKind.u64.wrap (IntKind.i64.wrap (↑q.i + ↑q.j)) / 2) = (m : Int) := by
    rw [wrap_i64 (n := ↑q.i + ↑q.j) (by omega) (by omega), wrap_u64 (by omega) (by omega), wrap_i64 (by omega) (by omega)]; omega
  rw [← hm]
  simp [hw]
  refine ⟨fun h => ⟨by omega, fun hx => ?_, fun hx => ?_⟩, fun h => ?_⟩
  · have hc : lt (l.getD m default).name x.name = true := by
      cases hc : lt (l.getD m default).name x.name
      · have := of_decide_eq_false (cmp_le hc); simp at this; omega
      · rfl
    refine ⟨q.up hr m (by omega) hc, ?_, ?_, rfl⟩
    · show q.j - (m + 1) < q.j - q.i; omega
    · show IntKind.i64.wrap (m + 1) = ((m + 1 : Nat) : Int)
      rw [wrap_i64 (by omega) (by omega)]; omega
  · have hc : lt (l.getD m default).name x.name = false := by
      cases hc : lt (l.getD m default).name x.name
      · rfl
      · have := of_decide_eq_true (cmp_lt hc); simp at this; omega
    refine ⟨q.down hr m (by omega) (by omega) hc, ?_, rfl, rfl⟩
    show m - q.i < q.j - q.i; omega
  · have := belC_eq (i := q.i) (by omega) q.lo fun k hk hl => q.hi k (by omega) hl
    omega
theorem bs_c (b : Bool) (l : List Con) (x : Con) (hl : l.length ≤ 4611686018427387900) (hr : risC l) : (bsR l x).Sat (ACall' Tryd.prog 65 [encCs b l, .agg (encC x), fnB] []) := by
  refine ctr_vc (ht := bsH b l x) Tryd.mixed rfl ?_
  rw [vcBs_eq b l x]
  unfold vcBs
  have := bs_loop b l x hl hr (BS.start l x)
  simp [bsF, this]
  grind
noncomputable def bsC (b : Bool) (l : List Con) (x : Con) (hl : l.length ≤ 4611686018427387900) (hr : risC l) : Ctr Tryd.prog := ⟨65, [encCs b l, .agg (encC x), fnB], [], bsR l x, bs_c b l x hl hr⟩
end Go.Proofs.YtjmdejbijigfjaaDoor
