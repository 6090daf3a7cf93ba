/- PROVED: RecordsWhole (the tied card RecordsWholeCardSaid), of the given program, for every input; the library's tables as the program's text lays them. -/
import Derived.Test.YtjmdejbijigfjaaDoorRows
import Derived.Test.YtjmdejbijigfjaaDoorTie
import Derived.Test.YtjmdejbijigfjaaDoorCards
import Derived.OpenShut
import Derived.Lay
import Derived.Handed
import Derived.SevenTiedAt
import Derived.Test.YtjmdejbijigfjaaDoorE8
import Derived.Test.YtjmdejbijigfjaaDoorW3
set_option linter.unusedVariables false
set_option linter.unusedSimpArgs false
/-! Records: the contracts of Keep. -/
namespace Go.Proofs.YtjmdejbijigfjaaDoor
open Go.Ax
set_option maxRecDepth 1000000
theorem log_val {l : List Rec} (h : isLog l = true) {k : Nat} (hk : k < l.length) : (l.getD k default).val.length ≤ 256 := by
  simp only [isLog, Bool.and_eq_true] at h
  have h1 := h.1
  unfold logFrom at h1
  rw [List.all_eq_true] at h1
  have h2 := h1 k (by simp; omega)
  simp only [okR, Bool.and_eq_true, decide_eq_true_eq] at h2
  exact h2.2.2
theorem log_len {l : List Rec} (h : isLog l = true) : l.length ≤ 4096 := by
  simp only [isLog, Bool.and_eq_true, decide_eq_true_eq] at h
  exact h.2
theorem ke_len (r : Rng) (l : List Rec) : ∀ k, k ≤ l.length → (ke r (l.take k)).to.length = k ∧ (ke r (l.take k)).out.length ≤ k := by
  intro k
  induction k with
  | zero => intro _; simp [ke]
  | succ k ih =>
    intro hk
    obtain ⟨h1, h2⟩ := ih (by omega)
    rw [ke_step (by omega)]
    unfold Ke.step
    constructor
    · simp [h1]
    · dsimp only
      split
      · simp; omega
      · omega
theorem ke_len' (r : Rng) (l : List Rec) : (ke r l).to.length = l.length ∧ (ke r l).out.length ≤ l.length := by
  have := ke_len r l l.length (Nat.le_refl _)
  rwa [List.take_length] at this
theorem kp_loop (b : Bool) (r : Rng) (l : List Rec) (hl : isLog l = true) (k : Nat) : LoopOk Tryd.prog 23 6 (loopAt Tryd.prog 23 6) ⟨kpT b l (ke r (l.take k)) k, kpM r (ke r (l.take k)), []⟩ (T.map (lout jX (kpS r (ke r l))) (.ret ())) := by
  refine loop_vcH (o := fun _ => .ret ()) (stT := fun k => kpT b l (ke r (l.take k)) k) (stM := fun k => kpM r (ke r (l.take k))) Tryd.mixed (fun _ => rfl) (fun k => (vcKpL_eq b r l k).mpr ?_) k
  unfold vcKpL
  have hn := log_len hl
  by_cases h : k < l.length
  · obtain ⟨h1, h2⟩ := ke_len r l k (by omega)
    have hz : decide ((k : Int) < l.length) = true := by simp; omega
    have hv := log_val hl h
    have hs := ke_step (r := r) h
    have hw : IntKind.i64.wrap ((k : Int) + 1) = ((k + 1 : Nat) : Int) := by rw [wrap_i64 (by omega) (by omega)]; omega
    simp only [hz, Int.toNat_natCast]
    generalize l.getD k default = x at *
    generalize ke r (l.take k) = s at *
    simp
    refine ⟨⟨by omega, by omega⟩, fun hh => ⟨by omega, ⟨by omega, by omega⟩, Exists.intro (k + 1) ?_⟩, fun hh => Exists.intro (k + 1) ?_⟩
    · have a1 : contLe (s.to.length + 1) 1 (appRow s.to.length (cellsOf' encU s.to) fun k j => Ax.get [AV.y (Value.int IntKind.u64 (IntKind.u64.wrap ↑s.out.length))] (k + j)) (cellsOf' encU (s.to ++ [IntKind.u64.wrap ↑s.out.length])) := app1_le1 (le0_refl _)
      rw [hs]
      simp [Ke.step, hh]
      refine ⟨by omega, hw, app1_le rfl (rec_le (le0_refl _) (le0_refl _) (le0_refl _) (le0_refl _) (le0_refl _)), a1⟩
    · have a1 : contLe (s.to.length + 1) 1 (appRow s.to.length (cellsOf' encU s.to) fun k j => Ax.get [AV.y (Value.int IntKind.u64 (IntKind.u64.wrap ↑s.out.length))] (k + j)) (cellsOf' encU (s.to ++ [IntKind.u64.wrap ↑s.out.length])) := app1_le1 (le0_refl _)
      rw [hs]
      simp [Ke.step, hh]
      refine ⟨by omega, hw, a1⟩
  · have hz : decide ((k : Int) < l.length) = false := by simp; omega
    rw [List.take_of_length_le (by omega)]
    simp [hz]
    exact fun e => absurd e h
theorem kr_loop (b : Bool) (r : Rng) (l : List Rec) (hl : isLog l = true) (k : Nat) : LoopOk Tryd.prog 24 7 (loopAt Tryd.prog 24 7) ⟨krT b l (ke r (l.take k)) k, kpM r (ke r (l.take k)), []⟩ (T.map (lout jX (krS r (ke r l))) (.ret ())) := by
  refine loop_vcH (o := fun _ => .ret ()) (stT := fun k => krT b l (ke r (l.take k)) k) (stM := fun k => kpM r (ke r (l.take k))) Tryd.mixed (fun _ => rfl) (fun k => (vcKrL_eq b r l k).mpr ?_) k
  unfold vcKrL
  have hn := log_len hl
  by_cases h : k < l.length
  · obtain ⟨h1, h2⟩ := ke_len r l k (by omega)
    have hz : decide ((k : Int) < l.length) = true := by simp; omega
    have hv := log_val hl h
    have hs := ke_step (r := r) h
    have hw : IntKind.i64.wrap ((k : Int) + 1) = ((k + 1 : Nat) : Int) := by rw [wrap_i64 (by omega) (by omega)]; omega
    simp only [hz, Int.toNat_natCast]
    generalize l.getD k default = x at *
    generalize ke r (l.take k) = s at *
    simp
    refine ⟨⟨by omega, by omega⟩, fun hh => ⟨by omega, ⟨by omega, by omega⟩, Exists.intro (k + 1) ?_⟩, fun hh => Exists.intro (k + 1) ?_⟩
    · have a1 : contLe (s.to.length + 1) 1 (appRow s.to.length (cellsOf' encU s.to) fun k j => Ax.get [AV.y (Value.int IntKind.u64 (IntKind.u64.wrap ↑s.out.length))] (k + j)) (cellsOf' encU (s.to ++ [IntKind.u64.wrap ↑s.out.length])) := app1_le1 (le0_refl _)
      rw [hs]
      simp [Ke.step, hh]
      refine ⟨by omega, hw, app1_le rfl (rec_le (le0_refl _) (le0_refl _) (le0_refl _) (le0_refl _) (le0_refl _)), a1⟩
    · have a1 : contLe (s.to.length + 1) 1 (appRow s.to.length (cellsOf' encU s.to) fun k j => Ax.get [AV.y (Value.int IntKind.u64 (IntKind.u64.wrap ↑s.out.length))] (k + j)) (cellsOf' encU (s.to ++ [IntKind.u64.wrap ↑s.out.length])) := app1_le1 (le0_refl _)
      rw [hs]
      simp [Ke.step, hh]
      refine ⟨by omega, hw, a1⟩
  · have hz : decide ((k : Int) < l.length) = false := by simp; omega
    rw [List.take_of_length_le (by omega)]
    simp [hz]
    exact fun e => absurd e h
theorem keep_c (b : Bool) (r : Rng) (l : List Rec) (h1 : l.length ≤ 4611686018427387903) : (keT r l).Sat (ACall' Tryd.prog 23 [encRs b l, .agg (encG r)] []) := by
  refine ctr_vc (ht := keH b r l) Tryd.mixed rfl ?_
  rw [vcKeep_eq b r l]
  unfold vcKeep
  cases hl : isLog l
  · simp; omega
  · have hn := log_len hl
    have lp := kp_loop b r l hl 0
    rw [List.take_zero] at lp
    obtain ⟨q1, q2⟩ := ke_len' r l
    have hw : IntKind.i64.wrap ((l.length : Int) + 1) = (l.length : Int) + 1 := wrap_i64 (by omega) (by omega)
    have a1 : contLe ((ke r l).to.length + 1) 1 (appRow (ke r l).to.length (cellsOf' encU (ke r l).to) fun k j => Ax.get [AV.y (Value.int IntKind.u64 (IntKind.u64.wrap ↑(ke r l).out.length))] (k + j)) (cellsOf' encU ((ke r l).to ++ [IntKind.u64.wrap ↑(ke r l).out.length])) := app1_le1 (le0_refl _)
    simp only [hw]
    by_cases hc : chkK r = 0
    · simp [hc, lp, Ke.end, a1]
      omega
    · simp [hc]; omega
theorem keepr_c (b : Bool) (r : Rng) (l : List Rec) (h1 : l.length ≤ 4611686018427387903) : (keT r l).Sat (ACall' Tryd.prog 24 [encRs b l, .agg (encG r)] []) := by
  refine ctr_vc (ht := keH2 b r l) Tryd.mixed rfl ?_
  rw [vcKeep2_eq b r l]
  unfold vcKeep2
  cases hl : isLog l
  · simp; omega
  · have hn := log_len hl
    have lp := kr_loop b r l hl 0
    rw [List.take_zero] at lp
    obtain ⟨q1, q2⟩ := ke_len' r l
    have a1 : contLe ((ke r l).to.length + 1) 1 (appRow (ke r l).to.length (cellsOf' encU (ke r l).to) fun k j => Ax.get [AV.y (Value.int IntKind.u64 (IntKind.u64.wrap ↑(ke r l).out.length))] (k + j)) (cellsOf' encU ((ke r l).to ++ [IntKind.u64.wrap ↑(ke r l).out.length])) := app1_le1 (le0_refl _)
    by_cases hc : chkK r = 0
    · simp [hc, lp, Ke.end, a1]
      omega
    · simp [hc]; omega
end Go.Proofs.YtjmdejbijigfjaaDoor

/-! Records: the law RecordsWhole. -/
namespace Go.Proofs.YtjmdejbijigfjaaDoor
open Go.Ax
set_option maxRecDepth 1000000
def emB : ByteArray := ByteArray.empty
def allG : Rng := ⟨emB, emB⟩
def toL (n : Nat) : List Int := (List.range n).map fun (k : Nat) => IntKind.u64.wrap k
theorem to_len (n : Nat) : (toL n).length = n := by simp [toL]
theorem to_step (n : Nat) : toL (n + 1) = toL n ++ [IntKind.u64.wrap (n : Nat)] := by simp [toL, List.range_succ]
theorem to_at {n k : Nat} (h : k < n) : (toL n).getD k 0 = IntKind.u64.wrap (k : Nat) := by simp [toL, List.getElem?_eq_getElem, h]
theorem log_at {l : List Rec} (h : isLog l = true) {k : Nat} (hk : k < l.length) : (l.getD k default).off = IntKind.u64.wrap (k : Nat) ∧ (l.getD k default).key.size ≤ 32 := by
  simp only [isLog, Bool.and_eq_true] at h
  have h1 := h.1
  unfold logFrom at h1
  rw [List.all_eq_true] at h1
  have h2 := h1 k (by simp; omega)
  simp only [okR, Bool.and_eq_true, decide_eq_true_eq, Bool.not_eq_true', bne_eq_false_iff_eq] at h2
  exact ⟨h2.1, h2.2.1⟩
theorem to_self {x : Rec} {o : Int} (h : x.off = o) : x.to o = x := by
  cases x
  simp [Rec.to] at h ⊢
  exact h.symm
theorem take_one {l : List Rec} {k : Nat} (h : k < l.length) : l.take (k + 1) = l.take k ++ [l.getD k default] := by
  rw [List.take_add_one, List.getElem?_eq_getElem h]
  simp [List.getElem?_eq_getElem h]
theorem has_all (k : ByteArray) (h : k.size ≤ 32) : hasK allG k = true := by
  have h1 : chkK allG = 0 := by decide
  have h2 : decide ((k.size : Int) ≤ 32) = true := by simp; omega
  have h3 : (lt allG.lo k || allG.lo.data.toList == k.data.toList) = true := by
    show (Op.bytesLess [] k.data.toList || ([] : List UInt8) == k.data.toList) = true
    cases k.data.toList <;> rfl
  have h4 : (allG.hi.data.toList == []) = true := rfl
  unfold hasK
  rw [h1, h2, h3, h4]
  rfl
theorem ke_all {l : List Rec} (h : isLog l = true) : ∀ k, k ≤ l.length → ke allG (l.take k) = ⟨l.take k, toL k⟩ := by
  intro k
  induction k with
  | zero => intro _; rfl
  | succ k ih =>
    intro hk
    obtain ⟨h1, h2⟩ := log_at h (show k < l.length by omega)
    rw [ke_step (by omega), ih (by omega), take_one (by omega), to_step]
    unfold Ke.step
    have hl : (l.take k).length = k := by rw [List.length_take]; omega
    simp only [has_all _ h2, if_true, hl]
    rw [to_self h1]
theorem joinA {l : List Rec} (h : isLog l = true) (tb : List Int) : ∀ n k, n + k = l.length → joinN n ⟨l.drop k, [], l.take k, toL k, tb⟩ = some ⟨[], [], l, toL l.length, tb⟩
  | 0, k, hk => by
    obtain rfl : k = l.length := by omega
    rw [joinN]
    simp
  | n + 1, k, hk => by
    rw [joinN]
    have hne : l.drop k = l.getD k default :: l.drop (k + 1) := by
      have := drop_cons (l := l) (k := k) (by omega)
      simpa using this
    have htA : Jo.tA ⟨l.drop k, [], l.take k, toL k, tb⟩ = true := by unfold Jo.tA; rw [hne]; rfl
    rw [if_pos htA]
    have hl : (l.take k).length = k := by rw [List.length_take]; omega
    obtain ⟨h1, _⟩ := log_at h (show k < l.length by omega)
    have : Jo.goA ⟨l.drop k, [], l.take k, toL k, tb⟩ = ⟨l.drop (k + 1), [], l.take (k + 1), toL (k + 1), tb⟩ := by
      unfold Jo.goA Jo.at
      rw [take_one (by omega), to_step, hl]
      congr 1
      · simp
      · congr 2
        rw [hne]
        exact to_self h1
    rw [this]
    exact joinA h tb n (k + 1) (by omega)
theorem joinB {l : List Rec} (h : isLog l = true) (ta : List Int) : ∀ n k, n + k = l.length → joinN n ⟨[], l.drop k, l.take k, ta, toL k⟩ = some ⟨[], [], l, ta, toL l.length⟩
  | 0, k, hk => by
    obtain rfl : k = l.length := by omega
    rw [joinN]
    simp
  | n + 1, k, hk => by
    rw [joinN]
    have hne : l.drop k = l.getD k default :: l.drop (k + 1) := by
      have := drop_cons (l := l) (k := k) (by omega)
      simpa using this
    have htA : Jo.tA ⟨[], l.drop k, l.take k, ta, toL k⟩ = false := by unfold Jo.tA; rfl
    have htB : Jo.tB ⟨[], l.drop k, l.take k, ta, toL k⟩ = true := by unfold Jo.tB; rw [hne]; rfl
    rw [if_neg (by simp [htA]), if_pos htB]
    have hl : (l.take k).length = k := by rw [List.length_take]; omega
    obtain ⟨h1, _⟩ := log_at h (show k < l.length by omega)
    have : Jo.goB ⟨[], l.drop k, l.take k, ta, toL k⟩ = ⟨[], l.drop (k + 1), l.take (k + 1), ta, toL (k + 1)⟩ := by
      unfold Jo.goB Jo.at
      rw [take_one (by omega), to_step, hl]
      congr 1
      · simp
      · congr 2
        rw [hne]
        exact to_self h1
    rw [this]
    exact joinB h ta n (k + 1) (by omega)
theorem run_l0 {l : List Rec} (h : isLog l = true) : (jo0 l []).run = some ⟨[], [], l, toL l.length, []⟩ := by
  have := joinA h [] l.length 0 (by omega)
  simpa [Jo.run, jo0, toL] using this
theorem run_0l {l : List Rec} (h : isLog l = true) : (jo0 [] l).run = some ⟨[], [], l, [], toL l.length⟩ := by
  have := joinB h [] l.length 0 (by omega)
  simpa [Jo.run, jo0, toL] using this
/-! the contracts, by the case -/
def wkT (i : Bool) (l : List Rec) : T An := match i with
  | true => keR ⟨l, toL (l.length + 1)⟩
  | false => .ret (.tup [.s (.slice none 0 0), .s (.slice none 0 0)], [], [])
def waT (i : Bool) (l : List Rec) : T An := match i with
  | true => joR ⟨[], [], l, toL (l.length + 1), [IntKind.u64.wrap (l.length : Nat)]⟩
  | false => joE 1
def wbT (i : Bool) (l : List Rec) : T An := match i with
  | true => joR ⟨[], [], l, [IntKind.u64.wrap (l.length : Nat)], toL (l.length + 1)⟩
  | false => joE 1
theorem nil_log : isLog [] = true := rfl
theorem wk_c (i : Bool) (b : Bool) (l : List Rec) (h : l.length ≤ 4611686018427387903) (hi : isLog l = i) : (wkT i l).Sat (ACall' Tryd.prog 23 [encRs b l, .agg (encG allG)] []) := by
  intro Q hq
  refine keep_c b allG l h Q ?_
  cases i
  · exact ⟨fun e => by rw [hi] at e; simp at e, fun _ => hq⟩
  · have e : ke allG l = ⟨l, toL l.length⟩ := by have := ke_all hi l.length (Nat.le_refl _); rwa [List.take_length] at this
    refine ⟨fun _ => ?_, fun e => by rw [hi] at e; exact absurd e (by decide)⟩
    show (keR (ke allG l).end).post Q
    rw [e]
    unfold Ke.end
    dsimp only
    rw [← to_step]
    exact hq
theorem wa_c (i : Bool) (b1 b2 : Bool) (l : List Rec) (h : l.length ≤ 4611686018427387903) (hi : isLog l = i) : (waT i l).Sat (ACall' Tryd.prog 22 [encRs b1 l, encRs b2 []] []) := by
  intro Q hq
  refine join_c b1 b2 l [] h (by simp) Q ?_
  cases i
  · exact ⟨fun e => by rw [hi] at e; simp at e, fun _ => hq⟩
  · have hn := log_len hi
    have e := run_l0 hi
    refine ⟨fun _ => ⟨fun _ => ⟨fun _ => ?_, fun e2 => by rw [e] at e2; cases e2⟩, fun e2 => by simp at e2; omega⟩, fun e => by rw [hi, nil_log] at e; cases e⟩
    show (joR ((jo0 l []).run.getD (jo0 l [])).end).post Q
    rw [e]
    unfold Jo.end Jo.at
    dsimp only [Option.getD_some]
    rw [← to_step]
    exact hq
theorem wb_c (i : Bool) (b1 b2 : Bool) (l : List Rec) (h : l.length ≤ 4611686018427387903) (hi : isLog l = i) : (wbT i l).Sat (ACall' Tryd.prog 22 [encRs b1 [], encRs b2 l] []) := by
  intro Q hq
  refine join_c b1 b2 [] l (by simp) h Q ?_
  cases i
  · exact ⟨fun e => by rw [hi] at e; simp at e, fun _ => hq⟩
  · have hn := log_len hi
    have e := run_0l hi
    refine ⟨fun _ => ⟨fun _ => ⟨fun _ => ?_, fun e2 => by rw [e] at e2; cases e2⟩, fun e2 => by simp at e2; omega⟩, fun e => by rw [hi, nil_log] at e; cases e⟩
    show (joR ((jo0 [] l).run.getD (jo0 [] l)).end).post Q
    rw [e]
    unfold Jo.end Jo.at
    dsimp only [Option.getD_some]
    rw [← to_step]
    exact hq
noncomputable def wkC (i : Bool) (b : Bool) (l : List Rec) : Ctr Tryd.prog := ⟨23, [encRs b l, .agg (encG allG)], [], .need (l.length ≤ 4611686018427387903 ∧ isLog l = i) (wkT i l), T.Sat.need fun h => wk_c i b l h.1 h.2⟩
noncomputable def waC (i : Bool) (b1 b2 : Bool) (l : List Rec) : Ctr Tryd.prog := ⟨22, [encRs b1 l, encRs b2 []], [], .need (l.length ≤ 4611686018427387903 ∧ isLog l = i) (waT i l), T.Sat.need fun h => wa_c i b1 b2 l h.1 h.2⟩
noncomputable def wbC (i : Bool) (b1 b2 : Bool) (l : List Rec) : Ctr Tryd.prog := ⟨22, [encRs b1 [], encRs b2 l], [], .need (l.length ≤ 4611686018427387903 ∧ isLog l = i) (wbT i l), T.Sat.need fun h => wb_c i b1 b2 l h.1 h.2⟩
def whB (l : List Rec) (r : List (Nat × AV)) : List AV := mkT 109 ([(0, encRs true l), (3, .y (.bool true)), (7, .own 2 5 0 l.length), (10, .y (.int .i64 0)), (11, .own 5 5 0 l.length), (14, .y (.int .i64 0)), (15, .y (.bool true))] ++ r)
def whT (l : List Rec) (k : Nat) : List AV := whB l [(6, .own 1 1 0 (toL (l.length + 1)).length), (16, .y (.int .i64 k))]
def whM (l : List Rec) : List Blk := [.dead, rowU (toL (l.length + 1)), rowR l, .dead, .dead, rowR l]
def whS (l : List Rec) (_ : Unit) : Exit × List AV × List Blk := (.exit 0, whB l [], whM l)
def whX : List Nat := [0, 1, 2, 3, 4, 5, 6, 7, 8, 9]
def vcWhL (l : List Rec) (k : Nat) : Prop :=
  (decide ((↑k : Int) < (↑(List.length (toL (List.length l + (1 : Nat)))) : Int)) = true → (true && decide ((↑k : Int) < (↑(List.length (toL (List.length l + (1 : Nat)))) : Int))) = true ∧ decide ((0 : Nat) + Int.toNat (↑k : Int) < List.length (toL (List.length l + (1 : Nat)))) = true ∧ ((List.getD (toL (List.length l + (1 : Nat))) ((0 : Nat) + Int.toNat (↑k : Int)) (0 : Int) != IntKind.wrap IntKind.u64 (↑k : Int)) = true → False) ∧ ((List.getD (toL (List.length l + (1 : Nat))) ((0 : Nat) + Int.toNat (↑k : Int)) (0 : Int) != IntKind.wrap IntKind.u64 (↑k : Int)) = false → ∃ (j : Nat), List.length l + (1 : Nat) - j < List.length l + (1 : Nat) - k ∧ (((true = true ∧ List.length l = List.length l ∧ contLe (List.length l) (5 : Nat) (cellsOf' encR l) (cellsOf' encR l)) ∧ true = true ∧ ((0 : Nat) = (0 : Nat) ∧ List.length (toL (List.length l + (1 : Nat))) = List.length (toL (List.length l + (1 : Nat)))) ∧ ((0 : Nat) = (0 : Nat) ∧ List.length l = List.length l) ∧ (0 : Int) = (0 : Int) ∧ ((0 : Nat) = (0 : Nat) ∧ List.length l = List.length l) ∧ (0 : Int) = (0 : Int) ∧ true = true ∧ IntKind.wrap IntKind.i64 ((↑k : Int) + (1 : Int)) = (↑j : Int) ∧ True) ∧ ((List.length (toL (List.length l + (1 : Nat))) = List.length (toL (List.length l + (1 : Nat))) ∧ contLe (List.length (toL (List.length l + (1 : Nat)))) (1 : Nat) (cellsOf' encU (toL (List.length l + (1 : Nat)))) (cellsOf' encU (toL (List.length l + (1 : Nat))))) ∧ (List.length l = List.length l ∧ contLe (List.length l) (5 : Nat) (cellsOf' encR l) (cellsOf' encR l)) ∧ (List.length l = List.length l ∧ contLe (List.length l) (5 : Nat) (cellsOf' encR l) (cellsOf' encR l)) ∧ True) ∧ true = true) ∧ true = true ∧ () = ())) ∧ (decide ((↑k : Int) < (↑(List.length (toL (List.length l + (1 : Nat)))) : Int)) = false → ((true = true ∧ List.length l = List.length l ∧ contLe (List.length l) (5 : Nat) (cellsOf' encR l) (cellsOf' encR l)) ∧ true = true ∧ ((0 : Nat) = (0 : Nat) ∧ List.length l = List.length l) ∧ (0 : Int) = (0 : Int) ∧ ((0 : Nat) = (0 : Nat) ∧ List.length l = List.length l) ∧ (0 : Int) = (0 : Int) ∧ true = true ∧ True) ∧ ((List.length (toL (List.length l + (1 : Nat))) = List.length (toL (List.length l + (1 : Nat))) ∧ contLe (List.length (toL (List.length l + (1 : Nat)))) (1 : Nat) (cellsOf' encU (toL (List.length l + (1 : Nat)))) (cellsOf' encU (toL (List.length l + (1 : Nat))))) ∧ (List.length l = List.length l ∧ contLe (List.length l) (5 : Nat) (cellsOf' encR l) (cellsOf' encR l)) ∧ (List.length l = List.length l ∧ contLe (List.length l) (5 : Nat) (cellsOf' encR l) (cellsOf' encR l)) ∧ True) ∧ true = true)
set_option maxRecDepth 1000000 in
theorem vcWhL_eq (l : List Rec) (k : Nat) : (loopVC Tryd.prog (hT _) 7 10 (fun k => l.length + 1 - k) (whT l) (fun _ => whM l) whX (fun _ => .ret ()) (whS l) k) = vcWhL l k := by kernel_rfl
noncomputable def whH (i : Bool) (l : List Rec) : HintsT Tryd.prog := hh _ (lp1 7 10 (jobOf (whT l) (fun _ => whM l) whX (fun _ => .ret ()) (whS l) 0) noLp)
  (cs1 7 1 0 livesC (cs1 7 2 1 (lgC true l) (cs1 7 3 2 (wkC i true l) (cs1 7 4 1 (waC i true true l) (cs1 7 5 1 (wbC i true true l)
  (cs1 7 8 2 (sameC false true l l) (cs1 7 8 6 (stC false false (toL (l.length + 1)) (toL (l.length + 1))) (cs1 7 8 11 (stC false false (toL (l.length + 1)) (toL (l.length + 1)))
  (cs1 7 14 15 (sameC false true l l) (cs1 7 14 20 (sameC false true l l) noCs)))))))))) noOp
def vcWh (l : List Rec) : Prop :=
  True ∧ True ∧ ((true = true ∧ List.length l = List.length l ∧ contLe (List.length l) (5 : Nat) (cellsOf' encR l) (cellsOf' encR l)) ∧ True) ∧ True ∧ List.length l ≤ (9223372036854775806 : Nat) ∧ ((true = true ∧ List.length l = List.length l ∧ contLe (List.length l) (5 : Nat) (cellsOf' encR l) (cellsOf' encR l)) ∧ ({ data := #[] : ByteArray } = emB ∧ { data := #[] : ByteArray } = emB ∧ True) ∧ True) ∧ True ∧ (List.length l ≤ (4611686018427387903 : Nat) ∧ isLog l = true) ∧ ((true = true ∧ List.length l = List.length l ∧ contLe (List.length l) (5 : Nat) (cellsOf' encR l) (cellsOf' encR l)) ∧ (0 : Nat) = (0 : Nat) ∧ True) ∧ True ∧ (List.length l ≤ (4611686018427387903 : Nat) ∧ isLog l = true) ∧ ((0 : Nat) = (0 : Nat) ∧ (true = true ∧ List.length l = List.length l ∧ contLe (List.length l) (5 : Nat) (cellsOf' encR l) (cellsOf' encR l)) ∧ True) ∧ True ∧ (List.length l ≤ (4611686018427387903 : Nat) ∧ isLog l = true) ∧ ((!isLog l) = true → (true = true → (((↑(List.length l) : Int) == (0 : Int)) = true → (((↑(List.length (toL (List.length l + (1 : Nat)))) : Int) == (0 : Int)) = true → false = true ∧ True) ∧ (((↑(List.length (toL (List.length l + (1 : Nat)))) : Int) == (0 : Int)) = false → false = true ∧ True)) ∧ (((↑(List.length l) : Int) == (0 : Int)) = false → false = true ∧ True)) ∧ (true = false → false = true ∧ True)) ∧ ((!isLog l) = false → ((false = false ∧ List.length l = List.length l ∧ contLe (List.length l) (5 : Nat) (Ax.rowAt (0 : Nat) (cellsOf' encR l)) (cellsOf' encR l)) ∧ (true = true ∧ List.length l = List.length l ∧ contLe (List.length l) (5 : Nat) (cellsOf' encR l) (cellsOf' encR l)) ∧ True) ∧ True ∧ (List.length l ≤ (9223372036854775806 : Nat) ∧ l = l) ∧ true = true ∧ True ∧ (true = true → ((false = false ∧ List.length (toL (List.length l + (1 : Nat))) = List.length (toL (List.length l + (1 : Nat))) ∧ contLe (List.length (toL (List.length l + (1 : Nat)))) (1 : Nat) (Ax.rowAt (0 : Nat) (cellsOf' encU (toL (List.length l + (1 : Nat))))) (cellsOf' encU (toL (List.length l + (1 : Nat))))) ∧ (false = false ∧ List.length (toL (List.length l + (1 : Nat))) = List.length (toL (List.length l + (1 : Nat))) ∧ contLe (List.length (toL (List.length l + (1 : Nat)))) (1 : Nat) (Ax.rowAt (0 : Nat) (cellsOf' encU (toL (List.length l + (1 : Nat))))) (cellsOf' encU (toL (List.length l + (1 : Nat))))) ∧ True) ∧ True ∧ (List.length (toL (List.length l + (1 : Nat))) ≤ (9223372036854775806 : Nat) ∧ toL (List.length l + (1 : Nat)) = toL (List.length l + (1 : Nat))) ∧ true = true ∧ True ∧ (true = true → ((false = false ∧ List.length (toL (List.length l + (1 : Nat))) = List.length (toL (List.length l + (1 : Nat))) ∧ contLe (List.length (toL (List.length l + (1 : Nat)))) (1 : Nat) (Ax.rowAt (0 : Nat) (cellsOf' encU (toL (List.length l + (1 : Nat))))) (cellsOf' encU (toL (List.length l + (1 : Nat))))) ∧ (false = false ∧ List.length (toL (List.length l + (1 : Nat))) = List.length (toL (List.length l + (1 : Nat))) ∧ contLe (List.length (toL (List.length l + (1 : Nat)))) (1 : Nat) (Ax.rowAt (0 : Nat) (cellsOf' encU (toL (List.length l + (1 : Nat))))) (cellsOf' encU (toL (List.length l + (1 : Nat))))) ∧ True) ∧ True ∧ (List.length (toL (List.length l + (1 : Nat))) ≤ (9223372036854775806 : Nat) ∧ toL (List.length l + (1 : Nat)) = toL (List.length l + (1 : Nat))) ∧ true = true ∧ True ∧ (((true = true ∧ List.length l = List.length l ∧ contLe (List.length l) (5 : Nat) (cellsOf' encR l) (cellsOf' encR l)) ∧ true = true ∧ ((0 : Nat) = (0 : Nat) ∧ List.length (toL (List.length l + (1 : Nat))) = List.length (toL (List.length l + (1 : Nat)))) ∧ ((0 : Nat) = (0 : Nat) ∧ List.length l = List.length l) ∧ (0 : Int) = (0 : Int) ∧ ((0 : Nat) = (0 : Nat) ∧ List.length l = List.length l) ∧ (0 : Int) = (0 : Int) ∧ true = true ∧ (0 : Int) = (0 : Int) ∧ True) ∧ ((List.length (toL (List.length l + (1 : Nat))) = List.length (toL (List.length l + (1 : Nat))) ∧ contLe (List.length (toL (List.length l + (1 : Nat)))) (1 : Nat) (cellsOf' encU (toL (List.length l + (1 : Nat)))) (cellsOf' encU (toL (List.length l + (1 : Nat))))) ∧ (List.length l = List.length l ∧ contLe (List.length l) (5 : Nat) (cellsOf' encR l) (cellsOf' encR l)) ∧ (List.length l = List.length l ∧ contLe (List.length l) (5 : Nat) (cellsOf' encR l) (cellsOf' encR l)) ∧ True) ∧ true = true) ∧ LoopOk Tryd.prog (7 : Nat) (10 : Nat) (loopAt Tryd.prog (7 : Nat) (10 : Nat)) { t := whT l (0 : Nat), m := whM l, mv := [] : St } (T.map (lout whX (whS l)) ((fun (x : Nat) => T.ret ()) (0 : Nat))) ∧ (true = true → (true = true → (true = true → (true = true → ((false = false ∧ List.length l = List.length l ∧ contLe (List.length l) (5 : Nat) (Ax.rowAt (0 : Nat) (cellsOf' encR l)) (cellsOf' encR l)) ∧ (true = true ∧ List.length l = List.length l ∧ contLe (List.length l) (5 : Nat) (cellsOf' encR l) (cellsOf' encR l)) ∧ True) ∧ True ∧ (List.length l ≤ (9223372036854775806 : Nat) ∧ l = l) ∧ true = true ∧ True ∧ (true = true → ((false = false ∧ List.length l = List.length l ∧ contLe (List.length l) (5 : Nat) (Ax.rowAt (0 : Nat) (cellsOf' encR l)) (cellsOf' encR l)) ∧ (true = true ∧ List.length l = List.length l ∧ contLe (List.length l) (5 : Nat) (cellsOf' encR l) (cellsOf' encR l)) ∧ True) ∧ True ∧ (List.length l ≤ (9223372036854775806 : Nat) ∧ l = l) ∧ true = true ∧ True ∧ true = true ∧ True) ∧ (true = false → false = true ∧ True)) ∧ (true = false → false = true ∧ True)) ∧ (true = false → false = true ∧ True)) ∧ (true = false → false = true ∧ True)) ∧ (true = false → false = true ∧ True)) ∧ (true = false → (((true = true ∧ List.length l = List.length l ∧ contLe (List.length l) (5 : Nat) (cellsOf' encR l) (cellsOf' encR l)) ∧ true = true ∧ ((0 : Nat) = (0 : Nat) ∧ List.length (toL (List.length l + (1 : Nat))) = List.length (toL (List.length l + (1 : Nat)))) ∧ ((0 : Nat) = (0 : Nat) ∧ List.length l = List.length l) ∧ (0 : Int) = (0 : Int) ∧ ((0 : Nat) = (0 : Nat) ∧ List.length l = List.length l) ∧ (0 : Int) = (0 : Int) ∧ false = true ∧ (0 : Int) = (0 : Int) ∧ True) ∧ ((List.length (toL (List.length l + (1 : Nat))) = List.length (toL (List.length l + (1 : Nat))) ∧ contLe (List.length (toL (List.length l + (1 : Nat)))) (1 : Nat) (cellsOf' encU (toL (List.length l + (1 : Nat)))) (cellsOf' encU (toL (List.length l + (1 : Nat))))) ∧ (List.length l = List.length l ∧ contLe (List.length l) (5 : Nat) (cellsOf' encR l) (cellsOf' encR l)) ∧ (List.length l = List.length l ∧ contLe (List.length l) (5 : Nat) (cellsOf' encR l) (cellsOf' encR l)) ∧ True) ∧ true = true) ∧ LoopOk Tryd.prog (7 : Nat) (10 : Nat) (loopAt Tryd.prog (7 : Nat) (10 : Nat)) { t := whT l (0 : Nat), m := whM l, mv := [] : St } (T.map (lout whX (whS l)) ((fun (x : Nat) => T.ret ()) (0 : Nat))) ∧ (true = true → (true = true → (true = true → (true = true → ((false = false ∧ List.length l = List.length l ∧ contLe (List.length l) (5 : Nat) (Ax.rowAt (0 : Nat) (cellsOf' encR l)) (cellsOf' encR l)) ∧ (true = true ∧ List.length l = List.length l ∧ contLe (List.length l) (5 : Nat) (cellsOf' encR l) (cellsOf' encR l)) ∧ True) ∧ True ∧ (List.length l ≤ (9223372036854775806 : Nat) ∧ l = l) ∧ true = true ∧ True ∧ (true = true → ((false = false ∧ List.length l = List.length l ∧ contLe (List.length l) (5 : Nat) (Ax.rowAt (0 : Nat) (cellsOf' encR l)) (cellsOf' encR l)) ∧ (true = true ∧ List.length l = List.length l ∧ contLe (List.length l) (5 : Nat) (cellsOf' encR l) (cellsOf' encR l)) ∧ True) ∧ True ∧ (List.length l ≤ (9223372036854775806 : Nat) ∧ l = l) ∧ true = true ∧ True ∧ true = true ∧ True) ∧ (true = false → false = true ∧ True)) ∧ (true = false → false = true ∧ True)) ∧ (true = false → false = true ∧ True)) ∧ (true = false → false = true ∧ True)) ∧ (true = false → false = true ∧ True))) ∧ (true = false → (((true = true ∧ List.length l = List.length l ∧ contLe (List.length l) (5 : Nat) (cellsOf' encR l) (cellsOf' encR l)) ∧ true = true ∧ ((0 : Nat) = (0 : Nat) ∧ List.length (toL (List.length l + (1 : Nat))) = List.length (toL (List.length l + (1 : Nat)))) ∧ ((0 : Nat) = (0 : Nat) ∧ List.length l = List.length l) ∧ (0 : Int) = (0 : Int) ∧ ((0 : Nat) = (0 : Nat) ∧ List.length l = List.length l) ∧ (0 : Int) = (0 : Int) ∧ false = true ∧ (0 : Int) = (0 : Int) ∧ True) ∧ ((List.length (toL (List.length l + (1 : Nat))) = List.length (toL (List.length l + (1 : Nat))) ∧ contLe (List.length (toL (List.length l + (1 : Nat)))) (1 : Nat) (cellsOf' encU (toL (List.length l + (1 : Nat)))) (cellsOf' encU (toL (List.length l + (1 : Nat))))) ∧ (List.length l = List.length l ∧ contLe (List.length l) (5 : Nat) (cellsOf' encR l) (cellsOf' encR l)) ∧ (List.length l = List.length l ∧ contLe (List.length l) (5 : Nat) (cellsOf' encR l) (cellsOf' encR l)) ∧ True) ∧ true = true) ∧ LoopOk Tryd.prog (7 : Nat) (10 : Nat) (loopAt Tryd.prog (7 : Nat) (10 : Nat)) { t := whT l (0 : Nat), m := whM l, mv := [] : St } (T.map (lout whX (whS l)) ((fun (x : Nat) => T.ret ()) (0 : Nat))) ∧ (true = true → (true = true → (true = true → (true = true → ((false = false ∧ List.length l = List.length l ∧ contLe (List.length l) (5 : Nat) (Ax.rowAt (0 : Nat) (cellsOf' encR l)) (cellsOf' encR l)) ∧ (true = true ∧ List.length l = List.length l ∧ contLe (List.length l) (5 : Nat) (cellsOf' encR l) (cellsOf' encR l)) ∧ True) ∧ True ∧ (List.length l ≤ (9223372036854775806 : Nat) ∧ l = l) ∧ true = true ∧ True ∧ (true = true → ((false = false ∧ List.length l = List.length l ∧ contLe (List.length l) (5 : Nat) (Ax.rowAt (0 : Nat) (cellsOf' encR l)) (cellsOf' encR l)) ∧ (true = true ∧ List.length l = List.length l ∧ contLe (List.length l) (5 : Nat) (cellsOf' encR l) (cellsOf' encR l)) ∧ True) ∧ True ∧ (List.length l ≤ (9223372036854775806 : Nat) ∧ l = l) ∧ true = true ∧ True ∧ true = true ∧ True) ∧ (true = false → false = true ∧ True)) ∧ (true = false → false = true ∧ True)) ∧ (true = false → false = true ∧ True)) ∧ (true = false → false = true ∧ True)) ∧ (true = false → false = true ∧ True)))
set_option maxRecDepth 1000000 in
theorem vcWh_eq (l : List Rec) : (ctrVC Tryd.prog (whH true l) 7 [encRs true l] [] (boolR true)) = vcWh l := by kernel_rfl
def vcWh2 (l : List Rec) : Prop :=
  True ∧ True ∧ ((true = true ∧ List.length l = List.length l ∧ contLe (List.length l) (5 : Nat) (cellsOf' encR l) (cellsOf' encR l)) ∧ True) ∧ True ∧ List.length l ≤ (9223372036854775806 : Nat) ∧ ((true = true ∧ List.length l = List.length l ∧ contLe (List.length l) (5 : Nat) (cellsOf' encR l) (cellsOf' encR l)) ∧ ({ data := #[] : ByteArray } = emB ∧ { data := #[] : ByteArray } = emB ∧ True) ∧ True) ∧ True ∧ (List.length l ≤ (4611686018427387903 : Nat) ∧ isLog l = false) ∧ ((true = true ∧ List.length l = List.length l ∧ contLe (List.length l) (5 : Nat) (cellsOf' encR l) (cellsOf' encR l)) ∧ (0 : Nat) = (0 : Nat) ∧ True) ∧ True ∧ (List.length l ≤ (4611686018427387903 : Nat) ∧ isLog l = false) ∧ ((0 : Nat) = (0 : Nat) ∧ (true = true ∧ List.length l = List.length l ∧ contLe (List.length l) (5 : Nat) (cellsOf' encR l) (cellsOf' encR l)) ∧ True) ∧ True ∧ (List.length l ≤ (4611686018427387903 : Nat) ∧ isLog l = false) ∧ ((!isLog l) = true → (true = true → true = true ∧ True) ∧ (true = false → false = true ∧ True)) ∧ ((!isLog l) = false → (List.length l = (0 : Nat) ∧ (true = true ∧ List.length l = List.length l ∧ contLe (List.length l) (5 : Nat) (cellsOf' encR l) (cellsOf' encR l)) ∧ True) ∧ True ∧ (List.length l ≤ (9223372036854775806 : Nat) ∧ l = l) ∧ (true = true → (List.length (toL (List.length l + (1 : Nat))) = (0 : Nat) ∧ List.length (toL (List.length l + (1 : Nat))) = (0 : Nat) ∧ True) ∧ True ∧ (List.length (toL (List.length l + (1 : Nat))) ≤ (9223372036854775806 : Nat) ∧ toL (List.length l + (1 : Nat)) = toL (List.length l + (1 : Nat))) ∧ (true = true → (List.length (toL (List.length l + (1 : Nat))) = (0 : Nat) ∧ List.length (toL (List.length l + (1 : Nat))) = (0 : Nat) ∧ True) ∧ True ∧ (List.length (toL (List.length l + (1 : Nat))) ≤ (9223372036854775806 : Nat) ∧ toL (List.length l + (1 : Nat)) = toL (List.length l + (1 : Nat))) ∧ (((true = true ∧ List.length l = List.length l ∧ contLe (List.length l) (5 : Nat) (cellsOf' encR l) (cellsOf' encR l)) ∧ true = true ∧ False ∧ False ∧ (1 : Int) = (0 : Int) ∧ False ∧ (1 : Int) = (0 : Int) ∧ true = true ∧ (0 : Int) = (0 : Int) ∧ True) ∧ False ∧ true = true) ∧ LoopOk Tryd.prog (7 : Nat) (10 : Nat) (loopAt Tryd.prog (7 : Nat) (10 : Nat)) { t := whT l (0 : Nat), m := whM l, mv := [] : St } (T.map (lout whX (whS l)) ((fun (x : Nat) => T.ret ()) (0 : Nat))) ∧ (true = true → (true = true → (true = true → (true = true → ((false = false ∧ List.length l = List.length l ∧ contLe (List.length l) (5 : Nat) (Ax.rowAt (0 : Nat) (cellsOf' encR l)) (cellsOf' encR l)) ∧ (true = true ∧ List.length l = List.length l ∧ contLe (List.length l) (5 : Nat) (cellsOf' encR l) (cellsOf' encR l)) ∧ True) ∧ True ∧ (List.length l ≤ (9223372036854775806 : Nat) ∧ l = l) ∧ true = true ∧ True ∧ (true = true → ((false = false ∧ List.length l = List.length l ∧ contLe (List.length l) (5 : Nat) (Ax.rowAt (0 : Nat) (cellsOf' encR l)) (cellsOf' encR l)) ∧ (true = true ∧ List.length l = List.length l ∧ contLe (List.length l) (5 : Nat) (cellsOf' encR l) (cellsOf' encR l)) ∧ True) ∧ True ∧ (List.length l ≤ (9223372036854775806 : Nat) ∧ l = l) ∧ true = true ∧ True ∧ true = true ∧ True) ∧ (true = false → false = true ∧ True)) ∧ (true = false → false = true ∧ True)) ∧ (true = false → false = true ∧ True)) ∧ (true = false → false = true ∧ True)) ∧ (true = false → false = true ∧ True)) ∧ (true = false → (((true = true ∧ List.length l = List.length l ∧ contLe (List.length l) (5 : Nat) (cellsOf' encR l) (cellsOf' encR l)) ∧ true = true ∧ False ∧ False ∧ (1 : Int) = (0 : Int) ∧ False ∧ (1 : Int) = (0 : Int) ∧ false = true ∧ (0 : Int) = (0 : Int) ∧ True) ∧ False ∧ true = true) ∧ LoopOk Tryd.prog (7 : Nat) (10 : Nat) (loopAt Tryd.prog (7 : Nat) (10 : Nat)) { t := whT l (0 : Nat), m := whM l, mv := [] : St } (T.map (lout whX (whS l)) ((fun (x : Nat) => T.ret ()) (0 : Nat))) ∧ (true = true → (true = true → (true = true → (true = true → ((false = false ∧ List.length l = List.length l ∧ contLe (List.length l) (5 : Nat) (Ax.rowAt (0 : Nat) (cellsOf' encR l)) (cellsOf' encR l)) ∧ (true = true ∧ List.length l = List.length l ∧ contLe (List.length l) (5 : Nat) (cellsOf' encR l) (cellsOf' encR l)) ∧ True) ∧ True ∧ (List.length l ≤ (9223372036854775806 : Nat) ∧ l = l) ∧ true = true ∧ True ∧ (true = true → ((false = false ∧ List.length l = List.length l ∧ contLe (List.length l) (5 : Nat) (Ax.rowAt (0 : Nat) (cellsOf' encR l)) (cellsOf' encR l)) ∧ (true = true ∧ List.length l = List.length l ∧ contLe (List.length l) (5 : Nat) (cellsOf' encR l) (cellsOf' encR l)) ∧ True) ∧ True ∧ (List.length l ≤ (9223372036854775806 : Nat) ∧ l = l) ∧ true = true ∧ True ∧ true = true ∧ True) ∧ (true = false → false = true ∧ True)) ∧ (true = false → false = true ∧ True)) ∧ (true = false → false = true ∧ True)) ∧ (true = false → false = true ∧ True)) ∧ (true = false → false = true ∧ True))) ∧ (true = false → (((true = true ∧ List.length l = List.length l ∧ contLe (List.length l) (5 : Nat) (cellsOf' encR l) (cellsOf' encR l)) ∧ true = true ∧ False ∧ False ∧ (1 : Int) = (0 : Int) ∧ False ∧ (1 : Int) = (0 : Int) ∧ false = true ∧ (0 : Int) = (0 : Int) ∧ True) ∧ False ∧ true = true) ∧ LoopOk Tryd.prog (7 : Nat) (10 : Nat) (loopAt Tryd.prog (7 : Nat) (10 : Nat)) { t := whT l (0 : Nat), m := whM l, mv := [] : St } (T.map (lout whX (whS l)) ((fun (x : Nat) => T.ret ()) (0 : Nat))) ∧ (true = true → (true = true → (true = true → (true = true → ((false = false ∧ List.length l = List.length l ∧ contLe (List.length l) (5 : Nat) (Ax.rowAt (0 : Nat) (cellsOf' encR l)) (cellsOf' encR l)) ∧ (true = true ∧ List.length l = List.length l ∧ contLe (List.length l) (5 : Nat) (cellsOf' encR l) (cellsOf' encR l)) ∧ True) ∧ True ∧ (List.length l ≤ (9223372036854775806 : Nat) ∧ l = l) ∧ true = true ∧ True ∧ (true = true → ((false = false ∧ List.length l = List.length l ∧ contLe (List.length l) (5 : Nat) (Ax.rowAt (0 : Nat) (cellsOf' encR l)) (cellsOf' encR l)) ∧ (true = true ∧ List.length l = List.length l ∧ contLe (List.length l) (5 : Nat) (cellsOf' encR l) (cellsOf' encR l)) ∧ True) ∧ True ∧ (List.length l ≤ (9223372036854775806 : Nat) ∧ l = l) ∧ true = true ∧ True ∧ true = true ∧ True) ∧ (true = false → false = true ∧ True)) ∧ (true = false → false = true ∧ True)) ∧ (true = false → false = true ∧ True)) ∧ (true = false → false = true ∧ True)) ∧ (true = false → false = true ∧ True)))
set_option maxRecDepth 1000000 in
theorem vcWh2_eq (l : List Rec) : (ctrVC Tryd.prog (whH false l) 7 [encRs true l] [] (boolR true)) = vcWh2 l := by kernel_rfl
theorem wh_loop (l : List Rec) (hl : l.length ≤ 4096) (k : Nat) : LoopOk Tryd.prog 7 10 (loopAt Tryd.prog 7 10) ⟨whT l k, whM l, []⟩ (T.map (lout whX (whS l)) (.ret ())) := by
  refine loop_vc (o := fun _ => .ret ()) (stM := fun _ => whM l) Tryd.mixed (fun _ => rfl) (fun k => (vcWhL_eq l k).mpr ?_) k
  unfold vcWhL
  have ht := @to_at (l.length + 1) k
  simp [to_len]
  intro h
  have hk : k < l.length + 1 := by omega
  have ht := ht hk
  simp at ht
  exact ⟨h, hk, ht, fun _ => ⟨k + 1, by omega, by rw [wrap_i64 (by omega) (by omega)]; omega⟩⟩
theorem wh_c (l : List Rec) (h : l.length ≤ 4611686018427387903) : (boolR true).Sat (ACall' Tryd.prog 7 [encRs true l] []) := by
  cases hi : isLog l
  · refine ctr_vc (ht := whH false l) Tryd.mixed rfl ?_
    rw [vcWh2_eq l]
    unfold vcWh2
    simp [hi]
    exact ⟨by omega, rfl, by omega⟩
  · refine ctr_vc (ht := whH true l) Tryd.mixed rfl ?_
    rw [vcWh_eq l]
    unfold vcWh
    have hn := log_len hi
    have lp := wh_loop l hn 0
    simp [hi, lp, to_len]
    exact ⟨by omega, rfl, by omega, by omega, by omega, by omega⟩
end Go.Proofs.YtjmdejbijigfjaaDoor

/-! Records: from the statements to the laws: the tables; the law RecordsFull. -/
namespace Go.Proofs.YtjmdejbijigfjaaDoor
open Go.Ax Go.Shelf Go.RowKit Go.ChangeShapes Go.WideShapes Go.ChangeAt
set_option maxRecDepth 1000000
def toI {K : Type} : DataW K → Int
  | .lit (.int _ a) => a
  | _ => 0
def toS {K : Type} : DataW K → ByteArray
  | .lit (.string l) => ⟨l.toArray⟩
  | _ => ByteArray.empty
theorem encI_ok {K : Type} {k : IntKind} {d : DataW K} (h : (Sh.int k).wf d) : (Sh.int k).enc d = [.y (.int k (toI d))] := by
  obtain ⟨k', n, rfl, _⟩ := h
  rfl
theorem encS_ok {K : Type} {d : DataW K} (h : Sh.str.wf d) : Sh.str.enc d = [.y (.string (toS d))] := by
  obtain ⟨l, rfl, _⟩ := h
  rfl
theorem enc_st {K : Type} (fs : List Sh) (ds : List (DataW K)) : (Sh.st fs).enc (.agg ds) = Sh.encL fs ds := by simp only [Sh.enc]
theorem enc_cons {K : Type} (s : Sh) (r : List Sh) (d : DataW K) (ds : List (DataW K)) : Sh.encL (s :: r) (d :: ds) = s.enc d ++ Sh.encL r ds := by simp only [Sh.encL]
theorem enc_nil {K : Type} (l : List (DataW K)) : Sh.encL [] l = [] := by simp only [Sh.encL]
theorem relA {P : Program} {W : World} {r : Reach} {base : Nat} {t : TypeId} {v : Value} {fs : Array Field} {l : List AV} {H : HH} {E : Env} (hu : P.underlying t = some (.struct fs)) (hv : Value.okWide P W r base t v) (h : RelL l H E v.cells.toList) : Rel (.agg l) H E v := by
  obtain ⟨cs, rfl, _⟩ := okWide_struct hu hv
  exact ⟨cs, rfl, h⟩
/-! a world where the library's tables lie -/
def laidL : List (String × DataW Unit) := Rows.recordsFullRow.laid
noncomputable def layW (os : Os) : World := World.laidAll Tryd.prog os laidL
theorem lay_met (os : Os) (args : Array Value) : laidMetH Tryd.prog laidL ((layW os).forCall (fun _ _ => 0) ⟨#[], args, []⟩).memory := by
  have e : ∀ w, laidMetH Tryd.prog laidL w = laidMet Tryd.prog laidL w := fun w => by kernel_rfl
  rw [e]
  exact laidMet_laidAll args (by kernel_rfl) (by kernel_rfl)
theorem Tryd.own : ownKnob Tryd.prog.godebug = Option.none := by kernel_rfl
theorem Tryd.laidOut : laidOutB Tryd.prog = true := by kernel_rfl
theorem Tryd.mapsRowed : mapsRowed Tryd.prog = true := by kernel_rfl
theorem Tryd.slicesOk : slicesOk Tryd.prog = true := by kernel_rfl
theorem underBool : Tryd.prog.underlying 4 = some .bool := by kernel_rfl
theorem full_lifted (os : Os) (started : os.Started) (K : Type) (enc : TypeId × Value → K) :
    ReturnsInHanded {} Tryd.checked os 4 .any (fun w args => (Rows.recordsFullSpec.pre enc Tryd.prog Tryd.f4 [] false w args ∧ laidMetH Tryd.prog laidL w) ∧ sizedMet enc Tryd.prog Tryd.f4 (OpenSpec.ofChange Rows.recordsFullSpec) false w args)
      (Rows.recordsFullSpec.post enc Tryd.prog Tryd.f4 false true false false) := by
  refine returnsInHanded_of_change_and (C := Tryd.checked) (X := fun w _ => laidMetH Tryd.prog laidL w) (fun _ _ _ hh h => h.of_heap hh) Tryd.own started (by kernel_rfl) Tryd.func4
    (ChangeSpec.witness_at (enc := enc) (C := Tryd.checked) (os := os) (X := fun w _ => laidMetH Tryd.prog laidL w) false (layW os) #[.int .u16 0, .int .u16 0] 8 rfl (by kernel_rfl) (by kernel_rfl) (by kernel_rfl) (by kernel_rfl) (by kernel_rfl) (lay_met os _)) ?_
  intro W base args ds gs before hval0 hW hcnd hsz _ _
  have hps : Tryd.f4.params.toList = [23, 23] := by kernel_rfl
  obtain ⟨p, q, hA, hV, hbef, hfz, hnd⟩ := id hW
  rw [hps] at hA hsz
  have ⟨hr, hwf⟩ := lift_all [.int .u16, .int .u16] (by kernel_rfl) hA
  obtain ⟨v, v2, d, d2, _, _, e1, rfl, _, hd, hd2⟩ := trodAll_two hA
  obtain ⟨_, _, e2, hw1, _, _, e3, hw2, _⟩ := hwf
  obtain ⟨rfl, e5⟩ := List.cons.inj e2
  subst e5
  obtain ⟨rfl, _⟩ := List.cons.inj e3
  subst e1
  have r1 := hr.1
  have r2 := hr.2.1
  rw [encI_ok hw1] at r1
  rw [encI_ok hw2] at r2
  have u3 : Tryd.prog.underlying 23 = some (.int .u16) := by kernel_rfl
  obtain ⟨n1, rfl⟩ := okWide_int u3 (hval0 0 _ _ (by kernel_rfl) rfl)
  obtain ⟨n2, rfl⟩ := okWide_int u3 (hval0 1 _ _ (by kernel_rfl) rfl)
  obtain ⟨_, _, er, r1, _⟩ := r1
  cases er
  obtain ⟨_, _, er, r2, _⟩ := r2
  cases er
  refine open_calls (call_of (full_c (toI d) (toI d2))) (t := 4) (ds := [d, d2]) ⟨_, _, rfl, r1, _, _, rfl, r2, rfl⟩ (by kernel_rfl) underBool rfl rfl Tryd.laidOut Tryd.mapsRowed Tryd.slicesOk (by rw [hps]; intro t ht; simp at ht; rcases ht with rfl | rfl <;> exact of_decide_eq_true (by kernel_rfl)) hW
theorem full_holds : Rows.RecordsFullSaid :=
  OpenClaim.holds_of_wide 4 Tryd.f4 rfl rfl rfl rfl rfl rfl rfl ⟨rfl, rfl, rfl, rfl, rfl⟩ rfl rfl rfl rfl rfl (by kernel_rfl) Tryd.func4 (by kernel_rfl)
    (of_decide_eq_true (by kernel_rfl)) (by unfold Func.isWrapper; first | (rw [if_pos (by decide +kernel)]; kernel_rfl) | (rw [if_neg (by decide +kernel)]; exact ⟨rfl, rfl⟩))
    (fun os started H enc _ => full_lifted os started H enc)
theorem full_said : Rows.RecordsFullCardSaid :=
  Claim7.holds_tied_plain_at .later [] [.data, .pinned] true (true, "c6216772fa23618345da0e61fb6b64e81834fe3c41d4c2546afdeda0683467e7") false
    full_holds (fun _ h => by cases h) (by kernel_rfl) (fun _ h => by cases h) recordsFull_row_tie rfl ⟨rfl, rfl⟩ (by kernel_rfl) rfl
    (fun f fn hf hfn => by
      obtain rfl : f = 4 := Option.some.inj ((show Tryd.prog.funcNamed "gazette/gazettelaw14.RecordsFull" = some 4 by kernel_rfl).symm.trans hf) |>.symm
      obtain rfl : fn = Tryd.f4 := (Option.some.inj (Tryd.func4.symm.trans hfn)).symm
      exact ⟨by kernel_rfl, fun j t ht => by
        rw [show Tryd.f4.params = #[23, 23] by kernel_rfl] at ht
        have h3 : t = 23 := by
          rcases j with _ | _ | j
          · simpa using ht.symm
          · simpa using ht.symm
          · simp at ht
        subst h3
        exact (show Tryd.prog.wantsStandIn 23 = false by kernel_rfl)⟩)
    (by kernel_rfl)
end Go.Proofs.YtjmdejbijigfjaaDoor

/-! Records: from the statement to RecordsWhole. -/
namespace Go.Proofs.YtjmdejbijigfjaaDoor
open Go.Ax Go.Shelf Go.RowKit Go.ChangeShapes Go.WideShapes Go.ChangeAt
set_option maxRecDepth 1000000
def shRec : Sh := .st [.int .u64, .str, .sl (.int .u8), .int .u64, .int .u64]
def toRec {K : Type} : DataW K → Rec
  | .agg [a, b, c, d, e] => ⟨toI a, toS b, listOf toI c, toI d, toI e⟩
  | _ => default
theorem relB {K : Type} {d : DataW K} (hd : (Sh.sl (.int .u8)).wf d) {H : HH} {E : Env} {v : Value} (h : Rel (slAV (.int .u8) d) H E v) : Rel (encBs true (listOf toI d)) H E v := conv_sl (encA := encB) (fun x hx => encI_ok hx) hd h
theorem rec_enc {K : Type} {d : DataW K} (hd : shRec.wf d) : ∃ a b c e f, d = .agg [a, b, c, e, f] ∧ (Sh.sl (.int .u8)).wf c ∧ shRec.enc d = [.y (.int .u64 (toI a)), .y (.string (toS b)), slAV (.int .u8) c, .y (.int .u64 (toI e)), .y (.int .u64 (toI f))] := by
  obtain ⟨ds, rfl, d1, r1, rfl, w1, d2, r2, rfl, w2, d3, r3, rfl, w3, d4, r4, rfl, w4, d5, r5, rfl, w5, rfl⟩ := hd
  refine ⟨d1, d2, d3, d4, d5, rfl, w3, ?_⟩
  simp only [shRec, enc_st, enc_cons, enc_nil, encI_ok w1, encS_ok w2, slAV_eq, encI_ok w4, encI_ok w5]
  rfl
theorem rec_conv {K : Type} {d : DataW K} (hd : shRec.wf d) (j : Nat) (hj : j < 5) (H : HH) (E : Env) (v : Value) (h : Rel (Ax.get (shRec.enc d) j) H E v) : Rel (Ax.get (encR (toRec d)) j) H E v := by
  obtain ⟨a, b, c, e, f, rfl, wc, he⟩ := rec_enc hd
  rw [he] at h
  match j, hj with
  | 0, _ => exact h
  | 1, _ => exact h
  | 2, _ => exact relB wc h
  | 3, _ => exact h
  | 4, _ => exact h
theorem relRs {K : Type} {d : DataW K} (hd : (Sh.sl shRec).wf d) {H : HH} {E : Env} {v : Value} (h : Rel (slAV shRec d) H E v) : Rel (encRs true (listOf toRec d)) H E v :=
  conv_slR (encA := encR) (fun x hx j hj H E v => rec_conv hx j hj H E v) hd h
theorem undRs : Tryd.prog.underlying 22 = some (.slice 27) := by kernel_rfl
theorem bytesR : Tryd.prog.bytesOf 27 = 64 := by kernel_rfl
theorem rs_sized {K : Type} {d : DataW K} (hw : (d.weights Tryd.prog 22).all (· ≤ reachBytes) = true) : (listOf toRec d).length * 64 ≤ 140737488351232 := by
  have := weights_slice toRec undRs hw
  rwa [bytesR] at this
theorem whole_lifted (os : Os) (started : os.Started) (K : Type) (enc : TypeId × Value → K) :
    ReturnsInHanded {} Tryd.checked os 7 .any (fun w args => (Rows.recordsWholeSpec.pre enc Tryd.prog Tryd.f7 [] false w args ∧ laidMetH Tryd.prog laidL w) ∧ sizedMet enc Tryd.prog Tryd.f7 (OpenSpec.ofChange Rows.recordsWholeSpec) false w args)
      (Rows.recordsWholeSpec.post enc Tryd.prog Tryd.f7 false true false false) := by
  refine returnsInHanded_of_change_and (C := Tryd.checked) (X := fun w _ => laidMetH Tryd.prog laidL w) (fun _ _ _ hh h => h.of_heap hh) Tryd.own started (by kernel_rfl) Tryd.func7
    (ChangeSpec.witness_at (enc := enc) (C := Tryd.checked) (os := os) (X := fun w _ => laidMetH Tryd.prog laidL w) false (layW os) #[.slice Option.none 0 0] 8 rfl (by kernel_rfl) (by kernel_rfl) (by kernel_rfl) (by kernel_rfl) (by kernel_rfl) (lay_met os _)) ?_
  intro W base args ds gs before hval0 hW hcnd hsz _ _
  have hps : Tryd.f7.params.toList = [22] := by kernel_rfl
  obtain ⟨p, q, hA, hV, hbef, hfz, hnd⟩ := id hW
  rw [hps] at hA hsz
  have ⟨hr, hwf⟩ := lift_all [.sl shRec] (by kernel_rfl) hA
  obtain ⟨v, d, e1, rfl, hd⟩ := trodAll_one hA
  obtain ⟨_, _, e2, hw1, _⟩ := hwf
  obtain ⟨rfl, _⟩ := List.cons.inj e2
  subst e1
  have hwt := weights_cons (P := Tryd.prog) (t := 22) (d := d) (ds := gs) hsz
  have k1 := rs_sized hwt.1
  have r1 := hr.1
  rw [slAV_eq] at r1
  obtain ⟨s1, n1, c1, rfl⟩ := okWide_slice undRs (hval0 0 _ _ (by kernel_rfl) rfl)
  obtain ⟨_, _, er, r1, _⟩ := r1
  cases er
  refine open_calls (call_of (wh_c (listOf toRec d) (by omega))) (t := 4) (ds := [d]) ⟨_, _, rfl, relRs hw1 r1, rfl⟩ (by kernel_rfl) underBool rfl rfl Tryd.laidOut Tryd.mapsRowed Tryd.slicesOk (by rw [hps]; intro t ht; simp at ht; rcases ht with rfl; exact of_decide_eq_true (by kernel_rfl)) hW
theorem whole_holds : Rows.RecordsWholeSaid :=
  OpenClaim.holds_of_wide 7 Tryd.f7 rfl rfl rfl rfl rfl rfl rfl ⟨rfl, rfl, rfl, rfl, rfl⟩ rfl rfl rfl rfl rfl (by kernel_rfl) Tryd.func7 (by kernel_rfl)
    (of_decide_eq_true (by kernel_rfl)) (by unfold Func.isWrapper; first | (rw [if_pos (by decide +kernel)]; kernel_rfl) | (rw [if_neg (by decide +kernel)]; exact ⟨rfl, rfl⟩))
    (fun os started H enc _ => whole_lifted os started H enc)
theorem whole_said : Rows.RecordsWholeCardSaid :=
  Claim7.holds_tied_plain_at .later [] [.data, .pinned] true (true, "c6216772fa23618345da0e61fb6b64e81834fe3c41d4c2546afdeda0683467e7") false
    whole_holds (fun _ h => by cases h) (by kernel_rfl) (fun _ h => by cases h) recordsWhole_row_tie rfl ⟨rfl, rfl⟩ (by kernel_rfl) rfl
    (fun f fn hf hfn => by
      obtain rfl : f = 7 := Option.some.inj ((show Tryd.prog.funcNamed "gazette/gazettelaw14.RecordsWhole" = some 7 by kernel_rfl).symm.trans hf) |>.symm
      obtain rfl : fn = Tryd.f7 := (Option.some.inj (Tryd.func7.symm.trans hfn)).symm
      exact ⟨by kernel_rfl, fun j t ht => by
        rw [show Tryd.f7.params = #[22] by kernel_rfl] at ht
        have h3 : t = 22 := by
          rcases j with _ | j
          · simpa using ht.symm
          · simp at ht
        subst h3
        exact (show Tryd.prog.wantsStandIn 22 = false by kernel_rfl)⟩)
    (by kernel_rfl)
end Go.Proofs.YtjmdejbijigfjaaDoor
