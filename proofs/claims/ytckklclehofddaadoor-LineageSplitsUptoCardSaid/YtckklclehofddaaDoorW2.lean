import Derived.Test.YtckklclehofddaaDoorProg
import Derived.KernelRfl
import Derived.Test.YtckklclehofddaaDoorE12
import Derived.Test.YtckklclehofddaaDoorW1
set_option linter.unusedVariables false
set_option linter.unusedSimpArgs false
set_option linter.unusedSectionVars false
namespace Go.Proofs.YtckklclehofddaaDoor
open Go.Ax
set_option maxRecDepth 1000000
theorem log_val {l : List Rec} (h : isLog l = true) {k : Nat} (hk : k < l.length) : (l.getD k default).val.length ≤ 256 := by
  simp only [isLog, Bool.and_eq_true] at h
  have h1 := h.1
  unfold logFrom at h1
  rw [List.all_eq_true] at h1
  have h2 := h1 k (by simp; omega)
  simp only [okR, Bool.and_eq_true, decide_eq_true_eq] at h2
  exact h2.2.2
theorem log_len {l : List Rec} (h : isLog l = true) : l.length ≤ 4096 := by
  simp only [isLog, Bool.and_eq_true, decide_eq_true_eq] at h
  exact h.2
theorem ke_len (r : Rng) (l : List Rec) : ∀ k, k ≤ l.length → (ke r (l.take k)).to.length = k ∧ (ke r (l.take k)).out.length ≤ k := by
  intro k
  induction k with
  | zero => intro _; simp [ke]
  | succ k ih =>
    intro hk
    obtain ⟨h1, h2⟩ := ih (by omega)
    rw [ke_step (by omega)]
    unfold Ke.step
    constructor
    · simp [h1]
    · dsimp only
      split
      · simp; omega
      · omega
theorem ke_len' (r : Rng) (l : List Rec) : (ke r l).to.length = l.length ∧ (ke r l).out.length ≤ l.length := by
  have := ke_len r l l.length (Nat.le_refl _)
  rwa [List.take_length] at this
theorem kp_loop (b : Bool) (r : Rng) (l : List Rec) (hl : isLog l = true) (k : Nat) : LoopOk Tryd.prog 20 6 (loopAt Tryd.prog 20 6) ⟨kpT b l (ke r (l.take k)) k, kpM r (ke r (l.take k)), []⟩ (T.map (lout jX (kpS r (ke r l))) (.ret ())) := by
  refine loop_vcH (o := fun _ => .ret ()) (stT := fun k => kpT b l (ke r (l.take k)) k) (stM := fun k => kpM r (ke r (l.take k))) Tryd.mixed (fun _ => rfl) (fun k => (vcKpL_eq b r l k).mpr ?_) k
  unfold vcKpL
  have hn := log_len hl
  by_cases h : k < l.length
  · obtain ⟨h1, h2⟩ := ke_len r l k (by omega)
    have hz : decide ((k : Int) < l.length) = true := by simp; omega
    have hv := log_val hl h
    have hs := ke_step (r := r) h
    have hw : IntKind.i64.wrap ((k : Int) + 1) = ((k + 1 : Nat) : Int) := by rw [wrap_i64 (by omega) (by omega)]; omega
    simp only [hz, Int.toNat_natCast]
    generalize l.getD k default = x at *
    generalize ke r (l.take k) = s at *
    simp
    refine ⟨⟨by omega, by omega⟩, fun hh => ⟨by omega, ⟨by omega, by omega⟩, Exists.intro (k + 1) ?_⟩, fun hh => Exists.intro (k + 1) ?_⟩
    · have a1 : contLe (s.to.length + 1) 1 (appRow s.to.length (cellsOf' encU s.to) fun k j => Ax.get [AV.y (Value.int IntKind.u64 (IntKind.u64.wrap ↑s.out.length))] (k + j)) (cellsOf' encU (s.to ++ [IntKind.u64.wrap ↑s.out.length])) := app1_le1 (le0_refl _)
      rw [hs]
      simp [Ke.step, hh]
      refine ⟨by omega, hw, app1_le rfl (rec_le (le0_refl _) (le0_refl _) (le0_refl _) (le0_refl _) (le0_refl _)), a1⟩
    · have a1 : contLe (s.to.length + 1) 1 (appRow s.to.length (cellsOf' encU s.to) fun k j => Ax.get [AV.y (Value.int IntKind.u64 (IntKind.u64.wrap ↑s.out.length))] (k + j)) (cellsOf' encU (s.to ++ [IntKind.u64.wrap ↑s.out.length])) := app1_le1 (le0_refl _)
      rw [hs]
      simp [Ke.step, hh]
      refine ⟨by omega, hw, a1⟩
  · have hz : decide ((k : Int) < l.length) = false := by simp; omega
    rw [List.take_of_length_le (by omega)]
    simp [hz]
    exact fun e => absurd e h
theorem kr_loop (b : Bool) (r : Rng) (l : List Rec) (hl : isLog l = true) (k : Nat) : LoopOk Tryd.prog 43 7 (loopAt Tryd.prog 43 7) ⟨krT b l (ke r (l.take k)) k, kpM r (ke r (l.take k)), []⟩ (T.map (lout jX (krS r (ke r l))) (.ret ())) := by
  refine loop_vcH (o := fun _ => .ret ()) (stT := fun k => krT b l (ke r (l.take k)) k) (stM := fun k => kpM r (ke r (l.take k))) Tryd.mixed (fun _ => rfl) (fun k => (vcKrL_eq b r l k).mpr ?_) k
  unfold vcKrL
  have hn := log_len hl
  by_cases h : k < l.length
  · obtain ⟨h1, h2⟩ := ke_len r l k (by omega)
    have hz : decide ((k : Int) < l.length) = true := by simp; omega
    have hv := log_val hl h
    have hs := ke_step (r := r) h
    have hw : IntKind.i64.wrap ((k : Int) + 1) = ((k + 1 : Nat) : Int) := by rw [wrap_i64 (by omega) (by omega)]; omega
    simp only [hz, Int.toNat_natCast]
    generalize l.getD k default = x at *
    generalize ke r (l.take k) = s at *
    simp
    refine ⟨⟨by omega, by omega⟩, fun hh => ⟨by omega, ⟨by omega, by omega⟩, Exists.intro (k + 1) ?_⟩, fun hh => Exists.intro (k + 1) ?_⟩
    · have a1 : contLe (s.to.length + 1) 1 (appRow s.to.length (cellsOf' encU s.to) fun k j => Ax.get [AV.y (Value.int IntKind.u64 (IntKind.u64.wrap ↑s.out.length))] (k + j)) (cellsOf' encU (s.to ++ [IntKind.u64.wrap ↑s.out.length])) := app1_le1 (le0_refl _)
      rw [hs]
      simp [Ke.step, hh]
      refine ⟨by omega, hw, app1_le rfl (rec_le (le0_refl _) (le0_refl _) (le0_refl _) (le0_refl _) (le0_refl _)), a1⟩
    · have a1 : contLe (s.to.length + 1) 1 (appRow s.to.length (cellsOf' encU s.to) fun k j => Ax.get [AV.y (Value.int IntKind.u64 (IntKind.u64.wrap ↑s.out.length))] (k + j)) (cellsOf' encU (s.to ++ [IntKind.u64.wrap ↑s.out.length])) := app1_le1 (le0_refl _)
      rw [hs]
      simp [Ke.step, hh]
      refine ⟨by omega, hw, a1⟩
  · have hz : decide ((k : Int) < l.length) = false := by simp; omega
    rw [List.take_of_length_le (by omega)]
    simp [hz]
    exact fun e => absurd e h
theorem keep_c (b : Bool) (r : Rng) (l : List Rec) (h1 : l.length ≤ 4611686018427387903) : (keT r l).Sat (ACall' Tryd.prog 20 [encRs b l, .agg (encG r)] []) := by
  refine ctr_vc (ht := keH b r l) Tryd.mixed rfl ?_
  rw [vcKeep_eq b r l]
  unfold vcKeep
  cases hl : isLog l
  · simp; omega
  · have hn := log_len hl
    have lp := kp_loop b r l hl 0
    rw [List.take_zero] at lp
    obtain ⟨q1, q2⟩ := ke_len' r l
    have hw : IntKind.i64.wrap ((l.length : Int) + 1) = (l.length : Int) + 1 := wrap_i64 (by omega) (by omega)
    have a1 : contLe ((ke r l).to.length + 1) 1 (appRow (ke r l).to.length (cellsOf' encU (ke r l).to) fun k j => Ax.get [AV.y (Value.int IntKind.u64 (IntKind.u64.wrap ↑(ke r l).out.length))] (k + j)) (cellsOf' encU ((ke r l).to ++ [IntKind.u64.wrap ↑(ke r l).out.length])) := app1_le1 (le0_refl _)
    simp only [hw]
    by_cases hc : chkK r = 0
    · simp [hc, lp, Ke.end, a1]
      omega
    · simp [hc]; omega
theorem keepr_c (b : Bool) (r : Rng) (l : List Rec) (h1 : l.length ≤ 4611686018427387903) : (keT r l).Sat (ACall' Tryd.prog 43 [encRs b l, .agg (encG r)] []) := by
  refine ctr_vc (ht := keH2 b r l) Tryd.mixed rfl ?_
  rw [vcKeep2_eq b r l]
  unfold vcKeep2
  cases hl : isLog l
  · simp; omega
  · have hn := log_len hl
    have lp := kr_loop b r l hl 0
    rw [List.take_zero] at lp
    obtain ⟨q1, q2⟩ := ke_len' r l
    have a1 : contLe ((ke r l).to.length + 1) 1 (appRow (ke r l).to.length (cellsOf' encU (ke r l).to) fun k j => Ax.get [AV.y (Value.int IntKind.u64 (IntKind.u64.wrap ↑(ke r l).out.length))] (k + j)) (cellsOf' encU ((ke r l).to ++ [IntKind.u64.wrap ↑(ke r l).out.length])) := app1_le1 (le0_refl _)
    by_cases hc : chkK r = 0
    · simp [hc, lp, Ke.end, a1]
      omega
    · simp [hc]; omega
end Go.Proofs.YtckklclehofddaaDoor

namespace Go.Proofs.YtckklclehofddaaDoor
open Go.Ax
set_option maxRecDepth 1000000
end Go.Proofs.YtckklclehofddaaDoor

namespace Go.Proofs.YtckklclehofddaaDoor
open Go.Ax
set_option maxRecDepth 1000000
def coOk (l : List Con) (k : Nat) : Bool := nameOk (l.getD k default).name && !(decide (0 < k) && !lt (l.getD (k - 1) default).name (l.getD k default).name)
def coFrom (l : List Con) (k : Nat) : Bool := (List.range' k (l.length - k)).all fun j => coOk l j
theorem coFrom_end {l : List Con} {k : Nat} (h : l.length ≤ k) : coFrom l k = true := by
  unfold coFrom
  rw [show l.length - k = 0 by omega]; rfl
theorem coFrom_step {l : List Con} {k : Nat} (h : k < l.length) : coFrom l k = (coOk l k && coFrom l (k + 1)) := by
  unfold coFrom
  rw [show l.length - k = (l.length - (k + 1)) + 1 by omega, List.range'_succ]; rfl
def isCons (l : List Con) : Bool := coFrom l 0 && decide (l.length ≤ 64)
def coT (b : Bool) (l : List Con) (k : Nat) : List AV := mkT 35 [(0, encCs b l), (2, .s (.bool false)), (5, encCs b l), (6, .y (.int .i64 l.length)), (7, .y (.int .i64 k))]
def coS (b : Bool) (l : List Con) (r : Bool) : Exit × List AV × List Blk := match r with
  | true => (.exit 0, mkT 35 [(0, encCs b l)], [])
  | false => (.ret, mkT 35 [(2, .s (.bool false))], [])
def coO (l : List Con) (k : Nat) : T Bool := .ite (coFrom l k) (.ret true) (.ret false)
noncomputable def coHL (l : List Con) (k : Nat) : HintsT Tryd.prog := hh _ noLp (cs1 49 4 2 (nameC (l.getD k default).name) noCs) noOp
def vcCoL (b : Bool) (l : List Con) (k : Nat) : Prop :=
  (decide ((↑k : Int) < (↑(List.length l) : Int)) = true → (true && decide ((↑k : Int) < (↑(List.length l) : Int))) = true ∧ ((List.getD l (Int.toNat (↑k : Int)) (@default Con instInhabitedCon)).name = (List.getD l k (@default Con instInhabitedCon)).name ∧ True) ∧ True ∧ ((!nameOk (List.getD l k (@default Con instInhabitedCon)).name) = true → (coFrom l k = true → False) ∧ (coFrom l k = false → (false = false ∧ True) ∧ True ∧ true = true)) ∧ ((!nameOk (List.getD l k (@default Con instInhabitedCon)).name) = false → (decide ((0 : Int) < (↑k : Int)) = true → (decide ((0 : Int) ≤ IntKind.wrap IntKind.i64 ((↑k : Int) - (1 : Int))) && decide (IntKind.wrap IntKind.i64 ((↑k : Int) - (1 : Int)) < (↑(List.length l) : Int))) = true ∧ ((!Op.bytesLess (List.getD l (Int.toNat (IntKind.wrap IntKind.i64 ((↑k : Int) - (1 : Int)))) (@default Con instInhabitedCon)).name.data.toList (List.getD l (Int.toNat (↑k : Int)) (@default Con instInhabitedCon)).name.data.toList) = true → (coFrom l k = true → False) ∧ (coFrom l k = false → (false = false ∧ True) ∧ True ∧ true = true)) ∧ ((!Op.bytesLess (List.getD l (Int.toNat (IntKind.wrap IntKind.i64 ((↑k : Int) - (1 : Int)))) (@default Con instInhabitedCon)).name.data.toList (List.getD l (Int.toNat (↑k : Int)) (@default Con instInhabitedCon)).name.data.toList) = false → ∃ (j : Nat), List.length l - j < List.length l - k ∧ (((b = b ∧ List.length l = List.length l ∧ contLe (List.length l) (2 : Nat) (cellsOf' encC l) (cellsOf' encC l)) ∧ false = false ∧ (b = b ∧ List.length l = List.length l ∧ contLe (List.length l) (2 : Nat) (cellsOf' encC l) (cellsOf' encC l)) ∧ (↑(List.length l) : Int) = (↑(List.length l) : Int) ∧ IntKind.wrap IntKind.i64 ((↑k : Int) + (1 : Int)) = (↑j : Int) ∧ True) ∧ True ∧ true = true) ∧ true = true ∧ (coFrom l j = true → (coFrom l k = true → true = true) ∧ (coFrom l k = false → true = false)) ∧ (coFrom l j = false → (coFrom l k = true → false = true) ∧ (coFrom l k = false → false = false)))) ∧ (decide ((0 : Int) < (↑k : Int)) = false → ∃ (j : Nat), List.length l - j < List.length l - k ∧ (((b = b ∧ List.length l = List.length l ∧ contLe (List.length l) (2 : Nat) (cellsOf' encC l) (cellsOf' encC l)) ∧ false = false ∧ (b = b ∧ List.length l = List.length l ∧ contLe (List.length l) (2 : Nat) (cellsOf' encC l) (cellsOf' encC l)) ∧ (↑(List.length l) : Int) = (↑(List.length l) : Int) ∧ IntKind.wrap IntKind.i64 ((↑k : Int) + (1 : Int)) = (↑j : Int) ∧ True) ∧ True ∧ true = true) ∧ true = true ∧ (coFrom l j = true → (coFrom l k = true → true = true) ∧ (coFrom l k = false → true = false)) ∧ (coFrom l j = false → (coFrom l k = true → false = true) ∧ (coFrom l k = false → false = false))))) ∧ (decide ((↑k : Int) < (↑(List.length l) : Int)) = false → (coFrom l k = true → ((b = b ∧ List.length l = List.length l ∧ contLe (List.length l) (2 : Nat) (cellsOf' encC l) (cellsOf' encC l)) ∧ True) ∧ True ∧ true = true) ∧ (coFrom l k = false → False))
theorem vcCoL_eq (b : Bool) (l : List Con) (k : Nat) : (loopVC Tryd.prog (coHL l k) 49 2 (fun k => l.length - k) (coT b l) (fun _ => []) [0] (coO l) (coS b l) k) = vcCoL b l k := by kernel_rfl
noncomputable def coH (b : Bool) (l : List Con) : HintsT Tryd.prog := hh _ (lp1 49 2 (jobOf (coT b l) (fun _ => []) [0] (coO l) (coS b l) 0) noLp) noCs noOp
def vcCo (b : Bool) (l : List Con) : Prop :=
  (((b = b ∧ List.length l = List.length l ∧ contLe (List.length l) (2 : Nat) (cellsOf' encC l) (cellsOf' encC l)) ∧ false = false ∧ (b = b ∧ List.length l = List.length l ∧ contLe (List.length l) (2 : Nat) (cellsOf' encC l) (cellsOf' encC l)) ∧ (↑(List.length l) : Int) = (↑(List.length l) : Int) ∧ (0 : Int) = (0 : Int) ∧ True) ∧ True ∧ true = true) ∧ LoopOk Tryd.prog (49 : Nat) (2 : Nat) (loopAt Tryd.prog (49 : Nat) (2 : Nat)) { t := coT b l (0 : Nat), m := [], mv := [] : St } (T.map (lout [(0 : Nat)] (coS b l)) (coO l (0 : Nat))) ∧ (coFrom l (0 : Nat) = true → decide ((↑(List.length l) : Int) ≤ (64 : Int)) = isCons l ∧ True) ∧ (coFrom l (0 : Nat) = false → false = isCons l ∧ True)
theorem vcCo_eq (b : Bool) (l : List Con) : (ctrVC Tryd.prog (coH b l) 49 [encCs b l] [] (boolR (isCons l))) = vcCo b l := by kernel_rfl
def crT (b : Bool) (l : List Con) (k : Nat) : List AV := mkT 40 [(0, encCs b l), (2, .s (.bool false)), (3, .y (.int .i64 k))]
def crS (r : Bool) : Exit × List AV × List Blk := match r with
  | true => (.exit 0, mkT 40 [], [])
  | false => (.ret, mkT 40 [(2, .s (.bool false))], [])
noncomputable def crHL (l : List Con) (k : Nat) : HintsT Tryd.prog := hh _ noLp (cs1 39 6 5 (nmC (l.getD k default).name) noCs) noOp
def vcCrL (b : Bool) (l : List Con) (k : Nat) : Prop :=
  (decide ((↑k : Int) < (↑(List.length l) : Int)) = true → (true && decide ((↑k : Int) < (↑(List.length l) : Int))) = true ∧ ((List.getD l (Int.toNat (↑k : Int)) (@default Con instInhabitedCon)).name = (List.getD l k (@default Con instInhabitedCon)).name ∧ True) ∧ True ∧ ((!nameOk (List.getD l k (@default Con instInhabitedCon)).name) = true → (coFrom l k = true → False) ∧ (coFrom l k = false → (false = false ∧ True) ∧ True ∧ true = true)) ∧ ((!nameOk (List.getD l k (@default Con instInhabitedCon)).name) = false → (decide ((0 : Int) < (↑k : Int)) = true → (decide ((0 : Int) ≤ IntKind.wrap IntKind.i64 ((↑k : Int) - (1 : Int))) && decide (IntKind.wrap IntKind.i64 ((↑k : Int) - (1 : Int)) < (↑(List.length l) : Int))) = true ∧ (true && decide ((↑k : Int) < (↑(List.length l) : Int))) = true ∧ ((!Op.bytesLess (List.getD l (Int.toNat (IntKind.wrap IntKind.i64 ((↑k : Int) - (1 : Int)))) (@default Con instInhabitedCon)).name.data.toList (List.getD l (Int.toNat (↑k : Int)) (@default Con instInhabitedCon)).name.data.toList) = true → (coFrom l k = true → False) ∧ (coFrom l k = false → (false = false ∧ True) ∧ True ∧ true = true)) ∧ ((!Op.bytesLess (List.getD l (Int.toNat (IntKind.wrap IntKind.i64 ((↑k : Int) - (1 : Int)))) (@default Con instInhabitedCon)).name.data.toList (List.getD l (Int.toNat (↑k : Int)) (@default Con instInhabitedCon)).name.data.toList) = false → ∃ (j : Nat), List.length l - j < List.length l - k ∧ (((b = b ∧ List.length l = List.length l ∧ contLe (List.length l) (2 : Nat) (cellsOf' encC l) (cellsOf' encC l)) ∧ false = false ∧ IntKind.wrap IntKind.i64 ((↑k : Int) + (1 : Int)) = (↑j : Int) ∧ True) ∧ True ∧ true = true) ∧ true = true ∧ (coFrom l j = true → (coFrom l k = true → true = true) ∧ (coFrom l k = false → true = false)) ∧ (coFrom l j = false → (coFrom l k = true → false = true) ∧ (coFrom l k = false → false = false)))) ∧ (decide ((0 : Int) < (↑k : Int)) = false → ∃ (j : Nat), List.length l - j < List.length l - k ∧ (((b = b ∧ List.length l = List.length l ∧ contLe (List.length l) (2 : Nat) (cellsOf' encC l) (cellsOf' encC l)) ∧ false = false ∧ IntKind.wrap IntKind.i64 ((↑k : Int) + (1 : Int)) = (↑j : Int) ∧ True) ∧ True ∧ true = true) ∧ true = true ∧ (coFrom l j = true → (coFrom l k = true → true = true) ∧ (coFrom l k = false → true = false)) ∧ (coFrom l j = false → (coFrom l k = true → false = true) ∧ (coFrom l k = false → false = false))))) ∧ (decide ((↑k : Int) < (↑(List.length l) : Int)) = false → (coFrom l k = true → True ∧ True ∧ true = true) ∧ (coFrom l k = false → False))
theorem vcCrL_eq (b : Bool) (l : List Con) (k : Nat) : (loopVC Tryd.prog (crHL l k) 39 4 (fun k => l.length - k) (crT b l) (fun _ => []) [0] (coO l) crS k) = vcCrL b l k := by kernel_rfl
noncomputable def crH (b : Bool) (l : List Con) : HintsT Tryd.prog := hh _ (lp1 39 4 (jobOf (crT b l) (fun _ => []) [0] (coO l) crS 0) noLp) noCs noOp
def vcCr (b : Bool) (l : List Con) : Prop :=
  (decide ((64 : Int) < (↑(List.length l) : Int)) = true → false = isCons l ∧ True) ∧ (decide ((64 : Int) < (↑(List.length l) : Int)) = false → (((b = b ∧ List.length l = List.length l ∧ contLe (List.length l) (2 : Nat) (cellsOf' encC l) (cellsOf' encC l)) ∧ false = false ∧ (0 : Int) = (0 : Int) ∧ True) ∧ True ∧ true = true) ∧ LoopOk Tryd.prog (39 : Nat) (4 : Nat) (loopAt Tryd.prog (39 : Nat) (4 : Nat)) { t := crT b l (0 : Nat), m := [], mv := [] : St } (T.map (lout [(0 : Nat)] crS) (coO l (0 : Nat))) ∧ (coFrom l (0 : Nat) = true → true = isCons l ∧ True) ∧ (coFrom l (0 : Nat) = false → false = isCons l ∧ True))
theorem vcCr_eq (b : Bool) (l : List Con) : (ctrVC Tryd.prog (crH b l) 39 [encCs b l] [] (boolR (isCons l))) = vcCr b l := by kernel_rfl
def elemO (to : List Int) (o : Int) : Int := to.getD (min o (to.length - 1)).toNat 0
def u64R (k : Int) : T An := .ret (.y (.int .u64 k), [], [])
def vcOf (b : Bool) (to : List Int) (o : Int) : Prop :=
  (decide ((0 : Int) ≤ if IntKind.wrap IntKind.u64 (IntKind.wrap IntKind.i64 ((↑(List.length to) : Int) - (1 : Int))) < o then IntKind.wrap IntKind.u64 (IntKind.wrap IntKind.i64 ((↑(List.length to) : Int) - (1 : Int))) else o) && decide ((if IntKind.wrap IntKind.u64 (IntKind.wrap IntKind.i64 ((↑(List.length to) : Int) - (1 : Int))) < o then IntKind.wrap IntKind.u64 (IntKind.wrap IntKind.i64 ((↑(List.length to) : Int) - (1 : Int))) else o) < (↑(List.length to) : Int))) = true ∧ List.getD to (Int.toNat (if IntKind.wrap IntKind.u64 (IntKind.wrap IntKind.i64 ((↑(List.length to) : Int) - (1 : Int))) < o then IntKind.wrap IntKind.u64 (IntKind.wrap IntKind.i64 ((↑(List.length to) : Int) - (1 : Int))) else o)) (0 : Int) = elemO to o ∧ True
theorem vcOf_eq (b : Bool) (to : List Int) (o : Int) : (ctrVC Tryd.prog (hT _) 36 [encUs b to, .y (.int .u64 o)] [] (u64R (elemO to o))) = vcOf b to o := by kernel_rfl
def vcEl (b : Bool) (to : List Int) (o : Int) : Prop :=
  (decide (IntKind.wrap IntKind.u64 (↑(List.length to) : Int) ≤ o) = true → (decide ((0 : Int) ≤ IntKind.wrap IntKind.i64 ((↑(List.length to) : Int) - (1 : Int))) && decide (IntKind.wrap IntKind.i64 ((↑(List.length to) : Int) - (1 : Int)) < (↑(List.length to) : Int))) = true ∧ List.getD to (Int.toNat (IntKind.wrap IntKind.i64 ((↑(List.length to) : Int) - (1 : Int)))) (0 : Int) = elemO to o ∧ True) ∧ (decide (IntKind.wrap IntKind.u64 (↑(List.length to) : Int) ≤ o) = false → (decide ((0 : Int) ≤ IntKind.wrap IntKind.i64 o) && decide (IntKind.wrap IntKind.i64 o < (↑(List.length to) : Int))) = true ∧ List.getD to (Int.toNat (IntKind.wrap IntKind.i64 o)) (0 : Int) = elemO to o ∧ True)
theorem vcEl_eq (b : Bool) (to : List Int) (o : Int) : (ctrVC Tryd.prog (hT _) 59 [encUs b to, .y (.int .u64 o)] [] (u64R (elemO to o))) = vcEl b to o := by kernel_rfl
end Go.Proofs.YtckklclehofddaaDoor

namespace Go.Proofs.YtckklclehofddaaDoor
open Go.Ax
set_option maxRecDepth 1000000
theorem co_loop (b : Bool) (l : List Con) (hl : l.length ≤ 9223372036854775806) (k : Nat) : LoopOk Tryd.prog 49 2 (loopAt Tryd.prog 49 2) ⟨coT b l k, [], []⟩ ((coO l k).map (lout [0] (coS b l))) := by
  refine loop_vcH (ht := coHL l) Tryd.mixed (fun _ => rfl) (fun k => (vcCoL_eq b l k).mpr ?_) k
  unfold vcCoL
  simp
  refine ⟨fun h => ?_, fun h => by simp [coFrom_end h]⟩
  rw [coFrom_step h]
  have e1 : IntKind.i64.wrap ((k : Int) + 1) = ((k + 1 : Nat) : Int) := by rw [wrap_i64 (by omega) (by omega)]; omega
  rw [e1]
  rcases Nat.eq_zero_or_pos k with rfl | hk
  · simp [coOk]
    generalize l[0]?.getD default = x
    cases nameOk x.name <;> simp
    all_goals repeat' with_reducible apply And.intro
    all_goals first | omega | exact ⟨1, by omega, by simp, by grind⟩
  · have e2 : IntKind.i64.wrap ((k : Int) - 1) = ((k - 1 : Nat) : Int) := by rw [wrap_i64 (by omega) (by omega)]; omega
    rw [e2]
    simp [coOk, lt, hk]
    generalize l[k]?.getD default = x
    generalize l[k - 1]?.getD default = y
    generalize Op.bytesLess y.name.data.toList x.name.data.toList = q
    cases nameOk x.name <;> cases q <;> simp <;> (try omega)
    all_goals repeat' with_reducible apply And.intro
    all_goals first | omega | (intro h0; exact absurd h0 (by omega)) | exact ⟨k + 1, by omega, by simp, by grind⟩
theorem co_c (b : Bool) (l : List Con) (hl : l.length ≤ 9223372036854775806) : (boolR (isCons l)).Sat (ACall' Tryd.prog 49 [encCs b l] []) := by
  refine ctr_vc (ht := coH b l) Tryd.mixed rfl ?_
  rw [vcCo_eq b l]
  unfold vcCo
  have := co_loop b l hl 0
  simp [this, isCons]
  grind
theorem cr_loop (b : Bool) (l : List Con) (hl : l.length ≤ 9223372036854775806) (k : Nat) : LoopOk Tryd.prog 39 4 (loopAt Tryd.prog 39 4) ⟨crT b l k, [], []⟩ ((coO l k).map (lout [0] crS)) := by
  refine loop_vcH (ht := crHL l) Tryd.mixed (fun _ => rfl) (fun k => (vcCrL_eq b l k).mpr ?_) k
  unfold vcCrL
  simp
  refine ⟨fun h => ?_, fun h => by simp [coFrom_end h]⟩
  rw [coFrom_step h]
  have e1 : IntKind.i64.wrap ((k : Int) + 1) = ((k + 1 : Nat) : Int) := by rw [wrap_i64 (by omega) (by omega)]; omega
  rw [e1]
  rcases Nat.eq_zero_or_pos k with rfl | hk
  · simp [coOk]
    generalize l[0]?.getD default = x
    cases nameOk x.name <;> simp
    all_goals repeat' with_reducible apply And.intro
    all_goals first | omega | exact ⟨1, by omega, by simp, by grind⟩
  · have e2 : IntKind.i64.wrap ((k : Int) - 1) = ((k - 1 : Nat) : Int) := by rw [wrap_i64 (by omega) (by omega)]; omega
    rw [e2]
    simp [coOk, lt, hk]
    generalize l[k]?.getD default = x
    generalize l[k - 1]?.getD default = y
    generalize Op.bytesLess y.name.data.toList x.name.data.toList = q
    cases nameOk x.name <;> cases q <;> simp <;> (try omega)
    all_goals repeat' with_reducible apply And.intro
    all_goals first | omega | (intro h0; exact absurd h0 (by omega)) | exact ⟨k + 1, by omega, by simp, by grind⟩
theorem cr_c (b : Bool) (l : List Con) (hl : l.length ≤ 9223372036854775806) : (boolR (isCons l)).Sat (ACall' Tryd.prog 39 [encCs b l] []) := by
  refine ctr_vc (ht := crH b l) Tryd.mixed rfl ?_
  rw [vcCr_eq b l]
  unfold vcCr
  have := cr_loop b l hl 0
  simp [this, isCons]
  grind
def offOk (o : Int) : Prop := 0 ≤ o ∧ o < 18446744073709551616
theorem of_c (b : Bool) (to : List Int) (o : Int) (h0 : 0 < to.length) (hl : to.length ≤ 9223372036854775806) (ho : offOk o) : (u64R (elemO to o)).Sat (ACall' Tryd.prog 36 [encUs b to, .y (.int .u64 o)] []) := by
  refine ctr_vc (ht := hT _) Tryd.mixed rfl ?_
  rw [vcOf_eq b to o]
  unfold vcOf
  have h1 := ho.1
  have h2 := ho.2
  have e : IntKind.u64.wrap (IntKind.i64.wrap ((to.length : Int) - 1)) = (to.length : Int) - 1 := by
    rw [wrap_i64 (by omega) (by omega), wrap_u64 (by omega) (by omega)]
  rw [e]
  unfold elemO
  have hm : (if (to.length : Int) - 1 < o then (to.length : Int) - 1 else o) = min o (to.length - 1) := by
    rw [Int.min_def]; split <;> split <;> omega
  rw [hm]
  have h3 : (0 : Int) ≤ min o (to.length - 1) := by rw [Int.min_def]; split <;> omega
  have h4 : min o ((to.length : Int) - 1) < to.length := by rw [Int.min_def]; split <;> omega
  refine ⟨?_, rfl, trivial⟩
  rw [decide_eq_true h3, decide_eq_true h4]; rfl
theorem el_c (b : Bool) (to : List Int) (o : Int) (h0 : 0 < to.length) (hl : to.length ≤ 9223372036854775806) (ho : offOk o) : (u64R (elemO to o)).Sat (ACall' Tryd.prog 59 [encUs b to, .y (.int .u64 o)] []) := by
  refine ctr_vc (ht := hT _) Tryd.mixed rfl ?_
  rw [vcEl_eq b to o]
  unfold vcEl
  have h1 := ho.1
  have h2 := ho.2
  have e : IntKind.u64.wrap (to.length : Int) = to.length := by rw [wrap_u64 (by omega) (by omega)]
  have e1 : IntKind.i64.wrap ((to.length : Int) - 1) = (to.length : Int) - 1 := by rw [wrap_i64 (by omega) (by omega)]
  rw [e, e1]
  unfold elemO
  refine ⟨fun h => ?_, fun h => ?_⟩
  · have h := of_decide_eq_true h
    have hm : min o ((to.length : Int) - 1) = to.length - 1 := by rw [Int.min_def]; split <;> omega
    rw [hm]
    refine ⟨?_, rfl, trivial⟩
    rw [decide_eq_true (by omega), decide_eq_true (by omega)]; rfl
  · have h := of_decide_eq_false h
    have hm : min o ((to.length : Int) - 1) = o := by rw [Int.min_def]; split <;> omega
    have e2 : IntKind.i64.wrap o = o := by rw [wrap_i64 (by omega) (by omega)]
    rw [hm, e2]
    refine ⟨?_, rfl, trivial⟩
    rw [decide_eq_true (by omega), decide_eq_true (by omega)]; rfl
noncomputable def coC (b : Bool) (l : List Con) : Ctr Tryd.prog := ⟨49, [encCs b l], [], .need (l.length ≤ 9223372036854775806) (boolR (isCons l)), T.Sat.need fun h => co_c b l h⟩
noncomputable def crC (b : Bool) (l : List Con) : Ctr Tryd.prog := ⟨39, [encCs b l], [], .need (l.length ≤ 9223372036854775806) (boolR (isCons l)), T.Sat.need fun h => cr_c b l h⟩
noncomputable def ofC (b : Bool) (to : List Int) (o : Int) : Ctr Tryd.prog := ⟨36, [encUs b to, .y (.int .u64 o)], [], .need (0 < to.length ∧ to.length ≤ 9223372036854775806 ∧ offOk o) (u64R (elemO to o)), T.Sat.need fun h => of_c b to o h.1 h.2.1 h.2.2⟩
noncomputable def elC (b : Bool) (to : List Int) (o : Int) : Ctr Tryd.prog := ⟨59, [encUs b to, .y (.int .u64 o)], [], .need (0 < to.length ∧ to.length ≤ 9223372036854775806 ∧ offOk o) (u64R (elemO to o)), T.Sat.need fun h => el_c b to o h.1 h.2.1 h.2.2⟩
end Go.Proofs.YtckklclehofddaaDoor

namespace Go.Proofs.YtckklclehofddaaDoor
open Go.Ax
set_option maxRecDepth 1000000
theorem less_trans : ∀ (a b c : List UInt8), Op.bytesLess a b = true → Op.bytesLess b c = true → Op.bytesLess a c = true
  | [], [], c, h, _ => by simp [Op.bytesLess] at h
  | [], _ :: _, [], _, h => by simp [Op.bytesLess] at h
  | [], _ :: _, _ :: _, _, _ => rfl
  | _ :: _, [], _, h, _ => by simp [Op.bytesLess] at h
  | _ :: _, _ :: _, [], _, h => by simp [Op.bytesLess] at h
  | a :: l, b :: m, c :: n, h1, h2 => by
    simp only [Op.bytesLess, Bool.or_eq_true, Bool.and_eq_true, decide_eq_true_eq, beq_iff_eq] at h1 h2 ⊢
    rcases h1 with h1 | ⟨rfl, h1⟩
    · rcases h2 with h2 | ⟨rfl, h2⟩
      · exact Or.inl (UInt8.lt_trans h1 h2)
      · exact Or.inl h1
    · rcases h2 with h2 | ⟨rfl, h2⟩
      · exact Or.inl h2
      · exact Or.inr ⟨rfl, less_trans l m n h1 h2⟩
theorem lt_trans' {a b c : ByteArray} (h1 : lt a b = true) (h2 : lt b c = true) : lt a c = true := less_trans _ _ _ h1 h2
def risC (l : List Con) : Prop := ∀ i j, i < j → j < l.length → lt (l.getD i default).name (l.getD j default).name = true
def belC (l : List Con) (s : ByteArray) : Nat := (l.takeWhile (fun y => lt y.name s)).length
theorem ris_lo {l : List Con} {s : ByteArray} (hr : risC l) {m k : Nat} (hm : m < l.length) (hk : k ≤ m) (h : lt (l.getD m default).name s = true) : lt (l.getD k default).name s = true := by
  rcases Nat.lt_or_ge k m with h1 | h1
  · exact lt_trans' (hr k m h1 hm) h
  · obtain rfl : k = m := by omega
    exact h
structure BS (l : List Con) (x : Con) where
  i : Nat
  j : Nat
  ij : i ≤ j
  jl : j ≤ l.length
  lo : ∀ k, k < i → lt (l.getD k default).name x.name = true
  hi : ∀ k, j ≤ k → k < l.length → lt (l.getD k default).name x.name = false
def BS.up {l : List Con} {x : Con} (hr : risC l) (q : BS l x) (m : Nat) (h2 : m < q.j) (hx : lt (l.getD m default).name x.name = true) : BS l x where
  i := m + 1
  j := q.j
  ij := by omega
  jl := q.jl
  lo := fun k hk => ris_lo hr (m := m) (by have := q.jl; omega) (by omega) hx
  hi := q.hi
def cmpV (a b : ByteArray) : Int := if lt a b then -1 else if lt b a then 1 else 0
def bsF (l : List Con) (x : Con) : Bool := decide (belC l x.name < l.length) && (cmpV (l.getD (belC l x.name) default).name x.name == 0)
end Go.Proofs.YtckklclehofddaaDoor

namespace Go.Proofs.YtckklclehofddaaDoor
open Go.Ax
set_option maxRecDepth 1000000
def putL (l : List Con) (x : Con) : List Con := if bsF l x then l.set (belC l x.name) x else l.take (belC l x.name) ++ x :: l.drop (belC l x.name)
def conR (l : List Con) : T An := .ret (.own 0 2 0 l.length, [rowC l], [])
def stp (x : Con) (s : Bool × List Con) (y : Con) : Bool × List Con :=
  let s1 := if (!lt y.name x.name && !s.1) = true then (true, s.2 ++ [x]) else s
  if y.name.data = x.name.data then s1 else (s1.1, s1.2 ++ [y])
def scT (b1 b2 : Bool) (a : List Con) (k : Nat) : List AV := mkT 26 [(0, encCs b1 a), (1, encCs b2 a), (5, .y (.int .i64 k))]
def scS (_ : Unit) : Exit × List AV × List Blk := (.exit 0, mkT 26 [], [])
def vcScL (b1 : Bool) (b2 : Bool) (a : List Con) (k : Nat) : Prop :=
  (decide ((↑k : Int) < (↑(List.length a) : Int)) = true → (true && decide ((↑k : Int) < (↑(List.length a) : Int))) = true ∧ (true && decide ((↑k : Int) < (↑(List.length a) : Int))) = true ∧ ((!((List.getD a (Int.toNat (↑k : Int)) (@default Con instInhabitedCon)).name.data.toList == (List.getD a (Int.toNat (↑k : Int)) (@default Con instInhabitedCon)).name.data.toList && ((List.getD a (Int.toNat (↑k : Int)) (@default Con instInhabitedCon)).off == (List.getD a (Int.toNat (↑k : Int)) (@default Con instInhabitedCon)).off && true))) = true → False) ∧ ((!((List.getD a (Int.toNat (↑k : Int)) (@default Con instInhabitedCon)).name.data.toList == (List.getD a (Int.toNat (↑k : Int)) (@default Con instInhabitedCon)).name.data.toList && ((List.getD a (Int.toNat (↑k : Int)) (@default Con instInhabitedCon)).off == (List.getD a (Int.toNat (↑k : Int)) (@default Con instInhabitedCon)).off && true))) = false → ∃ (j : Nat), List.length a - j < List.length a - k ∧ (((b1 = b1 ∧ List.length a = List.length a ∧ contLe (List.length a) (2 : Nat) (cellsOf' encC a) (cellsOf' encC a)) ∧ (b2 = b2 ∧ List.length a = List.length a ∧ contLe (List.length a) (2 : Nat) (cellsOf' encC a) (cellsOf' encC a)) ∧ IntKind.wrap IntKind.i64 ((↑k : Int) + (1 : Int)) = (↑j : Int) ∧ True) ∧ True ∧ true = true) ∧ true = true ∧ () = ())) ∧ (decide ((↑k : Int) < (↑(List.length a) : Int)) = false → True ∧ True ∧ true = true)
theorem vcScL_eq (b1 : Bool) (b2 : Bool) (a : List Con) (k : Nat) : (loopVC Tryd.prog (hT _) 28 4 (fun k => a.length - k) (scT b1 b2 a) (fun _ => []) [0] (fun _ => .ret ()) scS k) = vcScL b1 b2 a k := by kernel_rfl
noncomputable def scH (b1 b2 : Bool) (a : List Con) : HintsT Tryd.prog := hh _ (lp1 28 4 (jobOf (scT b1 b2 a) (fun _ => []) [0] (fun _ => .ret ()) scS 0) noLp) noCs noOp
def vcSc (b1 : Bool) (b2 : Bool) (a : List Con) : Prop :=
  (((↑(List.length a) : Int) != (↑(List.length a) : Int)) = true → false = true ∧ True) ∧ (((↑(List.length a) : Int) != (↑(List.length a) : Int)) = false → (((b1 = b1 ∧ List.length a = List.length a ∧ contLe (List.length a) (2 : Nat) (cellsOf' encC a) (cellsOf' encC a)) ∧ (b2 = b2 ∧ List.length a = List.length a ∧ contLe (List.length a) (2 : Nat) (cellsOf' encC a) (cellsOf' encC a)) ∧ (0 : Int) = (0 : Int) ∧ True) ∧ True ∧ true = true) ∧ LoopOk Tryd.prog (28 : Nat) (4 : Nat) (loopAt Tryd.prog (28 : Nat) (4 : Nat)) { t := scT b1 b2 a (0 : Nat), m := [], mv := [] : St } (T.map (lout [(0 : Nat)] scS) ((fun (x : Nat) => T.ret ()) (0 : Nat))) ∧ true = true ∧ True)
theorem vcSc_eq (b1 : Bool) (b2 : Bool) (a : List Con) : (ctrVC Tryd.prog (scH b1 b2 a) 28 [encCs b1 a, encCs b2 a] [] (boolR true)) = vcSc b1 b2 a := by kernel_rfl
end Go.Proofs.YtckklclehofddaaDoor

namespace Go.Proofs.YtckklclehofddaaDoor
open Go.Ax
set_option maxRecDepth 1000000
theorem enc_le (x : Con) : ∀ j, j < 2 → le0 (Ax.get [.y (.string x.name), .y (.int .u64 x.off)] j) (Ax.get (encC x) j) := fun j hj => by
  match j, hj with
  | 0, _ => simp [encC]
  | 1, _ => simp [encC]
theorem sc_loop (b1 b2 : Bool) (a : List Con) (hl : a.length ≤ 9223372036854775806) (k : Nat) : LoopOk Tryd.prog 28 4 (loopAt Tryd.prog 28 4) ⟨scT b1 b2 a k, [], []⟩ (T.map (lout [0] scS) (.ret ())) := by
  refine loop_vc (o := fun _ => .ret ()) Tryd.mixed (fun _ => rfl) (fun k => (vcScL_eq b1 b2 a k).mpr ?_) k
  unfold vcScL
  simp
  intro h
  exact ⟨h, k + 1, by omega, by rw [wrap_i64 (by omega) (by omega)]; omega⟩
theorem sc_c (b1 b2 : Bool) (a : List Con) (hl : a.length ≤ 9223372036854775806) : (boolR true).Sat (ACall' Tryd.prog 28 [encCs b1 a, encCs b2 a] []) := by
  refine ctr_vc (ht := scH b1 b2 a) Tryd.mixed rfl ?_
  rw [vcSc_eq b1 b2 a]
  unfold vcSc
  simp [sc_loop b1 b2 a hl 0]
noncomputable def scC (b1 b2 : Bool) (a b : List Con) : Ctr Tryd.prog := ⟨28, [encCs b1 a, encCs b2 b], [], .need (a.length ≤ 9223372036854775806 ∧ a = b) (boolR true), T.Sat.need fun h => by obtain ⟨h1, rfl⟩ := h; exact sc_c b1 b2 a h1⟩
def oth (l : List Con) (x : Con) : List Con := l.filter fun y => decide (¬ y.name.data = x.name.data)
end Go.Proofs.YtckklclehofddaaDoor

namespace Go.Proofs.YtckklclehofddaaDoor
open Go.Ax
set_option maxRecDepth 1000000
def movC (to : List Int) (x : Con) : Con := ⟨x.name, elemO to x.off⟩
def mapU (l : List Con) (to : List Int) (k : Nat) : List Con := if to.length = 0 then [] else (l.take k).map (movC to)
def fnO (b : Bool) (to : List Int) : AV := .fn (.func 36) [encUs b to] []
def mpT (b1 b2 : Bool) (l : List Con) (to : List Int) (k : Nat) : List AV := mkT 32 [(5, fnO b2 to), (6, .own 0 2 0 (mapU l to k).length), (14, encCs b1 l), (15, .y (.int .i64 l.length)), (16, .y (.int .i64 k))]
def mpM (l : List Con) (to : List Int) (k : Nat) : List Blk := [rowC (mapU l to k)]
def mpS (l : List Con) (to : List Int) (_ : Unit) : Exit × List AV × List Blk := (.exit 0, mkT 32 [(6, .own 0 2 0 (mapU l to l.length).length)], mpM l to l.length)
noncomputable def mpHL (b2 : Bool) (l : List Con) (to : List Int) (k : Nat) : HintsT Tryd.prog := hh _ noLp (cs1 22 8 6 (ofC b2 to (l.getD k default).off) noCs) noOp
def vcMpL (b1 : Bool) (b2 : Bool) (l : List Con) (to : List Int) (k : Nat) : Prop :=
  (decide ((↑k : Int) < (↑(List.length l) : Int)) = true → (true && decide ((↑k : Int) < (↑(List.length l) : Int))) = true ∧ ((b2 = b2 ∧ List.length to = List.length to ∧ contLe (List.length to) (1 : Nat) (cellsOf' encU to) (cellsOf' encU to)) ∧ (List.getD l (Int.toNat (↑k : Int)) (@default Con instInhabitedCon)).off = (List.getD l k (@default Con instInhabitedCon)).off ∧ True) ∧ True ∧ ((0 : Nat) < List.length to ∧ List.length to ≤ (9223372036854775806 : Nat) ∧ (0 : Int) ≤ (List.getD l k (@default Con instInhabitedCon)).off ∧ (List.getD l k (@default Con instInhabitedCon)).off < (18446744073709551616 : Int)) ∧ (decide (List.length (mapU l to k) = List.length (mapU l to k)) && decide (List.length (mapU l to k) + (1 : Nat) ≤ (9223372036854775807 : Nat)) && decide ((List.length (mapU l to k) + (1 : Nat)) * (24 : Nat) ≤ (140737488355328 : Nat))) = true ∧ ∃ (j : Nat), List.length l - j < List.length l - k ∧ (((((b2 = b2 ∧ List.length to = List.length to ∧ contLe (List.length to) (1 : Nat) (cellsOf' encU to) (cellsOf' encU to)) ∧ True) ∧ True) ∧ ((0 : Nat) = (0 : Nat) ∧ List.length (mapU l to k) + (1 : Nat) = List.length (mapU l to j)) ∧ (b1 = b1 ∧ List.length l = List.length l ∧ contLe (List.length l) (2 : Nat) (cellsOf' encC l) (cellsOf' encC l)) ∧ (↑(List.length l) : Int) = (↑(List.length l) : Int) ∧ IntKind.wrap IntKind.i64 ((↑k : Int) + (1 : Int)) = (↑j : Int) ∧ True) ∧ ((List.length (mapU l to k) + (1 : Nat) = List.length (mapU l to j) ∧ contLe (List.length (mapU l to k) + (1 : Nat)) (2 : Nat) (appRow (List.length (mapU l to k)) (cellsOf' encC (mapU l to k)) fun (k_1 j : Nat) => Ax.get [AV.y (Value.string (List.getD l (Int.toNat (↑k : Int)) (@default Con instInhabitedCon)).name), AV.y (Value.int IntKind.u64 (elemO to (List.getD l k (@default Con instInhabitedCon)).off))] (k_1 * (2 : Nat) + j)) (cellsOf' encC (mapU l to j))) ∧ True) ∧ true = true) ∧ true = true ∧ () = ()) ∧ (decide ((↑k : Int) < (↑(List.length l) : Int)) = false → (((0 : Nat) = (0 : Nat) ∧ List.length (mapU l to k) = List.length (mapU l to (List.length l))) ∧ True) ∧ ((List.length (mapU l to k) = List.length (mapU l to (List.length l)) ∧ contLe (List.length (mapU l to k)) (2 : Nat) (cellsOf' encC (mapU l to k)) (cellsOf' encC (mapU l to (List.length l)))) ∧ True) ∧ true = true)
theorem vcMpL_eq (b1 : Bool) (b2 : Bool) (l : List Con) (to : List Int) (k : Nat) : (loopVC Tryd.prog (mpHL b2 l to k) 22 6 (fun k => l.length - k) (mpT b1 b2 l to) (mpM l to) [0, 1, 2, 3, 4, 5] (fun _ => .ret ()) (mpS l to) k) = vcMpL b1 b2 l to k := by kernel_rfl
noncomputable def mpH (b1 b2 : Bool) (l : List Con) (to : List Int) : HintsT Tryd.prog :=
  hh _ (lp1 22 6 (jobOf (mpT b1 b2 l to) (mpM l to) [0, 1, 2, 3, 4, 5] (fun _ => .ret ()) (mpS l to) 0) noLp) noCs (op1 22 4 0 (.row 50 2) (op1 22 2 0 (.row 50 2) noOp))
def vcMp (b1 : Bool) (b2 : Bool) (l : List Con) (to : List Int) : Prop :=
  (((↑(List.length to) : Int) == (0 : Int)) = true → ((0 : Nat) = (0 : Nat) ∧ (0 : Nat) = List.length (mapU l to (List.length l))) ∧ ((0 : Nat) = List.length (mapU l to (List.length l)) ∧ contLe (0 : Nat) (2 : Nat) (fun (x x_1 : Nat) => AV.junk) (cellsOf' encC (mapU l to (List.length l)))) ∧ True) ∧ (((↑(List.length to) : Int) == (0 : Int)) = false → (((((b2 = b2 ∧ List.length to = List.length to ∧ contLe (List.length to) (1 : Nat) (cellsOf' encU to) (cellsOf' encU to)) ∧ True) ∧ True) ∧ ((0 : Nat) = (0 : Nat) ∧ (0 : Nat) = List.length (mapU l to (0 : Nat))) ∧ (b1 = b1 ∧ List.length l = List.length l ∧ contLe (List.length l) (2 : Nat) (cellsOf' encC l) (cellsOf' encC l)) ∧ (↑(List.length l) : Int) = (↑(List.length l) : Int) ∧ (0 : Int) = (0 : Int) ∧ True) ∧ (((0 : Nat) = List.length (mapU l to (0 : Nat)) ∧ contLe (0 : Nat) (2 : Nat) (fun (x x_1 : Nat) => AV.junk) (cellsOf' encC (mapU l to (0 : Nat)))) ∧ True) ∧ true = true) ∧ LoopOk Tryd.prog (22 : Nat) (6 : Nat) (loopAt Tryd.prog (22 : Nat) (6 : Nat)) { t := mpT b1 b2 l to (0 : Nat), m := mpM l to (0 : Nat), mv := [] : St } (T.map (lout [(0 : Nat), (1 : Nat), (2 : Nat), (3 : Nat), (4 : Nat), (5 : Nat)] (mpS l to)) ((fun (x : Nat) => T.ret ()) (0 : Nat))) ∧ ((0 : Nat) = (0 : Nat) ∧ List.length (mapU l to (List.length l)) = List.length (mapU l to (List.length l))) ∧ (List.length (mapU l to (List.length l)) = List.length (mapU l to (List.length l)) ∧ contLe (List.length (mapU l to (List.length l))) (2 : Nat) (cellsOf' encC (mapU l to (List.length l))) (cellsOf' encC (mapU l to (List.length l)))) ∧ True)
theorem vcMp_eq (b1 : Bool) (b2 : Bool) (l : List Con) (to : List Int) : (ctrVC Tryd.prog (mpH b1 b2 l to) 22 [encCs b1 l, encUs b2 to] [] (conR (mapU l to l.length))) = vcMp b1 b2 l to := by kernel_rfl
def mrT (b1 b2 : Bool) (l : List Con) (to : List Int) (k : Nat) : List AV := mkT 35 [(0, encCs b1 l), (1, encUs b2 to), (5, .own 0 2 0 (mapU l to k).length), (6, .y (.int .i64 k))]
def mrS (l : List Con) (to : List Int) (_ : Unit) : Exit × List AV × List Blk := (.exit 0, mkT 35 [(5, .own 0 2 0 (mapU l to l.length).length)], mpM l to l.length)
noncomputable def mrHL (b2 : Bool) (l : List Con) (to : List Int) (k : Nat) : HintsT Tryd.prog := hh _ noLp (cs1 45 5 12 (elC b2 to (l.getD k default).off) noCs) noOp
def vcMrL (b1 : Bool) (b2 : Bool) (l : List Con) (to : List Int) (k : Nat) : Prop :=
  (decide ((↑k : Int) < (↑(List.length l) : Int)) = true → (decide ((0 : Int) < (↑(List.length to) : Int)) = true → (true && decide ((↑k : Int) < (↑(List.length l) : Int))) = true ∧ (true && decide ((↑k : Int) < (↑(List.length l) : Int))) = true ∧ ((b2 = b2 ∧ List.length to = List.length to ∧ contLe (List.length to) (1 : Nat) (cellsOf' encU to) (cellsOf' encU to)) ∧ (List.getD l (Int.toNat (↑k : Int)) (@default Con instInhabitedCon)).off = (List.getD l k (@default Con instInhabitedCon)).off ∧ True) ∧ True ∧ ((0 : Nat) < List.length to ∧ List.length to ≤ (9223372036854775806 : Nat) ∧ (0 : Int) ≤ (List.getD l k (@default Con instInhabitedCon)).off ∧ (List.getD l k (@default Con instInhabitedCon)).off < (18446744073709551616 : Int)) ∧ (decide (List.length (mapU l to k) = List.length (mapU l to k)) && decide (List.length (mapU l to k) + (1 : Nat) ≤ (9223372036854775807 : Nat)) && decide ((List.length (mapU l to k) + (1 : Nat)) * (24 : Nat) ≤ (140737488355328 : Nat))) = true ∧ ∃ (j : Nat), List.length l - j < List.length l - k ∧ (((b1 = b1 ∧ List.length l = List.length l ∧ contLe (List.length l) (2 : Nat) (cellsOf' encC l) (cellsOf' encC l)) ∧ (b2 = b2 ∧ List.length to = List.length to ∧ contLe (List.length to) (1 : Nat) (cellsOf' encU to) (cellsOf' encU to)) ∧ ((0 : Nat) = (0 : Nat) ∧ List.length (mapU l to k) + (1 : Nat) = List.length (mapU l to j)) ∧ IntKind.wrap IntKind.i64 ((↑k : Int) + (1 : Int)) = (↑j : Int) ∧ True) ∧ ((List.length (mapU l to k) + (1 : Nat) = List.length (mapU l to j) ∧ contLe (List.length (mapU l to k) + (1 : Nat)) (2 : Nat) (appRow (List.length (mapU l to k)) (cellsOf' encC (mapU l to k)) fun (k_1 j : Nat) => Ax.get [AV.y (Value.string (List.getD l (Int.toNat (↑k : Int)) (@default Con instInhabitedCon)).name), AV.y (Value.int IntKind.u64 (elemO to (List.getD l k (@default Con instInhabitedCon)).off))] (k_1 * (2 : Nat) + j)) (cellsOf' encC (mapU l to j))) ∧ True) ∧ true = true) ∧ true = true ∧ () = ()) ∧ (decide ((0 : Int) < (↑(List.length to) : Int)) = false → (((0 : Nat) = (0 : Nat) ∧ List.length (mapU l to k) = List.length (mapU l to (List.length l))) ∧ True) ∧ ((List.length (mapU l to k) = List.length (mapU l to (List.length l)) ∧ contLe (List.length (mapU l to k)) (2 : Nat) (cellsOf' encC (mapU l to k)) (cellsOf' encC (mapU l to (List.length l)))) ∧ True) ∧ true = true)) ∧ (decide ((↑k : Int) < (↑(List.length l) : Int)) = false → (((0 : Nat) = (0 : Nat) ∧ List.length (mapU l to k) = List.length (mapU l to (List.length l))) ∧ True) ∧ ((List.length (mapU l to k) = List.length (mapU l to (List.length l)) ∧ contLe (List.length (mapU l to k)) (2 : Nat) (cellsOf' encC (mapU l to k)) (cellsOf' encC (mapU l to (List.length l)))) ∧ True) ∧ true = true)
theorem vcMrL_eq (b1 : Bool) (b2 : Bool) (l : List Con) (to : List Int) (k : Nat) : (loopVC Tryd.prog (mrHL b2 l to k) 45 3 (fun k => l.length - k) (mrT b1 b2 l to) (mpM l to) [0, 1, 2, 3, 4, 5] (fun _ => .ret ()) (mrS l to) k) = vcMrL b1 b2 l to k := by kernel_rfl
noncomputable def mrH (b1 b2 : Bool) (l : List Con) (to : List Int) : HintsT Tryd.prog :=
  hh _ (lp1 45 3 (jobOf (mrT b1 b2 l to) (mpM l to) [0, 1, 2, 3, 4, 5] (fun _ => .ret ()) (mrS l to) 0) noLp) noCs (op1 45 1 0 (.row 50 2) noOp)
def vcMr (b1 : Bool) (b2 : Bool) (l : List Con) (to : List Int) : Prop :=
  (((b1 = b1 ∧ List.length l = List.length l ∧ contLe (List.length l) (2 : Nat) (cellsOf' encC l) (cellsOf' encC l)) ∧ (b2 = b2 ∧ List.length to = List.length to ∧ contLe (List.length to) (1 : Nat) (cellsOf' encU to) (cellsOf' encU to)) ∧ ((0 : Nat) = (0 : Nat) ∧ (0 : Nat) = List.length (mapU l to (0 : Nat))) ∧ (0 : Int) = (0 : Int) ∧ True) ∧ (((0 : Nat) = List.length (mapU l to (0 : Nat)) ∧ contLe (0 : Nat) (2 : Nat) (fun (x x_1 : Nat) => AV.junk) (cellsOf' encC (mapU l to (0 : Nat)))) ∧ True) ∧ true = true) ∧ LoopOk Tryd.prog (45 : Nat) (3 : Nat) (loopAt Tryd.prog (45 : Nat) (3 : Nat)) { t := mrT b1 b2 l to (0 : Nat), m := mpM l to (0 : Nat), mv := [] : St } (T.map (lout [(0 : Nat), (1 : Nat), (2 : Nat), (3 : Nat), (4 : Nat), (5 : Nat)] (mrS l to)) ((fun (x : Nat) => T.ret ()) (0 : Nat))) ∧ ((0 : Nat) = (0 : Nat) ∧ List.length (mapU l to (List.length l)) = List.length (mapU l to (List.length l))) ∧ (List.length (mapU l to (List.length l)) = List.length (mapU l to (List.length l)) ∧ contLe (List.length (mapU l to (List.length l))) (2 : Nat) (cellsOf' encC (mapU l to (List.length l))) (cellsOf' encC (mapU l to (List.length l)))) ∧ True
theorem vcMr_eq (b1 : Bool) (b2 : Bool) (l : List Con) (to : List Int) : (ctrVC Tryd.prog (mrH b1 b2 l to) 45 [encCs b1 l, encUs b2 to] [] (conR (mapU l to l.length))) = vcMr b1 b2 l to := by kernel_rfl
end Go.Proofs.YtckklclehofddaaDoor

namespace Go.Proofs.YtckklclehofddaaDoor
open Go.Ax
set_option maxRecDepth 1000000
def wfC (l : List Con) : Prop := ∀ x ∈ l, offOk x.off
theorem wfC_at {l : List Con} (h : wfC l) {k : Nat} (hk : k < l.length) : offOk (l.getD k default).off := h _ (by simp [hk])
theorem mapU_step {l : List Con} {to : List Int} {k : Nat} (h : k < l.length) (ht : ¬ to.length = 0) : mapU l to (k + 1) = mapU l to k ++ [movC to (l[k]?.getD default)] := by
  unfold mapU
  rw [if_neg ht, if_neg ht]
  have : l.take (k + 1) = l.take k ++ [l[k]?.getD default] := by
    rw [List.take_add_one, List.getElem?_eq_getElem h]; rfl
  rw [this, List.map_append]; rfl
theorem mapU_len (l : List Con) (to : List Int) (k : Nat) : (mapU l to k).length ≤ l.length := by
  unfold mapU
  split <;> simp
  exact Nat.min_le_right _ _
theorem mapU_end {l : List Con} {to : List Int} {k : Nat} (h : l.length ≤ k) : mapU l to k = mapU l to l.length := by
  unfold mapU
  rw [List.take_of_length_le h, List.take_length]
theorem mp_loop (b1 b2 : Bool) (l : List Con) (to : List Int) (ht : 0 < to.length) (htl : to.length ≤ 9223372036854775806) (hl : l.length * 24 ≤ 140737488355200) (hw : wfC l) (k : Nat) : LoopOk Tryd.prog 22 6 (loopAt Tryd.prog 22 6) ⟨mpT b1 b2 l to k, mpM l to k, []⟩ (T.map (lout [0, 1, 2, 3, 4, 5] (mpS l to)) (.ret ())) := by
  refine loop_vcH (ht := mpHL b2 l to) (o := fun _ => .ret ()) Tryd.mixed (fun _ => rfl) (fun k => (vcMpL_eq b1 b2 l to k).mpr ?_) k
  unfold vcMpL
  have hlen := mapU_len l to k
  simp
  refine ⟨fun h => ?_, fun h => ?_⟩
  · have hwk := wfC_at hw h
    have e1 : IntKind.i64.wrap ((k : Int) + 1) = ((k + 1 : Nat) : Int) := by rw [wrap_i64 (by omega) (by omega)]; omega
    rw [e1]
    simp at hwk
    refine ⟨h, ⟨ht, htl, hwk.1, hwk.2⟩, ⟨by omega, by omega⟩, k + 1, by omega, ⟨⟨?_, rfl⟩, ?_⟩⟩
    all_goals rw [mapU_step h (by omega)]
    · simp
    · refine ⟨by simp, app_le (contLe_refl _ _ _) rfl fun j hj => ?_⟩
      exact enc_le (movC to (l[k]?.getD default)) j hj
  · rw [mapU_end h]
    exact ⟨rfl, contLe_refl _ _ _⟩
theorem mp_c (b1 b2 : Bool) (l : List Con) (to : List Int) (htl : to.length ≤ 9223372036854775806) (hl : l.length * 24 ≤ 140737488355200) (hw : wfC l) : (conR (mapU l to l.length)).Sat (ACall' Tryd.prog 22 [encCs b1 l, encUs b2 to] []) := by
  refine ctr_vc (ht := mpH b1 b2 l to) Tryd.mixed rfl ?_
  rw [vcMp_eq b1 b2 l to]
  unfold vcMp
  by_cases h0 : to.length = 0
  · simp [h0, mapU]
  · have lp := mp_loop b1 b2 l to (by omega) htl hl hw 0
    have h1 : ¬ ((to.length : Int) = 0) := by omega
    simp [h0, lp]
    have e0 : mapU l to 0 = [] := by unfold mapU; split <;> simp
    simp [e0]
theorem mr_loop (b1 b2 : Bool) (l : List Con) (to : List Int) (htl : to.length ≤ 9223372036854775806) (hl : l.length * 24 ≤ 140737488355200) (hw : wfC l) (k : Nat) : LoopOk Tryd.prog 45 3 (loopAt Tryd.prog 45 3) ⟨mrT b1 b2 l to k, mpM l to k, []⟩ (T.map (lout [0, 1, 2, 3, 4, 5] (mrS l to)) (.ret ())) := by
  refine loop_vcH (ht := mrHL b2 l to) (o := fun _ => .ret ()) Tryd.mixed (fun _ => rfl) (fun k => (vcMrL_eq b1 b2 l to k).mpr ?_) k
  unfold vcMrL
  have hlen := mapU_len l to k
  simp
  refine ⟨fun h => ⟨fun ht => ?_, fun ht => ?_⟩, fun h => ?_⟩
  · have ht' : 0 < to.length := by
      rcases Nat.eq_zero_or_pos to.length with h0 | h0
      · have := List.eq_nil_of_length_eq_zero h0; simp [this] at ht
      · exact h0
    have hwk := wfC_at hw h
    have e1 : IntKind.i64.wrap ((k : Int) + 1) = ((k + 1 : Nat) : Int) := by rw [wrap_i64 (by omega) (by omega)]; omega
    rw [e1]
    simp at hwk
    refine ⟨h, ⟨ht', htl, hwk.1, hwk.2⟩, ⟨by omega, by omega⟩, k + 1, by omega, ⟨⟨?_, rfl⟩, ?_⟩⟩
    all_goals rw [mapU_step h (by omega)]
    · simp
    · refine ⟨by simp, app_le (contLe_refl _ _ _) rfl fun j hj => ?_⟩
      exact enc_le (movC to (l[k]?.getD default)) j hj
  · have h0 : to.length = 0 := by simp [ht]
    simp [mapU, h0]
  · rw [mapU_end h]
    exact ⟨rfl, contLe_refl _ _ _⟩
theorem mr_c (b1 b2 : Bool) (l : List Con) (to : List Int) (htl : to.length ≤ 9223372036854775806) (hl : l.length * 24 ≤ 140737488355200) (hw : wfC l) : (conR (mapU l to l.length)).Sat (ACall' Tryd.prog 45 [encCs b1 l, encUs b2 to] []) := by
  refine ctr_vc (ht := mrH b1 b2 l to) Tryd.mixed rfl ?_
  rw [vcMr_eq b1 b2 l to]
  unfold vcMr
  have lp := mr_loop b1 b2 l to htl hl hw 0
  have e0 : mapU l to 0 = [] := by unfold mapU; split <;> simp
  simp [lp, e0]
end Go.Proofs.YtckklclehofddaaDoor

namespace Go.Proofs.YtckklclehofddaaDoor
open Go.Ax
set_option maxRecDepth 1000000
end Go.Proofs.YtckklclehofddaaDoor

namespace Go.Proofs.YtckklclehofddaaDoor
open Go.Ax
set_option maxRecDepth 1000000
theorem tagC (l : List Con) : ∀ k, k < l.length → ∀ j, j < 2 → tagT (cellsOf' encC l k j) = true := fun k _ j hj => by
  match j, hj with
  | 0, _ => rfl
  | 1, _ => rfl
noncomputable def mpC (b1 b2 : Bool) (l : List Con) (to : List Int) : Ctr Tryd.prog := ⟨22, [encCs b1 l, encUs b2 to], [], .need (to.length ≤ 9223372036854775806 ∧ l.length * 24 ≤ 140737488355200 ∧ wfC l) (conR (mapU l to l.length)), T.Sat.need fun h => mp_c b1 b2 l to h.1 h.2.1 h.2.2⟩
noncomputable def mrC (b1 b2 : Bool) (l : List Con) (to : List Int) : Ctr Tryd.prog := ⟨45, [encCs b1 l, encUs b2 to], [], .need (to.length ≤ 9223372036854775806 ∧ l.length * 24 ≤ 140737488355200 ∧ wfC l) (conR (mapU l to l.length)), T.Sat.need fun h => mr_c b1 b2 l to h.1 h.2.1 h.2.2⟩
end Go.Proofs.YtckklclehofddaaDoor

namespace Go.Proofs.YtckklclehofddaaDoor.P
open Go.Ax
set_option maxRecDepth 1000000
structure Producer where
  id : Int
  seq : Int
  here : Bool
  offset : Int
instance : Inhabited Producer := ⟨⟨0, 0, false, 0⟩⟩
def encP (x : Producer) : List AV := [.y (.int .u64 x.id), .y (.int .u64 x.seq), .y (.bool x.here), .y (.int .u64 x.offset)]
def encPs (b : Bool) (l : List Producer) : AV := .ys b 4 l.length (cellsOf' encP l)
theorem Tryd.mixed : Tryd.prog.follows .mixedOrders = true := by kernel_rfl
def okP (l : List Producer) (k : Nat) : Bool :=
  let x := l.getD k default
  !(x.id == 0 || !(decide (1 ≤ x.seq) && decide (x.seq ≤ 9223372036854775807)) || !x.here && x.offset != 0 || decide (0 < k) && decide (x.id ≤ (l.getD (k - 1) default).id))
def okFrom (l : List Producer) (k : Nat) : Bool := (List.range' k (l.length - k)).all (okP l)
def isTable (l : List Producer) : Bool := okFrom l 0 && decide (l.length ≤ 256)
theorem okFrom_end {l : List Producer} {k : Nat} (h : l.length ≤ k) : okFrom l k = true := by
  unfold okFrom
  rw [show l.length - k = 0 by omega]; rfl
theorem okFrom_step {l : List Producer} {k : Nat} (h : k < l.length) : okFrom l k = (okP l k && okFrom l (k + 1)) := by
  unfold okFrom
  rw [show l.length - k = (l.length - (k + 1)) + 1 by omega, List.range'_succ]; rfl
def tabT (b : Bool) (l : List Producer) (k : Nat) : List AV := mkT 50 [(0, encPs b l), (2, .s (.bool false)), (5, encPs b l), (6, .y (.int .i64 l.length)), (7, .y (.int .i64 k))]
def tabS (b : Bool) (l : List Producer) (r : Bool) : Exit × List AV × List Blk := match r with
  | true => (.exit 0, mkT 50 [(0, encPs b l), (2, .s (.bool false))], [])
  | false => (.ret, mkT 50 [(2, .s (.bool false))], [])
def tabO (l : List Producer) (k : Nat) : T Bool := .ite (okFrom l k) (.ret true) (.ret false)
def vcTableL (b : Bool) (l : List Producer) (k : Nat) : Prop :=
  (decide ((↑k : Int) < (↑(List.length l) : Int)) = true → (true && decide ((↑k : Int) < (↑(List.length l) : Int))) = true ∧ (((List.getD l (Int.toNat (↑k : Int)) (@default Producer instInhabitedProducer)).id == (0 : Int)) = true → (okFrom l k = true → False) ∧ (okFrom l k = false → (false = false ∧ True) ∧ True ∧ true = true)) ∧ (((List.getD l (Int.toNat (↑k : Int)) (@default Producer instInhabitedProducer)).id == (0 : Int)) = false → (decide ((1 : Int) ≤ (List.getD l (Int.toNat (↑k : Int)) (@default Producer instInhabitedProducer)).seq) = true → ((!decide ((List.getD l (Int.toNat (↑k : Int)) (@default Producer instInhabitedProducer)).seq ≤ (9223372036854775807 : Int))) = true → (okFrom l k = true → False) ∧ (okFrom l k = false → (false = false ∧ True) ∧ True ∧ true = true)) ∧ ((!decide ((List.getD l (Int.toNat (↑k : Int)) (@default Producer instInhabitedProducer)).seq ≤ (9223372036854775807 : Int))) = false → ((!(List.getD l (Int.toNat (↑k : Int)) (@default Producer instInhabitedProducer)).here) = true → (((List.getD l (Int.toNat (↑k : Int)) (@default Producer instInhabitedProducer)).offset != (0 : Int)) = true → (okFrom l k = true → False) ∧ (okFrom l k = false → (false = false ∧ True) ∧ True ∧ true = true)) ∧ (((List.getD l (Int.toNat (↑k : Int)) (@default Producer instInhabitedProducer)).offset != (0 : Int)) = false → (decide ((0 : Int) < (↑k : Int)) = true → (decide ((0 : Int) ≤ IntKind.wrap IntKind.i64 ((↑k : Int) - (1 : Int))) && decide (IntKind.wrap IntKind.i64 ((↑k : Int) - (1 : Int)) < (↑(List.length l) : Int))) = true ∧ (decide ((List.getD l (Int.toNat (↑k : Int)) (@default Producer instInhabitedProducer)).id ≤ (List.getD l (Int.toNat (IntKind.wrap IntKind.i64 ((↑k : Int) - (1 : Int)))) (@default Producer instInhabitedProducer)).id) = true → (okFrom l k = true → False) ∧ (okFrom l k = false → (false = false ∧ True) ∧ True ∧ true = true)) ∧ (decide ((List.getD l (Int.toNat (↑k : Int)) (@default Producer instInhabitedProducer)).id ≤ (List.getD l (Int.toNat (IntKind.wrap IntKind.i64 ((↑k : Int) - (1 : Int)))) (@default Producer instInhabitedProducer)).id) = false → ∃ (j : Nat), List.length l - j < List.length l - k ∧ (((b = b ∧ List.length l = List.length l ∧ contLe (List.length l) (4 : Nat) (cellsOf' encP l) (cellsOf' encP l)) ∧ false = false ∧ (b = b ∧ List.length l = List.length l ∧ contLe (List.length l) (4 : Nat) (cellsOf' encP l) (cellsOf' encP l)) ∧ (↑(List.length l) : Int) = (↑(List.length l) : Int) ∧ IntKind.wrap IntKind.i64 ((↑k : Int) + (1 : Int)) = (↑j : Int) ∧ True) ∧ True ∧ true = true) ∧ true = true ∧ (okFrom l j = true → (okFrom l k = true → true = true) ∧ (okFrom l k = false → true = false)) ∧ (okFrom l j = false → (okFrom l k = true → false = true) ∧ (okFrom l k = false → false = false)))) ∧ (decide ((0 : Int) < (↑k : Int)) = false → ∃ (j : Nat), List.length l - j < List.length l - k ∧ (((b = b ∧ List.length l = List.length l ∧ contLe (List.length l) (4 : Nat) (cellsOf' encP l) (cellsOf' encP l)) ∧ false = false ∧ (b = b ∧ List.length l = List.length l ∧ contLe (List.length l) (4 : Nat) (cellsOf' encP l) (cellsOf' encP l)) ∧ (↑(List.length l) : Int) = (↑(List.length l) : Int) ∧ IntKind.wrap IntKind.i64 ((↑k : Int) + (1 : Int)) = (↑j : Int) ∧ True) ∧ True ∧ true = true) ∧ true = true ∧ (okFrom l j = true → (okFrom l k = true → true = true) ∧ (okFrom l k = false → true = false)) ∧ (okFrom l j = false → (okFrom l k = true → false = true) ∧ (okFrom l k = false → false = false))))) ∧ ((!(List.getD l (Int.toNat (↑k : Int)) (@default Producer instInhabitedProducer)).here) = false → (decide ((0 : Int) < (↑k : Int)) = true → (decide ((0 : Int) ≤ IntKind.wrap IntKind.i64 ((↑k : Int) - (1 : Int))) && decide (IntKind.wrap IntKind.i64 ((↑k : Int) - (1 : Int)) < (↑(List.length l) : Int))) = true ∧ (decide ((List.getD l (Int.toNat (↑k : Int)) (@default Producer instInhabitedProducer)).id ≤ (List.getD l (Int.toNat (IntKind.wrap IntKind.i64 ((↑k : Int) - (1 : Int)))) (@default Producer instInhabitedProducer)).id) = true → (okFrom l k = true → False) ∧ (okFrom l k = false → (false = false ∧ True) ∧ True ∧ true = true)) ∧ (decide ((List.getD l (Int.toNat (↑k : Int)) (@default Producer instInhabitedProducer)).id ≤ (List.getD l (Int.toNat (IntKind.wrap IntKind.i64 ((↑k : Int) - (1 : Int)))) (@default Producer instInhabitedProducer)).id) = false → ∃ (j : Nat), List.length l - j < List.length l - k ∧ (((b = b ∧ List.length l = List.length l ∧ contLe (List.length l) (4 : Nat) (cellsOf' encP l) (cellsOf' encP l)) ∧ false = false ∧ (b = b ∧ List.length l = List.length l ∧ contLe (List.length l) (4 : Nat) (cellsOf' encP l) (cellsOf' encP l)) ∧ (↑(List.length l) : Int) = (↑(List.length l) : Int) ∧ IntKind.wrap IntKind.i64 ((↑k : Int) + (1 : Int)) = (↑j : Int) ∧ True) ∧ True ∧ true = true) ∧ true = true ∧ (okFrom l j = true → (okFrom l k = true → true = true) ∧ (okFrom l k = false → true = false)) ∧ (okFrom l j = false → (okFrom l k = true → false = true) ∧ (okFrom l k = false → false = false)))) ∧ (decide ((0 : Int) < (↑k : Int)) = false → ∃ (j : Nat), List.length l - j < List.length l - k ∧ (((b = b ∧ List.length l = List.length l ∧ contLe (List.length l) (4 : Nat) (cellsOf' encP l) (cellsOf' encP l)) ∧ false = false ∧ (b = b ∧ List.length l = List.length l ∧ contLe (List.length l) (4 : Nat) (cellsOf' encP l) (cellsOf' encP l)) ∧ (↑(List.length l) : Int) = (↑(List.length l) : Int) ∧ IntKind.wrap IntKind.i64 ((↑k : Int) + (1 : Int)) = (↑j : Int) ∧ True) ∧ True ∧ true = true) ∧ true = true ∧ (okFrom l j = true → (okFrom l k = true → true = true) ∧ (okFrom l k = false → true = false)) ∧ (okFrom l j = false → (okFrom l k = true → false = true) ∧ (okFrom l k = false → false = false)))))) ∧ (decide ((1 : Int) ≤ (List.getD l (Int.toNat (↑k : Int)) (@default Producer instInhabitedProducer)).seq) = false → (okFrom l k = true → False) ∧ (okFrom l k = false → (false = false ∧ True) ∧ True ∧ true = true)))) ∧ (decide ((↑k : Int) < (↑(List.length l) : Int)) = false → (okFrom l k = true → ((b = b ∧ List.length l = List.length l ∧ contLe (List.length l) (4 : Nat) (cellsOf' encP l) (cellsOf' encP l)) ∧ false = false ∧ True) ∧ True ∧ true = true) ∧ (okFrom l k = false → False))
theorem vcTableL_eq (b : Bool) (l : List Producer) (k : Nat) : (loopVC Tryd.prog (hT _) 48 2 (fun k => l.length - k) (tabT b l) (fun _ => []) [0] (tabO l) (tabS b l) k) = vcTableL b l k := by kernel_rfl
theorem table_loop (b : Bool) (l : List Producer) (hl : l.length ≤ 9223372036854775806) (k : Nat) : LoopOk Tryd.prog 48 2 (loopAt Tryd.prog 48 2) ⟨tabT b l k, [], []⟩ ((tabO l k).map (lout [0] (tabS b l))) := by
  refine loop_vc Tryd.mixed (fun _ => rfl) (fun k => (vcTableL_eq b l k).mpr ?_) k
  unfold vcTableL
  simp
  refine ⟨fun h => ?_, fun h => by simp [okFrom_end h]⟩
  rw [okFrom_step h]
  simp (disch := omega) only [wrap_i64]
  simp [okP, cast_succ_eq]
  grind
noncomputable def tabH (b : Bool) (l : List Producer) : HintsT Tryd.prog := hh _ (lp1 48 2 (jobOf (tabT b l) (fun _ => []) [0] (tabO l) (tabS b l) 0) noLp) noCs noOp
def tabR (l : List Producer) : T An := .ret (.y (.bool (isTable l)), [], [])
def vcTable (b : Bool) (l : List Producer) : Prop :=
  (((b = b ∧ List.length l = List.length l ∧ contLe (List.length l) (4 : Nat) (cellsOf' encP l) (cellsOf' encP l)) ∧ false = false ∧ (b = b ∧ List.length l = List.length l ∧ contLe (List.length l) (4 : Nat) (cellsOf' encP l) (cellsOf' encP l)) ∧ (↑(List.length l) : Int) = (↑(List.length l) : Int) ∧ (0 : Int) = (0 : Int) ∧ True) ∧ True ∧ true = true) ∧ LoopOk Tryd.prog (48 : Nat) (2 : Nat) (loopAt Tryd.prog (48 : Nat) (2 : Nat)) { t := tabT b l (0 : Nat), m := [], mv := [] : St } (T.map (lout [(0 : Nat)] (tabS b l)) (tabO l (0 : Nat))) ∧ (okFrom l (0 : Nat) = true → decide ((↑(List.length l) : Int) ≤ (256 : Int)) = isTable l ∧ True) ∧ (okFrom l (0 : Nat) = false → false = isTable l ∧ True)
theorem vcTable_eq (b : Bool) (l : List Producer) : (ctrVC Tryd.prog (tabH b l) 48 [encPs b l] [] (tabR l)) = vcTable b l := by kernel_rfl
theorem table_c (b : Bool) (l : List Producer) (hl : l.length ≤ 9223372036854775806) : (tabR l).Sat (ACall' Tryd.prog 48 [encPs b l] []) := by
  refine ctr_vc (ht := (tabH b l)) Tryd.mixed rfl ?_
  rw [vcTable_eq b l]
  unfold vcTable
  have := table_loop b l hl 0
  simp [isTable, this]
  grind
def tabT2 (b : Bool) (l : List Producer) (k : Nat) : List AV := mkT 69 [(0, encPs b l), (2, .s (.bool false)), (3, .y (.int .i64 k))]
def tabS2 (b : Bool) (l : List Producer) (r : Bool) : Exit × List AV × List Blk := match r with
  | true => (.exit 0, mkT 69 [(0, encPs b l)], [])
  | false => (.ret, mkT 69 [(2, .s (.bool false))], [])
def vcTableL2 (b : Bool) (l : List Producer) (k : Nat) : Prop :=
  (decide ((↑k : Int) < (↑(List.length l) : Int)) = true → (true && decide ((↑k : Int) < (↑(List.length l) : Int))) = true ∧ (((List.getD l (Int.toNat (↑k : Int)) (@default Producer instInhabitedProducer)).id == (0 : Int)) = true → (okFrom l k = true → False) ∧ (okFrom l k = false → (false = false ∧ True) ∧ True ∧ true = true)) ∧ (((List.getD l (Int.toNat (↑k : Int)) (@default Producer instInhabitedProducer)).id == (0 : Int)) = false → (true && decide ((↑k : Int) < (↑(List.length l) : Int))) = true ∧ (decide ((List.getD l (Int.toNat (↑k : Int)) (@default Producer instInhabitedProducer)).seq < (1 : Int)) = true → (okFrom l k = true → False) ∧ (okFrom l k = false → (false = false ∧ True) ∧ True ∧ true = true)) ∧ (decide ((List.getD l (Int.toNat (↑k : Int)) (@default Producer instInhabitedProducer)).seq < (1 : Int)) = false → (true && decide ((↑k : Int) < (↑(List.length l) : Int))) = true ∧ (decide ((9223372036854775807 : Int) < (List.getD l (Int.toNat (↑k : Int)) (@default Producer instInhabitedProducer)).seq) = true → (okFrom l k = true → False) ∧ (okFrom l k = false → (false = false ∧ True) ∧ True ∧ true = true)) ∧ (decide ((9223372036854775807 : Int) < (List.getD l (Int.toNat (↑k : Int)) (@default Producer instInhabitedProducer)).seq) = false → (true && decide ((↑k : Int) < (↑(List.length l) : Int))) = true ∧ ((!(List.getD l (Int.toNat (↑k : Int)) (@default Producer instInhabitedProducer)).here) = true → (true && decide ((↑k : Int) < (↑(List.length l) : Int))) = true ∧ (((List.getD l (Int.toNat (↑k : Int)) (@default Producer instInhabitedProducer)).offset != (0 : Int)) = true → (okFrom l k = true → False) ∧ (okFrom l k = false → (false = false ∧ True) ∧ True ∧ true = true)) ∧ (((List.getD l (Int.toNat (↑k : Int)) (@default Producer instInhabitedProducer)).offset != (0 : Int)) = false → (decide ((0 : Int) < (↑k : Int)) = true → (decide ((0 : Int) ≤ IntKind.wrap IntKind.i64 ((↑k : Int) - (1 : Int))) && decide (IntKind.wrap IntKind.i64 ((↑k : Int) - (1 : Int)) < (↑(List.length l) : Int))) = true ∧ (true && decide ((↑k : Int) < (↑(List.length l) : Int))) = true ∧ (decide ((List.getD l (Int.toNat (↑k : Int)) (@default Producer instInhabitedProducer)).id ≤ (List.getD l (Int.toNat (IntKind.wrap IntKind.i64 ((↑k : Int) - (1 : Int)))) (@default Producer instInhabitedProducer)).id) = true → (okFrom l k = true → False) ∧ (okFrom l k = false → (false = false ∧ True) ∧ True ∧ true = true)) ∧ (decide ((List.getD l (Int.toNat (↑k : Int)) (@default Producer instInhabitedProducer)).id ≤ (List.getD l (Int.toNat (IntKind.wrap IntKind.i64 ((↑k : Int) - (1 : Int)))) (@default Producer instInhabitedProducer)).id) = false → ∃ (j : Nat), List.length l - j < List.length l - k ∧ (((b = b ∧ List.length l = List.length l ∧ contLe (List.length l) (4 : Nat) (cellsOf' encP l) (cellsOf' encP l)) ∧ false = false ∧ IntKind.wrap IntKind.i64 ((↑k : Int) + (1 : Int)) = (↑j : Int) ∧ True) ∧ True ∧ true = true) ∧ true = true ∧ (okFrom l j = true → (okFrom l k = true → true = true) ∧ (okFrom l k = false → true = false)) ∧ (okFrom l j = false → (okFrom l k = true → false = true) ∧ (okFrom l k = false → false = false)))) ∧ (decide ((0 : Int) < (↑k : Int)) = false → ∃ (j : Nat), List.length l - j < List.length l - k ∧ (((b = b ∧ List.length l = List.length l ∧ contLe (List.length l) (4 : Nat) (cellsOf' encP l) (cellsOf' encP l)) ∧ false = false ∧ IntKind.wrap IntKind.i64 ((↑k : Int) + (1 : Int)) = (↑j : Int) ∧ True) ∧ True ∧ true = true) ∧ true = true ∧ (okFrom l j = true → (okFrom l k = true → true = true) ∧ (okFrom l k = false → true = false)) ∧ (okFrom l j = false → (okFrom l k = true → false = true) ∧ (okFrom l k = false → false = false))))) ∧ ((!(List.getD l (Int.toNat (↑k : Int)) (@default Producer instInhabitedProducer)).here) = false → (decide ((0 : Int) < (↑k : Int)) = true → (decide ((0 : Int) ≤ IntKind.wrap IntKind.i64 ((↑k : Int) - (1 : Int))) && decide (IntKind.wrap IntKind.i64 ((↑k : Int) - (1 : Int)) < (↑(List.length l) : Int))) = true ∧ (true && decide ((↑k : Int) < (↑(List.length l) : Int))) = true ∧ (decide ((List.getD l (Int.toNat (↑k : Int)) (@default Producer instInhabitedProducer)).id ≤ (List.getD l (Int.toNat (IntKind.wrap IntKind.i64 ((↑k : Int) - (1 : Int)))) (@default Producer instInhabitedProducer)).id) = true → (okFrom l k = true → False) ∧ (okFrom l k = false → (false = false ∧ True) ∧ True ∧ true = true)) ∧ (decide ((List.getD l (Int.toNat (↑k : Int)) (@default Producer instInhabitedProducer)).id ≤ (List.getD l (Int.toNat (IntKind.wrap IntKind.i64 ((↑k : Int) - (1 : Int)))) (@default Producer instInhabitedProducer)).id) = false → ∃ (j : Nat), List.length l - j < List.length l - k ∧ (((b = b ∧ List.length l = List.length l ∧ contLe (List.length l) (4 : Nat) (cellsOf' encP l) (cellsOf' encP l)) ∧ false = false ∧ IntKind.wrap IntKind.i64 ((↑k : Int) + (1 : Int)) = (↑j : Int) ∧ True) ∧ True ∧ true = true) ∧ true = true ∧ (okFrom l j = true → (okFrom l k = true → true = true) ∧ (okFrom l k = false → true = false)) ∧ (okFrom l j = false → (okFrom l k = true → false = true) ∧ (okFrom l k = false → false = false)))) ∧ (decide ((0 : Int) < (↑k : Int)) = false → ∃ (j : Nat), List.length l - j < List.length l - k ∧ (((b = b ∧ List.length l = List.length l ∧ contLe (List.length l) (4 : Nat) (cellsOf' encP l) (cellsOf' encP l)) ∧ false = false ∧ IntKind.wrap IntKind.i64 ((↑k : Int) + (1 : Int)) = (↑j : Int) ∧ True) ∧ True ∧ true = true) ∧ true = true ∧ (okFrom l j = true → (okFrom l k = true → true = true) ∧ (okFrom l k = false → true = false)) ∧ (okFrom l j = false → (okFrom l k = true → false = true) ∧ (okFrom l k = false → false = false)))))))) ∧ (decide ((↑k : Int) < (↑(List.length l) : Int)) = false → (okFrom l k = true → ((b = b ∧ List.length l = List.length l ∧ contLe (List.length l) (4 : Nat) (cellsOf' encP l) (cellsOf' encP l)) ∧ True) ∧ True ∧ true = true) ∧ (okFrom l k = false → False))
theorem vcTableL2_eq (b : Bool) (l : List Producer) (k : Nat) : (loopVC Tryd.prog (hT _) 38 4 (fun k => l.length - k) (tabT2 b l) (fun _ => []) [0] (tabO l) (tabS2 b l) k) = vcTableL2 b l k := by kernel_rfl
theorem table_loop2 (b : Bool) (l : List Producer) (hl : l.length ≤ 9223372036854775806) (k : Nat) : LoopOk Tryd.prog 38 4 (loopAt Tryd.prog 38 4) ⟨tabT2 b l k, [], []⟩ ((tabO l k).map (lout [0] (tabS2 b l))) := by
  refine loop_vc Tryd.mixed (fun _ => rfl) (fun k => (vcTableL2_eq b l k).mpr ?_) k
  unfold vcTableL2
  simp
  refine ⟨fun h => ?_, fun h => by simp [okFrom_end h]⟩
  rw [okFrom_step h]
  simp (disch := omega) only [wrap_i64]
  simp [okP, cast_succ_eq]
  grind
noncomputable def tabH2 (b : Bool) (l : List Producer) : HintsT Tryd.prog := hh _ (lp1 38 4 (jobOf (tabT2 b l) (fun _ => []) [0] (tabO l) (tabS2 b l) 0) noLp) noCs noOp
def vcTable2 (b : Bool) (l : List Producer) : Prop :=
  (decide ((256 : Int) < (↑(List.length l) : Int)) = true → false = isTable l ∧ True) ∧ (decide ((256 : Int) < (↑(List.length l) : Int)) = false → (((b = b ∧ List.length l = List.length l ∧ contLe (List.length l) (4 : Nat) (cellsOf' encP l) (cellsOf' encP l)) ∧ false = false ∧ (0 : Int) = (0 : Int) ∧ True) ∧ True ∧ true = true) ∧ LoopOk Tryd.prog (38 : Nat) (4 : Nat) (loopAt Tryd.prog (38 : Nat) (4 : Nat)) { t := tabT2 b l (0 : Nat), m := [], mv := [] : St } (T.map (lout [(0 : Nat)] (tabS2 b l)) (tabO l (0 : Nat))) ∧ (okFrom l (0 : Nat) = true → true = isTable l ∧ True) ∧ (okFrom l (0 : Nat) = false → false = isTable l ∧ True))
theorem vcTable2_eq (b : Bool) (l : List Producer) : (ctrVC Tryd.prog (tabH2 b l) 38 [encPs b l] [] (tabR l)) = vcTable2 b l := by kernel_rfl
theorem table2_c (b : Bool) (l : List Producer) (hl : l.length ≤ 9223372036854775806) : (tabR l).Sat (ACall' Tryd.prog 38 [encPs b l] []) := by
  refine ctr_vc (ht := (tabH2 b l)) Tryd.mixed rfl ?_
  rw [vcTable2_eq b l]
  unfold vcTable2
  have := table_loop2 b l hl 0
  simp [isTable, this]
  refine ⟨fun h _ => by omega, fun h => ⟨fun h2 => ⟨h2, by omega⟩, fun h2 h3 => by simp [h2] at h3⟩⟩
end Go.Proofs.YtckklclehofddaaDoor.P

namespace Go.Proofs.YtckklclehofddaaDoor.P
open Go.Ax
set_option maxRecDepth 1000000
def has (id : Int) (x : Producer) : Bool := x.id == id
def findD (l : List Producer) (id : Int) : Producer := (l.find? (has id)).getD default
def findI (l : List Producer) (id : Int) : Bool := (l.find? (has id)).isSome
def idxZ (l : List Producer) (id : Int) : Int := if findI l id then (l.findIdx (has id) : Nat) else -1
def idxR (l : List Producer) (id : Int) : T An := .ret (.y (.int .i64 (idxZ l id)), [], [])
end Go.Proofs.YtckklclehofddaaDoor.P

namespace Go.Proofs.YtckklclehofddaaDoor.P
open Go.Ax
set_option maxRecDepth 1000000
def clnR (l : List Producer) : T An := .ret (.own 0 4 0 l.length, [.row 46 4 l.length none (cellsOf' encP l)], [])
end Go.Proofs.YtckklclehofddaaDoor.P

namespace Go.Proofs.YtckklclehofddaaDoor.P
open Go.Ax
set_option maxRecDepth 1000000
def keep (x : Producer) (y : Producer) : Bool := !(y.id == x.id)
def oth (l : List Producer) (x : Producer) : List Producer := l.filter (keep x)
structure DS (l : List Producer) (x : Producer) where
  i : Nat
  j : Nat
  L : List Producer
  len : L.length = l.length
  ij : i ≤ j
  jl : j ≤ l.length
  pre : L.take i = (l.take j).filter (keep x)
  suf : L.drop j = l.drop j
theorem DS.at {l : List Producer} {x : Producer} (q : DS l x) : q.L[q.j]? = l[q.j]? := by
  have := congrArg (fun r : List Producer => r[0]?) q.suf
  simpa [List.getElem?_drop] using this
theorem take_snoc (l : List Producer) (j : Nat) (h : j < l.length) : l.take (j + 1) = l.take j ++ [l[j]?.getD default] := by
  rw [List.take_succ_eq_append_getElem h]; simp [h]
def DS.put {l : List Producer} {x : Producer} (q : DS l x) (h : q.j < l.length) (hk : ¬ (l[q.j]?.getD default).id = x.id) : DS l x where
  i := q.i + 1
  j := q.j + 1
  L := q.L.set q.i (l[q.j]?.getD default)
  len := by simp [q.len]
  ij := by have := q.ij; omega
  jl := by omega
  pre := by
    have h1 := q.ij
    have h2 := q.len
    have h3 : q.i < q.L.length := by omega
    have hk' : keep x (l[q.j]?.getD default) = true := by unfold keep; simpa using hk
    rw [take_snoc l q.j h, List.filter_append, ← q.pre, List.take_succ_eq_append_getElem (by simpa using h3), List.filter_cons_of_pos hk', List.filter_nil]
    simp [List.take_set_of_le]
  suf := by
    have h1 := q.ij
    have h2 := congrArg (fun r : List Producer => r.drop 1) q.suf
    simp only [List.drop_drop] at h2
    rw [List.drop_set_of_lt (by omega)]
    exact h2
def DS.skip {l : List Producer} {x : Producer} (q : DS l x) (h : q.j < l.length) (hk : (l[q.j]?.getD default).id = x.id) : DS l x where
  i := q.i
  j := q.j + 1
  L := q.L
  len := q.len
  ij := by have := q.ij; omega
  jl := by omega
  pre := by
    have hk' : ¬ keep x (l[q.j]?.getD default) = true := by unfold keep; simpa using hk
    rw [take_snoc l q.j h, List.filter_append, ← q.pre, List.filter_cons_of_neg hk', List.filter_nil, List.append_nil]
  suf := by
    have h2 := congrArg (fun r : List Producer => r.drop 1) q.suf
    simpa only [List.drop_drop] using h2
def delM (l : List Producer) (x : Producer) (q : DS l x) : List Blk := [.box 46 (encP x), .row 46 4 l.length none (cellsOf' encP q.L)]
end Go.Proofs.YtckklclehofddaaDoor.P

namespace Go.Proofs.YtckklclehofddaaDoor.P
open Go.Ax
set_option maxRecDepth 1000000
def rising (l : List Producer) : Prop := ∀ i j, i < j → j < l.length → (l.getD i default).id < (l.getD j default).id
def below (l : List Producer) (id : Int) : Nat := (l.takeWhile (fun y => decide (y.id < id))).length
theorem rising_le {l : List Producer} (h : rising l) {i j : Nat} (hij : i ≤ j) (hj : j < l.length) : (l.getD i default).id ≤ (l.getD j default).id := by
  rcases Nat.lt_or_ge i j with h1 | h1
  · exact Int.le_of_lt (h i j h1 hj)
  · obtain rfl : i = j := by omega
    exact Int.le_refl _
structure BS (l : List Producer) (x : Producer) where
  i : Nat
  j : Nat
  ij : i ≤ j
  jl : j ≤ l.length
  lo : ∀ k, k < i → (l.getD k default).id < x.id
  hi : ∀ k, j ≤ k → k < l.length → x.id ≤ (l.getD k default).id
def BS.up {l : List Producer} {x : Producer} (hr : rising l) (q : BS l x) (m : Nat) (h2 : m < q.j) (hx : (l.getD m default).id < x.id) : BS l x where
  i := m + 1
  j := q.j
  ij := by omega
  jl := q.jl
  lo := fun k hk => by
    have := q.jl
    have := rising_le hr (i := k) (j := m) (by omega) (by omega)
    omega
  hi := q.hi
def bsF (l : List Producer) (x : Producer) : Bool := decide (below l x.id < l.length) && (l.getD (below l x.id) default).id == x.id
def putL (l : List Producer) (x : Producer) : List Producer := (oth l x).take (below (oth l x) x.id) ++ x :: (oth l x).drop (below (oth l x) x.id)
end Go.Proofs.YtckklclehofddaaDoor.P

namespace Go.Proofs.YtckklclehofddaaDoor.P
open Go.Ax
set_option maxRecDepth 1000000
theorem okFrom_all {l : List Producer} : ∀ (n k : Nat), l.length - k = n → okFrom l k = true → ∀ j, k ≤ j → j < l.length → okP l j = true := by
  intro n
  induction n with
  | zero => intro k hk _ j h1 h2; omega
  | succ n ih =>
    intro k hk h j h1 h2
    rw [okFrom_step (by omega), Bool.and_eq_true] at h
    rcases Nat.lt_or_ge k j with h3 | h3
    · exact ih (k + 1) (by omega) h.2 j (by omega) h2
    · obtain rfl : j = k := by omega
      exact h.1
theorem table_rising {l : List Producer} (h : isTable l = true) : rising l := by
  unfold isTable at h
  rw [Bool.and_eq_true] at h
  have key : ∀ j, 0 < j → j < l.length → (l.getD (j - 1) default).id < (l.getD j default).id := by
    intro j h1 h2
    have := okFrom_all _ 0 rfl h.1 j (Nat.zero_le _) h2
    simp [okP] at this
    rcases this.2 with h3 | h3
    · omega
    · simpa using h3
  have : ∀ d i, i + d + 1 < l.length → (l.getD i default).id < (l.getD (i + d + 1) default).id := by
    intro d
    induction d with
    | zero => intro i hi; exact key (i + 1) (by omega) hi
    | succ d ih => intro i hi; exact Int.lt_trans (ih i (by omega)) (key (i + (d + 1) + 1) (by omega) hi)
  intro i j hij hj
  obtain ⟨d, rfl⟩ : ∃ d, j = i + d + 1 := ⟨j - i - 1, by omega⟩
  exact this d i hj
end Go.Proofs.YtckklclehofddaaDoor.P

namespace Go.Proofs.YtckklclehofddaaDoor.P
open Go.Ax
set_option maxRecDepth 1000000
def eqP (x y : Producer) : Bool := x.id == y.id && (x.seq == y.seq && (x.here == y.here && (x.offset == y.offset && true)))
def sameFrom (a b : List Producer) (k : Nat) : Bool := (List.range' k (a.length - k)).all fun j => eqP (a.getD j default) (b.getD j default)
def sameP (a b : List Producer) : Bool := a.length == b.length && sameFrom a b 0
theorem sameFrom_end {a b : List Producer} {k : Nat} (h : a.length ≤ k) : sameFrom a b k = true := by
  unfold sameFrom
  rw [show a.length - k = 0 by omega]; rfl
theorem sameFrom_step {a b : List Producer} {k : Nat} (h : k < a.length) : sameFrom a b k = (eqP (a.getD k default) (b.getD k default) && sameFrom a b (k + 1)) := by
  unfold sameFrom
  rw [show a.length - k = (a.length - (k + 1)) + 1 by omega, List.range'_succ]; rfl
def smT (b1 b2 : Bool) (a b : List Producer) (k : Nat) : List AV := mkT 26 [(0, encPs b1 a), (1, encPs b2 b), (4, .s (.bool false)), (5, .y (.int .i64 k))]
def smS (r : Bool) : Exit × List AV × List Blk := match r with
  | true => (.exit 0, mkT 26 [], [])
  | false => (.ret, mkT 26 [(4, .s (.bool false))], [])
def smO (a b : List Producer) (k : Nat) : T Bool := .ite (sameFrom a b k) (.ret true) (.ret false)
def vcSameL (b1 : Bool) (b2 : Bool) (a : List Producer) (b : List Producer) (k : Nat) : Prop :=
  (decide ((↑k : Int) < (↑(List.length a) : Int)) = true → (true && decide ((↑k : Int) < (↑(List.length a) : Int))) = true ∧ (true && decide ((↑k : Int) < (↑(List.length b) : Int))) = true ∧ ((!((List.getD a (Int.toNat (↑k : Int)) (@default Producer instInhabitedProducer)).id == (List.getD b (Int.toNat (↑k : Int)) (@default Producer instInhabitedProducer)).id && ((List.getD a (Int.toNat (↑k : Int)) (@default Producer instInhabitedProducer)).seq == (List.getD b (Int.toNat (↑k : Int)) (@default Producer instInhabitedProducer)).seq && ((List.getD a (Int.toNat (↑k : Int)) (@default Producer instInhabitedProducer)).here == (List.getD b (Int.toNat (↑k : Int)) (@default Producer instInhabitedProducer)).here && ((List.getD a (Int.toNat (↑k : Int)) (@default Producer instInhabitedProducer)).offset == (List.getD b (Int.toNat (↑k : Int)) (@default Producer instInhabitedProducer)).offset && true))))) = true → (sameFrom a b k = true → False) ∧ (sameFrom a b k = false → (false = false ∧ True) ∧ True ∧ true = true)) ∧ ((!((List.getD a (Int.toNat (↑k : Int)) (@default Producer instInhabitedProducer)).id == (List.getD b (Int.toNat (↑k : Int)) (@default Producer instInhabitedProducer)).id && ((List.getD a (Int.toNat (↑k : Int)) (@default Producer instInhabitedProducer)).seq == (List.getD b (Int.toNat (↑k : Int)) (@default Producer instInhabitedProducer)).seq && ((List.getD a (Int.toNat (↑k : Int)) (@default Producer instInhabitedProducer)).here == (List.getD b (Int.toNat (↑k : Int)) (@default Producer instInhabitedProducer)).here && ((List.getD a (Int.toNat (↑k : Int)) (@default Producer instInhabitedProducer)).offset == (List.getD b (Int.toNat (↑k : Int)) (@default Producer instInhabitedProducer)).offset && true))))) = false → ∃ (j : Nat), List.length a - j < List.length a - k ∧ (((b1 = b1 ∧ List.length a = List.length a ∧ contLe (List.length a) (4 : Nat) (cellsOf' encP a) (cellsOf' encP a)) ∧ (b2 = b2 ∧ List.length b = List.length b ∧ contLe (List.length b) (4 : Nat) (cellsOf' encP b) (cellsOf' encP b)) ∧ false = false ∧ IntKind.wrap IntKind.i64 ((↑k : Int) + (1 : Int)) = (↑j : Int) ∧ True) ∧ True ∧ true = true) ∧ true = true ∧ (sameFrom a b j = true → (sameFrom a b k = true → true = true) ∧ (sameFrom a b k = false → true = false)) ∧ (sameFrom a b j = false → (sameFrom a b k = true → false = true) ∧ (sameFrom a b k = false → false = false)))) ∧ (decide ((↑k : Int) < (↑(List.length a) : Int)) = false → (sameFrom a b k = true → True ∧ True ∧ true = true) ∧ (sameFrom a b k = false → False))
theorem vcSameL_eq (b1 : Bool) (b2 : Bool) (a : List Producer) (b : List Producer) (k : Nat) : (loopVC Tryd.prog (hT _) 27 4 (fun k => a.length - k) (smT b1 b2 a b) (fun _ => []) [] (smO a b) smS k) = vcSameL b1 b2 a b k := by kernel_rfl
theorem same_loop (b1 b2 : Bool) (a b : List Producer) (hl : a.length ≤ 9223372036854775806) (he : a.length = b.length) (k : Nat) : LoopOk Tryd.prog 27 4 (loopAt Tryd.prog 27 4) ⟨smT b1 b2 a b k, [], []⟩ ((smO a b k).map (lout [] smS)) := by
  refine loop_vc Tryd.mixed (fun _ => rfl) (fun k => (vcSameL_eq b1 b2 a b k).mpr ?_) k
  unfold vcSameL
  simp
  refine ⟨fun h => ?_, fun h => by simp [sameFrom_end h]⟩
  rw [sameFrom_step h]
  simp (disch := omega) only [wrap_i64]
  simp [eqP, cast_succ_eq]
  generalize a[k]?.getD default = x
  generalize b[k]?.getD default = y
  grind
def smR (a b : List Producer) : T An := .ret (.y (.bool (sameP a b)), [], [])
noncomputable def smH (b1 b2 : Bool) (a b : List Producer) : HintsT Tryd.prog := hh _ (lp1 27 4 (jobOf (smT b1 b2 a b) (fun _ => []) [] (smO a b) smS 0) noLp) noCs noOp
def vcSame (b1 : Bool) (b2 : Bool) (a : List Producer) (b : List Producer) : Prop :=
  (((↑(List.length a) : Int) != (↑(List.length b) : Int)) = true → false = sameP a b ∧ True) ∧ (((↑(List.length a) : Int) != (↑(List.length b) : Int)) = false → (((b1 = b1 ∧ List.length a = List.length a ∧ contLe (List.length a) (4 : Nat) (cellsOf' encP a) (cellsOf' encP a)) ∧ (b2 = b2 ∧ List.length b = List.length b ∧ contLe (List.length b) (4 : Nat) (cellsOf' encP b) (cellsOf' encP b)) ∧ false = false ∧ (0 : Int) = (0 : Int) ∧ True) ∧ True ∧ true = true) ∧ LoopOk Tryd.prog (27 : Nat) (4 : Nat) (loopAt Tryd.prog (27 : Nat) (4 : Nat)) { t := smT b1 b2 a b (0 : Nat), m := [], mv := [] : St } (T.map (lout [] smS) (smO a b (0 : Nat))) ∧ (sameFrom a b (0 : Nat) = true → true = sameP a b ∧ True) ∧ (sameFrom a b (0 : Nat) = false → false = sameP a b ∧ True))
theorem vcSame_eq (b1 : Bool) (b2 : Bool) (a : List Producer) (b : List Producer) : (ctrVC Tryd.prog (smH b1 b2 a b) 27 [encPs b1 a, encPs b2 b] [] (smR a b)) = vcSame b1 b2 a b := by kernel_rfl
theorem same_c (b1 b2 : Bool) (a b : List Producer) (hl : a.length ≤ 9223372036854775806) : (smR a b).Sat (ACall' Tryd.prog 27 [encPs b1 a, encPs b2 b] []) := by
  refine ctr_vc (ht := smH b1 b2 a b) Tryd.mixed rfl ?_
  rw [vcSame_eq b1 b2 a b]
  unfold vcSame
  by_cases he : a.length = b.length
  · have := same_loop b1 b2 a b hl he 0
    simp [sameP, he, this]
  · have he' : ¬ ((a.length : Int) = b.length) := by omega
    simp [sameP, he, he']
def stp (x : Producer) (s : Bool × List Producer) (y : Producer) : Bool × List Producer :=
  let s1 := if (decide (x.id ≤ y.id) && !s.1) = true then (true, s.2 ++ [x]) else s
  if y.id = x.id then s1 else (s1.1, s1.2 ++ [y])
end Go.Proofs.YtckklclehofddaaDoor.P

namespace Go.Proofs.YtckklclehofddaaDoor.P
open Go.Ax
set_option maxRecDepth 1000000
end Go.Proofs.YtckklclehofddaaDoor.P
