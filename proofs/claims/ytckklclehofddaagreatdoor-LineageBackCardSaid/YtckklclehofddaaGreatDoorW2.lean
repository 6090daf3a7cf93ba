import Derived.Test.YtckklclehofddaaGreatDoorE9
import Derived.Test.YtckklclehofddaaGreatDoorW1
set_option linter.unusedVariables false
set_option linter.unusedSimpArgs false
set_option linter.unusedSectionVars false
/-! Records: what is kept of a log. -/
namespace Go.Proofs.YtckklclehofddaaGreatDoor
open Go.Ax
set_option maxRecDepth 1000000
noncomputable def hasC (r : Rng) (k : ByteArray) : Ctr Tryz.prog := ⟨51, [.agg (encG r), .y (.string k)], [], boolR (hasK r k), has_c r k⟩
structure Ke where
  (out : List Rec) (to : List Int)
def Ke.step (r : Rng) (s : Ke) (x : Rec) : Ke := ⟨if hasK r x.key then s.out ++ [x.to (IntKind.u64.wrap (s.out.length : Nat))] else s.out, s.to ++ [IntKind.u64.wrap (s.out.length : Nat)]⟩
def ke (r : Rng) (l : List Rec) : Ke := l.foldl (Ke.step r) ⟨[], []⟩
theorem ke_step {r : Rng} {l : List Rec} {k : Nat} (h : k < l.length) : ke r (l.take (k + 1)) = (ke r (l.take k)).step r (l.getD k default) := by
  unfold ke
  rw [List.take_add_one, List.foldl_append, List.getElem?_eq_getElem h]
  simp [List.getElem?_eq_getElem h]
def kpM (r : Rng) (s : Ke) : List Blk := [.box 24 (encG r), rowR s.out, rowU s.to]
def kpT (b : Bool) (l : List Rec) (s : Ke) (k : Nat) : List AV := mkT 53 [(3, .ptr 0 0 0 0), (6, .own 1 5 0 s.out.length), (7, .own 2 1 0 s.to.length), (22, encRs b l), (23, .y (.int .i64 l.length)), (24, .y (.int .i64 k))]
def kpS (r : Rng) (s : Ke) (_ : Unit) : Exit × List AV × List Blk := (.exit 0, mkT 53 [(6, .own 1 5 0 s.out.length), (7, .own 2 1 0 s.to.length)], kpM r s)
noncomputable def kpH (r : Rng) (l : List Rec) (k : Nat) : HintsT Tryz.prog := hh _ noLp (cs1 22 9 3 (hasC r (l.getD k default).key) (cs1 22 10 4 (ownC (l.getD k default) (ke r (l.take k)).out.length) noCs)) noOp
def vcKpL (b : Bool) (r : Rng) (l : List Rec) (k : Nat) : Prop :=
  (decide ((↑k : Int) < (↑(List.length l) : Int)) = true → (true && decide ((↑k : Int) < (↑(List.length l) : Int))) = true ∧ (decide (List.length (ke r (List.take k l)).to = List.length (ke r (List.take k l)).to) && decide (List.length (ke r (List.take k l)).to + (1 : Nat) ≤ (9223372036854775807 : Nat)) && decide ((List.length (ke r (List.take k l)).to + (1 : Nat)) * (8 : Nat) ≤ (140737488355328 : Nat))) = true ∧ ((r.lo = r.lo ∧ r.hi = r.hi ∧ True) ∧ (List.getD l (Int.toNat (↑k : Int)) (@default Rec instInhabitedRec)).key = (List.getD l k (@default Rec instInhabitedRec)).key ∧ True) ∧ True ∧ (hasK r (List.getD l k (@default Rec instInhabitedRec)).key = true → (((List.getD l (Int.toNat (↑k : Int)) (@default Rec instInhabitedRec)).off = (List.getD l k (@default Rec instInhabitedRec)).off ∧ (List.getD l (Int.toNat (↑k : Int)) (@default Rec instInhabitedRec)).key = (List.getD l k (@default Rec instInhabitedRec)).key ∧ (true = true ∧ List.length (List.getD l (Int.toNat (↑k : Int)) (@default Rec instInhabitedRec)).val = List.length (List.getD l k (@default Rec instInhabitedRec)).val ∧ contLe (List.length (List.getD l (Int.toNat (↑k : Int)) (@default Rec instInhabitedRec)).val) (1 : Nat) (cellsOf' encB (List.getD l (Int.toNat (↑k : Int)) (@default Rec instInhabitedRec)).val) (cellsOf' encB (List.getD l k (@default Rec instInhabitedRec)).val)) ∧ (List.getD l (Int.toNat (↑k : Int)) (@default Rec instInhabitedRec)).prod = (List.getD l k (@default Rec instInhabitedRec)).prod ∧ (List.getD l (Int.toNat (↑k : Int)) (@default Rec instInhabitedRec)).seq = (List.getD l k (@default Rec instInhabitedRec)).seq ∧ True) ∧ (↑(List.length (ke r (List.take k l)).out) : Int) = (↑(List.length (ke r (List.take k l)).out) : Int) ∧ True) ∧ True ∧ List.length (List.getD l k (@default Rec instInhabitedRec)).val ≤ (140737488355328 : Nat) ∧ (decide (List.length (ke r (List.take k l)).out = List.length (ke r (List.take k l)).out) && decide (List.length (ke r (List.take k l)).out + (1 : Nat) ≤ (9223372036854775807 : Nat)) && decide ((List.length (ke r (List.take k l)).out + (1 : Nat)) * (64 : Nat) ≤ (140737488355328 : Nat))) = true ∧ ∃ (j : Nat), List.length l - j < List.length l - k ∧ ((((0 : Nat) = (0 : Nat) ∧ (0 : Nat) = (0 : Nat)) ∧ ((0 : Nat) = (0 : Nat) ∧ List.length (ke r (List.take k l)).out + (1 : Nat) = List.length (ke r (List.take j l)).out) ∧ ((0 : Nat) = (0 : Nat) ∧ List.length (ke r (List.take k l)).to + (1 : Nat) = List.length (ke r (List.take j l)).to) ∧ (b = b ∧ List.length l = List.length l ∧ contLe (List.length l) (5 : Nat) (cellsOf' encR l) (cellsOf' encR l)) ∧ (↑(List.length l) : Int) = (↑(List.length l) : Int) ∧ IntKind.wrap IntKind.i64 ((↑k : Int) + (1 : Int)) = (↑j : Int) ∧ True) ∧ ((r.lo = r.lo ∧ r.hi = r.hi ∧ True) ∧ (List.length (ke r (List.take k l)).out + (1 : Nat) = List.length (ke r (List.take j l)).out ∧ contLe (List.length (ke r (List.take k l)).out + (1 : Nat)) (5 : Nat) (appRow (List.length (ke r (List.take k l)).out) (cellsOf' encR (ke r (List.take k l)).out) fun (k_1 j : Nat) => Ax.get [AV.y (Value.int IntKind.u64 (IntKind.wrap IntKind.u64 (↑(List.length (ke r (List.take k l)).out) : Int))), AV.y (Value.string (List.getD l k (@default Rec instInhabitedRec)).key), AV.ys true (1 : Nat) (List.length (List.getD l k (@default Rec instInhabitedRec)).val) (cellsOf' encB (List.getD l k (@default Rec instInhabitedRec)).val), AV.y (Value.int IntKind.u64 (List.getD l k (@default Rec instInhabitedRec)).prod), AV.y (Value.int IntKind.u64 (List.getD l k (@default Rec instInhabitedRec)).seq)] (k_1 * (5 : Nat) + j)) (cellsOf' encR (ke r (List.take j l)).out)) ∧ (List.length (ke r (List.take k l)).to + (1 : Nat) = List.length (ke r (List.take j l)).to ∧ contLe (List.length (ke r (List.take k l)).to + (1 : Nat)) (1 : Nat) (appRow (List.length (ke r (List.take k l)).to) (cellsOf' encU (ke r (List.take k l)).to) fun (k_1 j : Nat) => Ax.get [AV.y (Value.int IntKind.u64 (IntKind.wrap IntKind.u64 (↑(List.length (ke r (List.take k l)).out) : Int)))] (k_1 * (1 : Nat) + j)) (cellsOf' encU (ke r (List.take j l)).to)) ∧ True) ∧ true = true) ∧ true = true ∧ () = ()) ∧ (hasK r (List.getD l k (@default Rec instInhabitedRec)).key = false → ∃ (j : Nat), List.length l - j < List.length l - k ∧ ((((0 : Nat) = (0 : Nat) ∧ (0 : Nat) = (0 : Nat)) ∧ ((0 : Nat) = (0 : Nat) ∧ List.length (ke r (List.take k l)).out = List.length (ke r (List.take j l)).out) ∧ ((0 : Nat) = (0 : Nat) ∧ List.length (ke r (List.take k l)).to + (1 : Nat) = List.length (ke r (List.take j l)).to) ∧ (b = b ∧ List.length l = List.length l ∧ contLe (List.length l) (5 : Nat) (cellsOf' encR l) (cellsOf' encR l)) ∧ (↑(List.length l) : Int) = (↑(List.length l) : Int) ∧ IntKind.wrap IntKind.i64 ((↑k : Int) + (1 : Int)) = (↑j : Int) ∧ True) ∧ ((r.lo = r.lo ∧ r.hi = r.hi ∧ True) ∧ (List.length (ke r (List.take k l)).out = List.length (ke r (List.take j l)).out ∧ contLe (List.length (ke r (List.take k l)).out) (5 : Nat) (cellsOf' encR (ke r (List.take k l)).out) (cellsOf' encR (ke r (List.take j l)).out)) ∧ (List.length (ke r (List.take k l)).to + (1 : Nat) = List.length (ke r (List.take j l)).to ∧ contLe (List.length (ke r (List.take k l)).to + (1 : Nat)) (1 : Nat) (appRow (List.length (ke r (List.take k l)).to) (cellsOf' encU (ke r (List.take k l)).to) fun (k_1 j : Nat) => Ax.get [AV.y (Value.int IntKind.u64 (IntKind.wrap IntKind.u64 (↑(List.length (ke r (List.take k l)).out) : Int)))] (k_1 * (1 : Nat) + j)) (cellsOf' encU (ke r (List.take j l)).to)) ∧ True) ∧ true = true) ∧ true = true ∧ () = ())) ∧ (decide ((↑k : Int) < (↑(List.length l) : Int)) = false → (((0 : Nat) = (0 : Nat) ∧ List.length (ke r (List.take k l)).out = List.length (ke r l).out) ∧ ((0 : Nat) = (0 : Nat) ∧ List.length (ke r (List.take k l)).to = List.length (ke r l).to) ∧ True) ∧ ((r.lo = r.lo ∧ r.hi = r.hi ∧ True) ∧ (List.length (ke r (List.take k l)).out = List.length (ke r l).out ∧ contLe (List.length (ke r (List.take k l)).out) (5 : Nat) (cellsOf' encR (ke r (List.take k l)).out) (cellsOf' encR (ke r l).out)) ∧ (List.length (ke r (List.take k l)).to = List.length (ke r l).to ∧ contLe (List.length (ke r (List.take k l)).to) (1 : Nat) (cellsOf' encU (ke r (List.take k l)).to) (cellsOf' encU (ke r l).to)) ∧ True) ∧ true = true)
set_option maxRecDepth 1000000 in
theorem vcKpL_eq (b : Bool) (r : Rng) (l : List Rec) (k : Nat) : (loopVC Tryz.prog (kpH r l k) 22 6 (fun k => l.length - k) (fun k => kpT b l (ke r (l.take k)) k) (fun k => kpM r (ke r (l.take k))) jX (fun _ => .ret ()) (kpS r (ke r l)) k) = vcKpL b r l k := by kernel_rfl
def keR (s : Ke) : T An := .ret (.tup [.own 0 5 0 s.out.length, .own 1 1 0 s.to.length], [rowR s.out, rowU s.to], [])
def Ke.end (s : Ke) : Ke := ⟨s.out, s.to ++ [IntKind.u64.wrap (s.out.length : Nat)]⟩
def keT (r : Rng) (l : List Rec) : T An := .ite (isLog l && chkK r == 0) (keR (ke r l).end) (.ret (.tup [.s (.slice none 0 0), .s (.slice none 0 0)], [], []))
noncomputable def keH (b : Bool) (r : Rng) (l : List Rec) : HintsT Tryz.prog := hh _ (lp1 22 6 (jobOf (fun k => kpT b l (ke r (l.take k)) k) (fun k => kpM r (ke r (l.take k))) jX (fun _ => .ret ()) (kpS r (ke r l)) 0) noLp) (cs1 22 1 1 (lgC b l) (cs1 22 1 5 (chkC r) noCs)) (op1 22 3 0 (.row 37 5) noOp)
def vcKeep (b : Bool) (r : Rng) (l : List Rec) : Prop :=
  ((b = b ∧ List.length l = List.length l ∧ contLe (List.length l) (5 : Nat) (cellsOf' encR l) (cellsOf' encR l)) ∧ True) ∧ True ∧ List.length l ≤ (9223372036854775806 : Nat) ∧ ((!isLog l) = true → ((isLog l && chkK r == (0 : Int)) = true → (False ∧ False ∧ True) ∧ False) ∧ ((isLog l && chkK r == (0 : Int)) = false → (True ∧ True ∧ True) ∧ True)) ∧ ((!isLog l) = false → ((r.lo = r.lo ∧ r.hi = r.hi ∧ True) ∧ True) ∧ True ∧ ((chkK r != (0 : Int)) = true → ((isLog l && chkK r == (0 : Int)) = true → (False ∧ False ∧ True) ∧ False) ∧ ((isLog l && chkK r == (0 : Int)) = false → (True ∧ True ∧ True) ∧ True)) ∧ ((chkK r != (0 : Int)) = false → (0 : Int) ≤ (0 : Int) ∧ (0 : Int) ≤ IntKind.wrap IntKind.i64 ((↑(List.length l) : Int) + (1 : Int)) ∧ (8 : Int) * IntKind.wrap IntKind.i64 ((↑(List.length l) : Int) + (1 : Int)) ≤ (281474976710656 : Int) ∧ IntKind.wrap IntKind.i64 ((↑(List.length l) : Int) + (1 : Int)) ≤ (9223372036854775807 : Int) ∧ ((((0 : Nat) = (0 : Nat) ∧ (0 : Nat) = (0 : Nat)) ∧ ((0 : Nat) = (0 : Nat) ∧ (0 : Nat) = (0 : Nat)) ∧ ((0 : Nat) = (0 : Nat) ∧ (0 : Nat) = (0 : Nat)) ∧ (b = b ∧ List.length l = List.length l ∧ contLe (List.length l) (5 : Nat) (cellsOf' encR l) (cellsOf' encR l)) ∧ (↑(List.length l) : Int) = (↑(List.length l) : Int) ∧ (0 : Int) = (0 : Int) ∧ True) ∧ ((r.lo = r.lo ∧ r.hi = r.hi ∧ True) ∧ ((0 : Nat) = (0 : Nat) ∧ contLe (0 : Nat) (5 : Nat) (fun (x x_1 : Nat) => AV.junk) (cellsOf' encR [])) ∧ ((0 : Nat) = (0 : Nat) ∧ contLe (0 : Nat) (1 : Nat) (fun (x j : Nat) => Ax.get [AV.s (Value.int IntKind.u64 (0 : Int))] j) (cellsOf' encU [])) ∧ True) ∧ true = true) ∧ LoopOk Tryz.prog (22 : Nat) (6 : Nat) (loopAt Tryz.prog (22 : Nat) (6 : Nat)) { t := kpT b l (ke r (List.take (0 : Nat) l)) (0 : Nat), m := kpM r (ke r (List.take (0 : Nat) l)), mv := [] : St } (T.map (lout jX (kpS r (ke r l))) ((fun (x : Nat) => T.ret ()) (0 : Nat))) ∧ (decide (List.length (ke r l).to = List.length (ke r l).to) && decide (List.length (ke r l).to + (1 : Nat) ≤ (9223372036854775807 : Nat)) && decide ((List.length (ke r l).to + (1 : Nat)) * (8 : Nat) ≤ (140737488355328 : Nat))) = true ∧ ((isLog l && chkK r == (0 : Int)) = true → (((0 : Nat) = (0 : Nat) ∧ List.length (ke r l).out = List.length (ke r l).out) ∧ ((0 : Nat) = (0 : Nat) ∧ List.length (ke r l).to + (1 : Nat) = List.length ((ke r l).to ++ [IntKind.wrap IntKind.u64 (↑(List.length (ke r l).out) : Int)])) ∧ True) ∧ (List.length (ke r l).out = List.length (ke r l).out ∧ contLe (List.length (ke r l).out) (5 : Nat) (cellsOf' encR (ke r l).out) (cellsOf' encR (ke r l).out)) ∧ (List.length (ke r l).to + (1 : Nat) = List.length ((ke r l).to ++ [IntKind.wrap IntKind.u64 (↑(List.length (ke r l).out) : Int)]) ∧ contLe (List.length (ke r l).to + (1 : Nat)) (1 : Nat) (appRow (List.length (ke r l).to) (cellsOf' encU (ke r l).to) fun (k j : Nat) => Ax.get [AV.y (Value.int IntKind.u64 (IntKind.wrap IntKind.u64 (↑(List.length (ke r l).out) : Int)))] (k * (1 : Nat) + j)) (cellsOf' encU ((ke r l).to ++ [IntKind.wrap IntKind.u64 (↑(List.length (ke r l).out) : Int)]))) ∧ True) ∧ ((isLog l && chkK r == (0 : Int)) = false → False)))
set_option maxRecDepth 1000000 in
theorem vcKeep_eq (b : Bool) (r : Rng) (l : List Rec) : (ctrVC Tryz.prog (keH b r l) 22 [encRs b l, .agg (encG r)] [] (keT r l)) = vcKeep b r l := by kernel_rfl
end Go.Proofs.YtckklclehofddaaGreatDoor

/-! Records: the contracts of Keep. -/
namespace Go.Proofs.YtckklclehofddaaGreatDoor
open Go.Ax
set_option maxRecDepth 1000000
theorem log_val {l : List Rec} (h : isLog l = true) {k : Nat} (hk : k < l.length) : (l.getD k default).val.length ≤ 256 := by
  simp only [isLog, Bool.and_eq_true] at h
  have h1 := h.1
  unfold logFrom at h1
  rw [List.all_eq_true] at h1
  have h2 := h1 k (by simp; omega)
  simp only [okR, Bool.and_eq_true, decide_eq_true_eq] at h2
  exact h2.2.2
theorem log_len {l : List Rec} (h : isLog l = true) : l.length ≤ 4096 := by
  simp only [isLog, Bool.and_eq_true, decide_eq_true_eq] at h
  exact h.2
theorem ke_len (r : Rng) (l : List Rec) : ∀ k, k ≤ l.length → (ke r (l.take k)).to.length = k ∧ (ke r (l.take k)).out.length ≤ k := by
  intro k
  induction k with
  | zero => intro _; simp [ke]
  | succ k ih =>
    intro hk
    obtain ⟨h1, h2⟩ := ih (by omega)
    rw [ke_step (by omega)]
    unfold Ke.step
    constructor
    · simp [h1]
    · dsimp only
      split
      · simp; omega
      · omega
theorem ke_len' (r : Rng) (l : List Rec) : (ke r l).to.length = l.length ∧ (ke r l).out.length ≤ l.length := by
  have := ke_len r l l.length (Nat.le_refl _)
  rwa [List.take_length] at this
theorem kp_loop (b : Bool) (r : Rng) (l : List Rec) (hl : isLog l = true) (k : Nat) : LoopOk Tryz.prog 22 6 (loopAt Tryz.prog 22 6) ⟨kpT b l (ke r (l.take k)) k, kpM r (ke r (l.take k)), []⟩ (T.map (lout jX (kpS r (ke r l))) (.ret ())) := by
  refine loop_vcH (o := fun _ => .ret ()) (stT := fun k => kpT b l (ke r (l.take k)) k) (stM := fun k => kpM r (ke r (l.take k))) Tryz.mixed (fun _ => rfl) (fun k => (vcKpL_eq b r l k).mpr ?_) k
  unfold vcKpL
  have hn := log_len hl
  by_cases h : k < l.length
  · obtain ⟨h1, h2⟩ := ke_len r l k (by omega)
    have hz : decide ((k : Int) < l.length) = true := by simp; omega
    have hv := log_val hl h
    have hs := ke_step (r := r) h
    have hw : IntKind.i64.wrap ((k : Int) + 1) = ((k + 1 : Nat) : Int) := by rw [wrap_i64 (by omega) (by omega)]; omega
    simp only [hz, Int.toNat_natCast]
    generalize l.getD k default = x at *
    generalize ke r (l.take k) = s at *
    simp
    refine ⟨⟨by omega, by omega⟩, fun hh => ⟨by omega, ⟨by omega, by omega⟩, Exists.intro (k + 1) ?_⟩, fun hh => Exists.intro (k + 1) ?_⟩
    · have a1 : contLe (s.to.length + 1) 1 (appRow s.to.length (cellsOf' encU s.to) fun k j => Ax.get [AV.y (Value.int IntKind.u64 (IntKind.u64.wrap ↑s.out.length))] (k + j)) (cellsOf' encU (s.to ++ [IntKind.u64.wrap ↑s.out.length])) := app1_le1 (le0_refl _)
      rw [hs]
      simp [Ke.step, hh]
      refine ⟨by omega, hw, app1_le rfl (rec_le (le0_refl _) (le0_refl _) (le0_refl _) (le0_refl _) (le0_refl _)), a1⟩
    · have a1 : contLe (s.to.length + 1) 1 (appRow s.to.length (cellsOf' encU s.to) fun k j => Ax.get [AV.y (Value.int IntKind.u64 (IntKind.u64.wrap ↑s.out.length))] (k + j)) (cellsOf' encU (s.to ++ [IntKind.u64.wrap ↑s.out.length])) := app1_le1 (le0_refl _)
      rw [hs]
      simp [Ke.step, hh]
      refine ⟨by omega, hw, a1⟩
  · have hz : decide ((k : Int) < l.length) = false := by simp; omega
    rw [List.take_of_length_le (by omega)]
    simp [hz]
    exact fun e => absurd e h
theorem keep_c (b : Bool) (r : Rng) (l : List Rec) (h1 : l.length ≤ 4611686018427387903) : (keT r l).Sat (ACall' Tryz.prog 22 [encRs b l, .agg (encG r)] []) := by
  refine ctr_vc (ht := keH b r l) Tryz.mixed rfl ?_
  rw [vcKeep_eq b r l]
  unfold vcKeep
  cases hl : isLog l
  · simp; omega
  · have hn := log_len hl
    have lp := kp_loop b r l hl 0
    rw [List.take_zero] at lp
    obtain ⟨q1, q2⟩ := ke_len' r l
    have hw : IntKind.i64.wrap ((l.length : Int) + 1) = (l.length : Int) + 1 := wrap_i64 (by omega) (by omega)
    have a1 : contLe ((ke r l).to.length + 1) 1 (appRow (ke r l).to.length (cellsOf' encU (ke r l).to) fun k j => Ax.get [AV.y (Value.int IntKind.u64 (IntKind.u64.wrap ↑(ke r l).out.length))] (k + j)) (cellsOf' encU ((ke r l).to ++ [IntKind.u64.wrap ↑(ke r l).out.length])) := app1_le1 (le0_refl _)
    simp only [hw]
    by_cases hc : chkK r = 0
    · simp [hc, lp, Ke.end, a1]
      omega
    · simp [hc]; omega
end Go.Proofs.YtckklclehofddaaGreatDoor

/-! Records: the law RecordsWhole. -/
namespace Go.Proofs.YtckklclehofddaaGreatDoor
open Go.Ax
set_option maxRecDepth 1000000
theorem take_one {l : List Rec} {k : Nat} (h : k < l.length) : l.take (k + 1) = l.take k ++ [l.getD k default] := by
  rw [List.take_add_one, List.getElem?_eq_getElem h]
  simp [List.getElem?_eq_getElem h]
/-! the contracts, by the case -/
end Go.Proofs.YtckklclehofddaaGreatDoor

/-! Records: consumers: the conditions. -/
namespace Go.Proofs.YtckklclehofddaaGreatDoor
open Go.Ax
set_option maxRecDepth 1000000
def coOk (l : List Con) (k : Nat) : Bool := nameOk (l.getD k default).name && !(decide (0 < k) && !lt (l.getD (k - 1) default).name (l.getD k default).name)
def coFrom (l : List Con) (k : Nat) : Bool := (List.range' k (l.length - k)).all fun j => coOk l j
theorem coFrom_end {l : List Con} {k : Nat} (h : l.length ≤ k) : coFrom l k = true := by
  unfold coFrom
  rw [show l.length - k = 0 by omega]; rfl
theorem coFrom_step {l : List Con} {k : Nat} (h : k < l.length) : coFrom l k = (coOk l k && coFrom l (k + 1)) := by
  unfold coFrom
  rw [show l.length - k = (l.length - (k + 1)) + 1 by omega, List.range'_succ]; rfl
def isCons (l : List Con) : Bool := coFrom l 0 && decide (l.length ≤ 64)
def coT (b : Bool) (l : List Con) (k : Nat) : List AV := mkT 35 [(0, encCs b l), (2, .s (.bool false)), (5, encCs b l), (6, .y (.int .i64 l.length)), (7, .y (.int .i64 k))]
def coS (b : Bool) (l : List Con) (r : Bool) : Exit × List AV × List Blk := match r with
  | true => (.exit 0, mkT 35 [(0, encCs b l)], [])
  | false => (.ret, mkT 35 [(2, .s (.bool false))], [])
def coO (l : List Con) (k : Nat) : T Bool := .ite (coFrom l k) (.ret true) (.ret false)
noncomputable def coHL (l : List Con) (k : Nat) : HintsT Tryz.prog := hh _ noLp (cs1 44 4 2 (nameC (l.getD k default).name) noCs) noOp
def vcCoL (b : Bool) (l : List Con) (k : Nat) : Prop :=
  (decide ((↑k : Int) < (↑(List.length l) : Int)) = true → (true && decide ((↑k : Int) < (↑(List.length l) : Int))) = true ∧ ((List.getD l (Int.toNat (↑k : Int)) (@default Con instInhabitedCon)).name = (List.getD l k (@default Con instInhabitedCon)).name ∧ True) ∧ True ∧ ((!nameOk (List.getD l k (@default Con instInhabitedCon)).name) = true → (coFrom l k = true → False) ∧ (coFrom l k = false → (false = false ∧ True) ∧ True ∧ true = true)) ∧ ((!nameOk (List.getD l k (@default Con instInhabitedCon)).name) = false → (decide ((0 : Int) < (↑k : Int)) = true → (decide ((0 : Int) ≤ IntKind.wrap IntKind.i64 ((↑k : Int) - (1 : Int))) && decide (IntKind.wrap IntKind.i64 ((↑k : Int) - (1 : Int)) < (↑(List.length l) : Int))) = true ∧ ((!Op.bytesLess (List.getD l (Int.toNat (IntKind.wrap IntKind.i64 ((↑k : Int) - (1 : Int)))) (@default Con instInhabitedCon)).name.data.toList (List.getD l (Int.toNat (↑k : Int)) (@default Con instInhabitedCon)).name.data.toList) = true → (coFrom l k = true → False) ∧ (coFrom l k = false → (false = false ∧ True) ∧ True ∧ true = true)) ∧ ((!Op.bytesLess (List.getD l (Int.toNat (IntKind.wrap IntKind.i64 ((↑k : Int) - (1 : Int)))) (@default Con instInhabitedCon)).name.data.toList (List.getD l (Int.toNat (↑k : Int)) (@default Con instInhabitedCon)).name.data.toList) = false → ∃ (j : Nat), List.length l - j < List.length l - k ∧ (((b = b ∧ List.length l = List.length l ∧ contLe (List.length l) (2 : Nat) (cellsOf' encC l) (cellsOf' encC l)) ∧ false = false ∧ (b = b ∧ List.length l = List.length l ∧ contLe (List.length l) (2 : Nat) (cellsOf' encC l) (cellsOf' encC l)) ∧ (↑(List.length l) : Int) = (↑(List.length l) : Int) ∧ IntKind.wrap IntKind.i64 ((↑k : Int) + (1 : Int)) = (↑j : Int) ∧ True) ∧ True ∧ true = true) ∧ true = true ∧ (coFrom l j = true → (coFrom l k = true → true = true) ∧ (coFrom l k = false → true = false)) ∧ (coFrom l j = false → (coFrom l k = true → false = true) ∧ (coFrom l k = false → false = false)))) ∧ (decide ((0 : Int) < (↑k : Int)) = false → ∃ (j : Nat), List.length l - j < List.length l - k ∧ (((b = b ∧ List.length l = List.length l ∧ contLe (List.length l) (2 : Nat) (cellsOf' encC l) (cellsOf' encC l)) ∧ false = false ∧ (b = b ∧ List.length l = List.length l ∧ contLe (List.length l) (2 : Nat) (cellsOf' encC l) (cellsOf' encC l)) ∧ (↑(List.length l) : Int) = (↑(List.length l) : Int) ∧ IntKind.wrap IntKind.i64 ((↑k : Int) + (1 : Int)) = (↑j : Int) ∧ True) ∧ True ∧ true = true) ∧ true = true ∧ (coFrom l j = true → (coFrom l k = true → true = true) ∧ (coFrom l k = false → true = false)) ∧ (coFrom l j = false → (coFrom l k = true → false = true) ∧ (coFrom l k = false → false = false))))) ∧ (decide ((↑k : Int) < (↑(List.length l) : Int)) = false → (coFrom l k = true → ((b = b ∧ List.length l = List.length l ∧ contLe (List.length l) (2 : Nat) (cellsOf' encC l) (cellsOf' encC l)) ∧ True) ∧ True ∧ true = true) ∧ (coFrom l k = false → False))
set_option maxRecDepth 1000000 in
theorem vcCoL_eq (b : Bool) (l : List Con) (k : Nat) : (loopVC Tryz.prog (coHL l k) 44 2 (fun k => l.length - k) (coT b l) (fun _ => []) [0] (coO l) (coS b l) k) = vcCoL b l k := by kernel_rfl
noncomputable def coH (b : Bool) (l : List Con) : HintsT Tryz.prog := hh _ (lp1 44 2 (jobOf (coT b l) (fun _ => []) [0] (coO l) (coS b l) 0) noLp) noCs noOp
def vcCo (b : Bool) (l : List Con) : Prop :=
  (((b = b ∧ List.length l = List.length l ∧ contLe (List.length l) (2 : Nat) (cellsOf' encC l) (cellsOf' encC l)) ∧ false = false ∧ (b = b ∧ List.length l = List.length l ∧ contLe (List.length l) (2 : Nat) (cellsOf' encC l) (cellsOf' encC l)) ∧ (↑(List.length l) : Int) = (↑(List.length l) : Int) ∧ (0 : Int) = (0 : Int) ∧ True) ∧ True ∧ true = true) ∧ LoopOk Tryz.prog (44 : Nat) (2 : Nat) (loopAt Tryz.prog (44 : Nat) (2 : Nat)) { t := coT b l (0 : Nat), m := [], mv := [] : St } (T.map (lout [(0 : Nat)] (coS b l)) (coO l (0 : Nat))) ∧ (coFrom l (0 : Nat) = true → decide ((↑(List.length l) : Int) ≤ (64 : Int)) = isCons l ∧ True) ∧ (coFrom l (0 : Nat) = false → false = isCons l ∧ True)
set_option maxRecDepth 1000000 in
theorem vcCo_eq (b : Bool) (l : List Con) : (ctrVC Tryz.prog (coH b l) 44 [encCs b l] [] (boolR (isCons l))) = vcCo b l := by kernel_rfl
/-! Read -/
def eqN (a b : ByteArray) : Bool := a.data.toList == b.data.toList
def findC (l : List Con) (s : ByteArray) : Option Con := l.find? fun x => eqN x.name s
def fnR (s : ByteArray) : AV := .fn (.func 106) [] [.ip false 1 (get [.y (.string s)])]
def rxT (b : Bool) (s : ByteArray) (l : List Con) (k : Nat) : List AV := mkT 19 [(0, encCs b l), (1, fnR s), (4, .s (.int .i64 0)), (7, .y (.int .i64 l.length)), (8, .y (.int .i64 k))]
def rxS (r : Bool × Nat) : Exit × List AV × List Blk := match r.1 with
  | true => (.ret, mkT 19 [(4, .y (.int .i64 r.2))], [])
  | false => (.exit 0, mkT 19 [], [])
def inC (l : List Con) (s : ByteArray) : Bool := l.any fun x => eqN x.name s
def rxO (l : List Con) (s : ByteArray) (k : Nat) : T (Bool × Nat) := .ite (inC (l.drop k) s) (.ret (true, k + (l.drop k).findIdx fun x => eqN x.name s)) (.ret (false, 0))
def vcRxL (b : Bool) (s : ByteArray) (l : List Con) (k : Nat) : Prop :=
  (decide ((↑k : Int) < (↑(List.length l) : Int)) = true → (true && decide ((↑k : Int) < (↑(List.length l) : Int))) = true ∧ (((List.getD l (Int.toNat (↑k : Int)) (@default Con instInhabitedCon)).name.data.toList == s.data.toList) = true → (inC (List.drop k l) s = true → ((↑k : Int) = (↑(k + List.findIdx (fun (x : Con) => eqN x.name s) (List.drop k l)) : Int) ∧ True) ∧ True ∧ true = true) ∧ (inC (List.drop k l) s = false → False)) ∧ (((List.getD l (Int.toNat (↑k : Int)) (@default Con instInhabitedCon)).name.data.toList == s.data.toList) = false → ∃ (j : Nat), List.length l - j < List.length l - k ∧ (((b = b ∧ List.length l = List.length l ∧ contLe (List.length l) (2 : Nat) (cellsOf' encC l) (cellsOf' encC l)) ∧ (True ∧ (false = false ∧ (1 : Nat) ≤ (1 : Nat) ∧ cellLe (1 : Nat) (Ax.get [AV.y (Value.string s)]) (Ax.get [AV.y (Value.string s)])) ∧ True) ∧ (0 : Int) = (0 : Int) ∧ (↑(List.length l) : Int) = (↑(List.length l) : Int) ∧ IntKind.wrap IntKind.i64 ((↑k : Int) + (1 : Int)) = (↑j : Int) ∧ True) ∧ True ∧ true = true) ∧ true = true ∧ (inC (List.drop j l) s = true → (inC (List.drop k l) s = true → (true, j + List.findIdx (fun (x : Con) => eqN x.name s) (List.drop j l)) = (true, k + List.findIdx (fun (x : Con) => eqN x.name s) (List.drop k l))) ∧ (inC (List.drop k l) s = false → (true, j + List.findIdx (fun (x : Con) => eqN x.name s) (List.drop j l)) = (false, (0 : Nat)))) ∧ (inC (List.drop j l) s = false → (inC (List.drop k l) s = true → (false, (0 : Nat)) = (true, k + List.findIdx (fun (x : Con) => eqN x.name s) (List.drop k l))) ∧ (inC (List.drop k l) s = false → (false, (0 : Nat)) = (false, (0 : Nat)))))) ∧ (decide ((↑k : Int) < (↑(List.length l) : Int)) = false → (inC (List.drop k l) s = true → False) ∧ (inC (List.drop k l) s = false → True ∧ True ∧ true = true))
set_option maxRecDepth 1000000 in
theorem vcRxL_eq (b : Bool) (s : ByteArray) (l : List Con) (k : Nat) : (loopVC Tryz.prog (hT _) 80 2 (fun k => l.length - k) (rxT b s l) (fun _ => []) [0] (rxO l s) rxS k) = vcRxL b s l k := by kernel_rfl
noncomputable def rxH (b : Bool) (s : ByteArray) (l : List Con) : HintsT Tryz.prog := hh _ (lp1 80 2 (jobOf (rxT b s l) (fun _ => []) [0] (rxO l s) rxS 0) noLp) noCs noOp
def readO (l : List Con) (s : ByteArray) : Int := ((findC l s).getD default).off
def rdR (l : List Con) (s : ByteArray) : T An := .ret (.tup [.y (.int .u64 (readO l s)), .y (.bool (inC l s))], [], [])
def vcRead (b : Bool) (s : ByteArray) (l : List Con) : Prop :=
  (((b = b ∧ List.length l = List.length l ∧ contLe (List.length l) (2 : Nat) (cellsOf' encC l) (cellsOf' encC l)) ∧ (True ∧ (false = false ∧ (1 : Nat) ≤ (1 : Nat) ∧ cellLe (1 : Nat) (fun (j : Nat) => Ax.get [AV.y (Value.string s)] ((0 : Nat) + j)) (Ax.get [AV.y (Value.string s)])) ∧ True) ∧ (0 : Int) = (0 : Int) ∧ (↑(List.length l) : Int) = (↑(List.length l) : Int) ∧ (0 : Int) = (0 : Int) ∧ True) ∧ True ∧ true = true) ∧ LoopOk Tryz.prog (80 : Nat) (2 : Nat) (loopAt Tryz.prog (80 : Nat) (2 : Nat)) { t := rxT b s l (0 : Nat), m := [], mv := [] : St } (T.map (lout [(0 : Nat)] rxS) (rxO l s (0 : Nat))) ∧ (inC (List.drop (0 : Nat) l) s = true → true = true ∧ True ∧ (false = true → ((0 : Int) = readO l s ∧ false = inC l s ∧ True) ∧ True) ∧ (false = false → (true && decide ((↑((0 : Nat) + List.findIdx (fun (x : Con) => eqN x.name s) (List.drop (0 : Nat) l)) : Int) < (↑(List.length l) : Int))) = true ∧ ((List.getD l (Int.toNat (↑((0 : Nat) + List.findIdx (fun (x : Con) => eqN x.name s) (List.drop (0 : Nat) l)) : Int)) (@default Con instInhabitedCon)).off = readO l s ∧ true = inC l s ∧ True) ∧ True)) ∧ (inC (List.drop (0 : Nat) l) s = false → true = true ∧ True ∧ ((0 : Int) = readO l s ∧ false = inC l s ∧ True) ∧ True)
set_option maxRecDepth 1000000 in
theorem vcRead_eq (b : Bool) (s : ByteArray) (l : List Con) : (ctrVC Tryz.prog (rxH b s l) 90 [encCs b l, .y (.string s)] [] (rdR l s)) = vcRead b s l := by kernel_rfl
/-! where one reads on who read on at an offset -/
def elemO (to : List Int) (o : Int) : Int := to.getD (min o (to.length - 1)).toNat 0
def u64R (k : Int) : T An := .ret (.y (.int .u64 k), [], [])
def vcOf (b : Bool) (to : List Int) (o : Int) : Prop :=
  (decide ((0 : Int) ≤ if IntKind.wrap IntKind.u64 (IntKind.wrap IntKind.i64 ((↑(List.length to) : Int) - (1 : Int))) < o then IntKind.wrap IntKind.u64 (IntKind.wrap IntKind.i64 ((↑(List.length to) : Int) - (1 : Int))) else o) && decide ((if IntKind.wrap IntKind.u64 (IntKind.wrap IntKind.i64 ((↑(List.length to) : Int) - (1 : Int))) < o then IntKind.wrap IntKind.u64 (IntKind.wrap IntKind.i64 ((↑(List.length to) : Int) - (1 : Int))) else o) < (↑(List.length to) : Int))) = true ∧ List.getD to (Int.toNat (if IntKind.wrap IntKind.u64 (IntKind.wrap IntKind.i64 ((↑(List.length to) : Int) - (1 : Int))) < o then IntKind.wrap IntKind.u64 (IntKind.wrap IntKind.i64 ((↑(List.length to) : Int) - (1 : Int))) else o)) (0 : Int) = elemO to o ∧ True
set_option maxRecDepth 1000000 in
theorem vcOf_eq (b : Bool) (to : List Int) (o : Int) : (ctrVC Tryz.prog (hT _) 53 [encUs b to, .y (.int .u64 o)] [] (u64R (elemO to o))) = vcOf b to o := by kernel_rfl
end Go.Proofs.YtckklclehofddaaGreatDoor

/-! Records: consumers: the contracts. -/
namespace Go.Proofs.YtckklclehofddaaGreatDoor
open Go.Ax
set_option maxRecDepth 1000000
theorem co_loop (b : Bool) (l : List Con) (hl : l.length ≤ 9223372036854775806) (k : Nat) : LoopOk Tryz.prog 44 2 (loopAt Tryz.prog 44 2) ⟨coT b l k, [], []⟩ ((coO l k).map (lout [0] (coS b l))) := by
  refine loop_vcH (ht := coHL l) Tryz.mixed (fun _ => rfl) (fun k => (vcCoL_eq b l k).mpr ?_) k
  unfold vcCoL
  simp
  refine ⟨fun h => ?_, fun h => by simp [coFrom_end h]⟩
  rw [coFrom_step h]
  have e1 : IntKind.i64.wrap ((k : Int) + 1) = ((k + 1 : Nat) : Int) := by rw [wrap_i64 (by omega) (by omega)]; omega
  rw [e1]
  rcases Nat.eq_zero_or_pos k with rfl | hk
  · simp [coOk]
    generalize l[0]?.getD default = x
    cases nameOk x.name <;> simp
    all_goals repeat' with_reducible apply And.intro
    all_goals first | omega | exact ⟨1, by omega, by simp, by grind⟩
  · have e2 : IntKind.i64.wrap ((k : Int) - 1) = ((k - 1 : Nat) : Int) := by rw [wrap_i64 (by omega) (by omega)]; omega
    rw [e2]
    simp [coOk, lt, hk]
    generalize l[k]?.getD default = x
    generalize l[k - 1]?.getD default = y
    generalize Op.bytesLess y.name.data.toList x.name.data.toList = q
    cases nameOk x.name <;> cases q <;> simp <;> (try omega)
    all_goals repeat' with_reducible apply And.intro
    all_goals first | omega | (intro h0; exact absurd h0 (by omega)) | exact ⟨k + 1, by omega, by simp, by grind⟩
theorem co_c (b : Bool) (l : List Con) (hl : l.length ≤ 9223372036854775806) : (boolR (isCons l)).Sat (ACall' Tryz.prog 44 [encCs b l] []) := by
  refine ctr_vc (ht := coH b l) Tryz.mixed rfl ?_
  rw [vcCo_eq b l]
  unfold vcCo
  have := co_loop b l hl 0
  simp [this, isCons]
  grind
theorem inC_nil (s : ByteArray) : inC [] s = false := rfl
theorem inC_cons (y : Con) (l : List Con) (s : ByteArray) : inC (y :: l) s = (eqN y.name s || inC l s) := rfl
theorem readO_cons (y : Con) (l : List Con) (s : ByteArray) : readO (y :: l) s = if eqN y.name s then y.off else readO l s := by
  unfold readO findC
  rw [List.find?_cons]
  split <;> simp_all
theorem rx_loop (b : Bool) (s : ByteArray) (l : List Con) (hl : l.length ≤ 9223372036854775806) (k : Nat) : LoopOk Tryz.prog 80 2 (loopAt Tryz.prog 80 2) ⟨rxT b s l k, [], []⟩ ((rxO l s k).map (lout [0] rxS)) := by
  refine loop_vc Tryz.mixed (fun _ => rfl) (fun k => (vcRxL_eq b s l k).mpr ?_) k
  unfold vcRxL
  simp
  refine ⟨fun h => ?_, fun h => by simp [drop_end h, inC_nil]⟩
  simp (disch := omega) only [wrap_i64]
  rw [drop_cons h]
  simp only [inC_cons, List.findIdx_cons]
  generalize l[k]?.getD default = y
  by_cases h1 : y.name.data = s.data
  · simp [eqN, h1, h]
  · simp [eqN, h1, h, cast_succ_eq]
    exact ⟨k + 1, by omega, rfl, by grind⟩
theorem at_find : ∀ (l : List Con) (s : ByteArray), inC l s = true → (l.findIdx fun x => eqN x.name s) < l.length ∧ (l.getD (l.findIdx fun x => eqN x.name s) default).off = readO l s
  | [], s, h => by simp [inC_nil] at h
  | y :: l, s, h => by
    rw [inC_cons] at h
    rw [readO_cons, List.findIdx_cons]
    cases hy : eqN y.name s
    · rw [hy, Bool.false_or] at h
      have := at_find l s h
      simpa using this
    · simp
theorem read_none : ∀ (l : List Con) (s : ByteArray), inC l s = false → readO l s = 0
  | [], s, _ => rfl
  | y :: l, s, h => by
    rw [inC_cons, Bool.or_eq_false_iff] at h
    rw [readO_cons, h.1]
    simpa using read_none l s h.2
theorem read_c (b : Bool) (s : ByteArray) (l : List Con) (hl : l.length ≤ 9223372036854775806) : (rdR l s).Sat (ACall' Tryz.prog 90 [encCs b l, .y (.string s)] []) := by
  refine ctr_vc (ht := rxH b s l) Tryz.mixed rfl ?_
  rw [vcRead_eq b s l]
  unfold vcRead
  have lp := rx_loop b s l hl 0
  cases hi : inC l s
  · have := read_none l s hi
    simp [lp, hi, this]
  · have := at_find l s hi
    simp [lp, hi, this.1] at this ⊢
    exact this
def offOk (o : Int) : Prop := 0 ≤ o ∧ o < 18446744073709551616
theorem of_c (b : Bool) (to : List Int) (o : Int) (h0 : 0 < to.length) (hl : to.length ≤ 9223372036854775806) (ho : offOk o) : (u64R (elemO to o)).Sat (ACall' Tryz.prog 53 [encUs b to, .y (.int .u64 o)] []) := by
  refine ctr_vc (ht := hT _) Tryz.mixed rfl ?_
  rw [vcOf_eq b to o]
  unfold vcOf
  have h1 := ho.1
  have h2 := ho.2
  have e : IntKind.u64.wrap (IntKind.i64.wrap ((to.length : Int) - 1)) = (to.length : Int) - 1 := by
    rw [wrap_i64 (by omega) (by omega), wrap_u64 (by omega) (by omega)]
  rw [e]
  unfold elemO
  have hm : (if (to.length : Int) - 1 < o then (to.length : Int) - 1 else o) = min o (to.length - 1) := by
    rw [Int.min_def]; split <;> split <;> omega
  rw [hm]
  have h3 : (0 : Int) ≤ min o (to.length - 1) := by rw [Int.min_def]; split <;> omega
  have h4 : min o ((to.length : Int) - 1) < to.length := by rw [Int.min_def]; split <;> omega
  refine ⟨?_, rfl, trivial⟩
  rw [decide_eq_true h3, decide_eq_true h4]; rfl
noncomputable def coC (b : Bool) (l : List Con) : Ctr Tryz.prog := ⟨44, [encCs b l], [], .need (l.length ≤ 9223372036854775806) (boolR (isCons l)), T.Sat.need fun h => co_c b l h⟩
noncomputable def rdC (b : Bool) (l : List Con) (s : ByteArray) : Ctr Tryz.prog := ⟨90, [encCs b l, .y (.string s)], [], .need (l.length ≤ 9223372036854775806) (rdR l s), T.Sat.need fun h => read_c b s l h⟩
noncomputable def ofC (b : Bool) (to : List Int) (o : Int) : Ctr Tryz.prog := ⟨53, [encUs b to, .y (.int .u64 o)], [], .need (0 < to.length ∧ to.length ≤ 9223372036854775806 ∧ offOk o) (u64R (elemO to o)), T.Sat.need fun h => of_c b to o h.1 h.2.1 h.2.2⟩
end Go.Proofs.YtckklclehofddaaGreatDoor

/-! Records: slices.Clone, BinarySearchFunc of consumers. -/
namespace Go.Proofs.YtckklclehofddaaGreatDoor
open Go.Ax
set_option maxRecDepth 1000000
theorem less_trans : ∀ (a b c : List UInt8), Op.bytesLess a b = true → Op.bytesLess b c = true → Op.bytesLess a c = true
  | [], [], c, h, _ => by simp [Op.bytesLess] at h
  | [], _ :: _, [], _, h => by simp [Op.bytesLess] at h
  | [], _ :: _, _ :: _, _, _ => rfl
  | _ :: _, [], _, h, _ => by simp [Op.bytesLess] at h
  | _ :: _, _ :: _, [], _, h => by simp [Op.bytesLess] at h
  | a :: l, b :: m, c :: n, h1, h2 => by
    simp only [Op.bytesLess, Bool.or_eq_true, Bool.and_eq_true, decide_eq_true_eq, beq_iff_eq] at h1 h2 ⊢
    rcases h1 with h1 | ⟨rfl, h1⟩
    · rcases h2 with h2 | ⟨rfl, h2⟩
      · exact Or.inl (UInt8.lt_trans h1 h2)
      · exact Or.inl h1
    · rcases h2 with h2 | ⟨rfl, h2⟩
      · exact Or.inl h2
      · exact Or.inr ⟨rfl, less_trans l m n h1 h2⟩
theorem lt_trans' {a b c : ByteArray} (h1 : lt a b = true) (h2 : lt b c = true) : lt a c = true := less_trans _ _ _ h1 h2
/-- names rise -/
def risC (l : List Con) : Prop := ∀ i j, i < j → j < l.length → lt (l.getD i default).name (l.getD j default).name = true
def belC (l : List Con) (s : ByteArray) : Nat := (l.takeWhile (fun y => lt y.name s)).length
theorem belC_eq {l : List Con} {s : ByteArray} {i : Nat} (h : i ≤ l.length) (lo : ∀ k, k < i → lt (l.getD k default).name s = true) (hi : ∀ k, i ≤ k → k < l.length → lt (l.getD k default).name s = false) : belC l s = i := by
  unfold belC
  have e : l = l.take i ++ l.drop i := (List.take_append_drop i l).symm
  have h1 : ∀ a ∈ l.take i, lt a.name s = true := by
    intro a ha
    obtain ⟨k, hk, rfl⟩ := List.mem_iff_getElem.1 ha
    simp only [List.length_take] at hk
    have := lo k (by omega)
    have hkl : k < l.length := by omega
    simp [hkl] at this
    simpa using this
  have h2 : (l.drop i).takeWhile (fun y => lt y.name s) = [] := by
    cases hd : l.drop i with
    | nil => rfl
    | cons y r =>
      have hil : i < l.length := by
        have := congrArg List.length hd
        simp at this; omega
      have := hi i (Nat.le_refl _) hil
      rw [List.drop_eq_getElem_cons hil] at hd
      cases hd
      simp [hil] at this
      rw [List.takeWhile_cons_of_neg]
      simpa using this
  rw [e, List.takeWhile_append_of_pos h1, h2, List.append_nil, List.length_take]
  omega
theorem belC_le (l : List Con) (s : ByteArray) : belC l s ≤ l.length := (List.takeWhile_sublist _).length_le
theorem ris_lo {l : List Con} {s : ByteArray} (hr : risC l) {m k : Nat} (hm : m < l.length) (hk : k ≤ m) (h : lt (l.getD m default).name s = true) : lt (l.getD k default).name s = true := by
  rcases Nat.lt_or_ge k m with h1 | h1
  · exact lt_trans' (hr k m h1 hm) h
  · obtain rfl : k = m := by omega
    exact h
theorem ris_hi {l : List Con} {s : ByteArray} (hr : risC l) {m k : Nat} (hk : m ≤ k) (hl : k < l.length) (h : lt (l.getD m default).name s = false) : lt (l.getD k default).name s = false := by
  cases hc : lt (l.getD k default).name s
  · rfl
  · rw [ris_lo hr hl hk hc] at h; exact h
structure BS (l : List Con) (x : Con) where
  i : Nat
  j : Nat
  ij : i ≤ j
  jl : j ≤ l.length
  lo : ∀ k, k < i → lt (l.getD k default).name x.name = true
  hi : ∀ k, j ≤ k → k < l.length → lt (l.getD k default).name x.name = false
def BS.up {l : List Con} {x : Con} (hr : risC l) (q : BS l x) (m : Nat) (h2 : m < q.j) (hx : lt (l.getD m default).name x.name = true) : BS l x where
  i := m + 1
  j := q.j
  ij := by omega
  jl := q.jl
  lo := fun k hk => ris_lo hr (m := m) (by have := q.jl; omega) (by omega) hx
  hi := q.hi
def BS.down {l : List Con} {x : Con} (hr : risC l) (q : BS l x) (m : Nat) (h1 : q.i ≤ m) (h2 : m < q.j) (hx : lt (l.getD m default).name x.name = false) : BS l x where
  i := q.i
  j := m
  ij := h1
  jl := by have := q.jl; omega
  lo := q.lo
  hi := fun k hk hl => ris_hi hr hk hl hx
def BS.start (l : List Con) (x : Con) : BS l x := ⟨0, l.length, Nat.zero_le _, Nat.le_refl _, fun _ h => absurd h (Nat.not_lt_zero _), fun k h1 h2 => absurd h2 (by omega)⟩
def fnB : AV := .fn (.func 92) [] []
def cmpV (a b : ByteArray) : Int := if lt a b then -1 else if lt b a then 1 else 0
def vcBy (x : Con) (y : Con) : Prop :=
  ((!x.name.data.toList == x.name.data.toList) = true → ((!y.name.data.toList == y.name.data.toList) = true → (0 : Int) = cmpV x.name y.name ∧ True) ∧ ((!y.name.data.toList == y.name.data.toList) = false → (-1 : Int) = cmpV x.name y.name ∧ True)) ∧ ((!x.name.data.toList == x.name.data.toList) = false → ((!y.name.data.toList == y.name.data.toList) = true → (1 : Int) = cmpV x.name y.name ∧ True) ∧ ((!y.name.data.toList == y.name.data.toList) = false → (Op.bytesLess x.name.data.toList y.name.data.toList = true → (-1 : Int) = cmpV x.name y.name ∧ True) ∧ (Op.bytesLess x.name.data.toList y.name.data.toList = false → ((!(Op.bytesLess x.name.data.toList y.name.data.toList || x.name.data.toList == y.name.data.toList)) = true → (1 : Int) = cmpV x.name y.name ∧ True) ∧ ((!(Op.bytesLess x.name.data.toList y.name.data.toList || x.name.data.toList == y.name.data.toList)) = false → (0 : Int) = cmpV x.name y.name ∧ True))))
set_option maxRecDepth 1000000 in
theorem vcBy_eq (x : Con) (y : Con) : (ctrVC Tryz.prog (hT _) 92 [.agg (encC x), .agg (encC y)] [] (intR (cmpV x.name y.name))) = vcBy x y := by kernel_rfl
theorem by_c (x y : Con) : (intR (cmpV x.name y.name)).Sat (ACall' Tryz.prog 92 [.agg (encC x), .agg (encC y)] []) := by
  refine ctr_vc (ht := hT _) Tryz.mixed rfl ?_
  rw [vcBy_eq x y]
  unfold vcBy cmpV lt
  have h1 := less_asymm x.name.data.toList y.name.data.toList
  have h2 := less_total x.name.data.toList y.name.data.toList
  have h3 : Op.bytesLess y.name.data.toList x.name.data.toList = true → ¬ x.name.data = y.name.data := fun h e => by rw [e, less_irr] at h; simp at h
  generalize Op.bytesLess x.name.data.toList y.name.data.toList = p at *
  generalize Op.bytesLess y.name.data.toList x.name.data.toList = q at *
  cases p <;> cases q <;> simp at * <;> assumption
noncomputable def byC (x y : Con) : Ctr Tryz.prog := ⟨92, [.agg (encC x), .agg (encC y)], [], intR (cmpV x.name y.name), by_c x y⟩
def bsT (b : Bool) (l : List Con) (x : Con) (q : BS l x) : List AV := mkT 49 [(0, encCs b l), (2, fnB), (4, .ptr 0 0 0 0), (6, .s (.int .i64 0)), (7, .s (.bool false)), (8, .y (.int .i64 l.length)), (9, .y (.int .i64 q.i)), (10, .y (.int .i64 q.j))]
def bsM (x : Con) : List Blk := [.box 41 (encC x)]
def bsS (b : Bool) (l : List Con) (x : Con) (_ : Unit) : Exit × List AV × List Blk := (.exit 0, mkT 49 [(0, encCs b l), (2, fnB), (4, .ptr 0 0 0 0), (8, .y (.int .i64 l.length)), (9, .y (.int .i64 (belC l x.name)))], bsM x)
noncomputable def bsHL (l : List Con) (x : Con) (q : BS l x) : HintsT Tryz.prog := hh _ noLp (cs1 107 5 6 (byC (l.getD ((q.i + q.j) / 2) default) x) noCs) noOp
def vcBsL (b : Bool) (l : List Con) (x : Con) (q : BS l x) : Prop :=
  (decide ((↑q.i : Int) < (↑q.j : Int)) = true → (decide ((0 : Int) ≤ IntKind.wrap IntKind.i64 (IntKind.wrap IntKind.u64 (IntKind.wrap IntKind.i64 ((↑q.i : Int) + (↑q.j : Int))) / (2 : Int))) && decide (IntKind.wrap IntKind.i64 (IntKind.wrap IntKind.u64 (IntKind.wrap IntKind.i64 ((↑q.i : Int) + (↑q.j : Int))) / (2 : Int)) < (↑(List.length l) : Int))) = true ∧ (((List.getD l (Int.toNat (IntKind.wrap IntKind.i64 (IntKind.wrap IntKind.u64 (IntKind.wrap IntKind.i64 ((↑q.i : Int) + (↑q.j : Int))) / (2 : Int)))) (@default Con instInhabitedCon)).name = (List.getD l ((q.i + q.j) / (2 : Nat)) (@default Con instInhabitedCon)).name ∧ (List.getD l (Int.toNat (IntKind.wrap IntKind.i64 (IntKind.wrap IntKind.u64 (IntKind.wrap IntKind.i64 ((↑q.i : Int) + (↑q.j : Int))) / (2 : Int)))) (@default Con instInhabitedCon)).off = (List.getD l ((q.i + q.j) / (2 : Nat)) (@default Con instInhabitedCon)).off ∧ True) ∧ (x.name = x.name ∧ x.off = x.off ∧ True) ∧ True) ∧ True ∧ (decide (cmpV (List.getD l ((q.i + q.j) / (2 : Nat)) (@default Con instInhabitedCon)).name x.name < (0 : Int)) = true → ∃ (j : BS l x), j.j - j.i < q.j - q.i ∧ (((b = b ∧ List.length l = List.length l ∧ contLe (List.length l) (2 : Nat) (cellsOf' encC l) (cellsOf' encC l)) ∧ (True ∧ True) ∧ ((0 : Nat) = (0 : Nat) ∧ (0 : Nat) = (0 : Nat)) ∧ (0 : Int) = (0 : Int) ∧ false = false ∧ (↑(List.length l) : Int) = (↑(List.length l) : Int) ∧ IntKind.wrap IntKind.i64 (IntKind.wrap IntKind.i64 (IntKind.wrap IntKind.u64 (IntKind.wrap IntKind.i64 ((↑q.i : Int) + (↑q.j : Int))) / (2 : Int)) + (1 : Int)) = (↑j.i : Int) ∧ (↑q.j : Int) = (↑j.j : Int) ∧ True) ∧ ((x.name = x.name ∧ x.off = x.off ∧ True) ∧ True) ∧ true = true) ∧ true = true ∧ () = ()) ∧ (decide (cmpV (List.getD l ((q.i + q.j) / (2 : Nat)) (@default Con instInhabitedCon)).name x.name < (0 : Int)) = false → ∃ (j : BS l x), j.j - j.i < q.j - q.i ∧ (((b = b ∧ List.length l = List.length l ∧ contLe (List.length l) (2 : Nat) (cellsOf' encC l) (cellsOf' encC l)) ∧ (True ∧ True) ∧ ((0 : Nat) = (0 : Nat) ∧ (0 : Nat) = (0 : Nat)) ∧ (0 : Int) = (0 : Int) ∧ false = false ∧ (↑(List.length l) : Int) = (↑(List.length l) : Int) ∧ (↑q.i : Int) = (↑j.i : Int) ∧ IntKind.wrap IntKind.i64 (IntKind.wrap IntKind.u64 (IntKind.wrap IntKind.i64 ((↑q.i : Int) + (↑q.j : Int))) / (2 : Int)) = (↑j.j : Int) ∧ True) ∧ ((x.name = x.name ∧ x.off = x.off ∧ True) ∧ True) ∧ true = true) ∧ true = true ∧ () = ())) ∧ (decide ((↑q.i : Int) < (↑q.j : Int)) = false → ((b = b ∧ List.length l = List.length l ∧ contLe (List.length l) (2 : Nat) (cellsOf' encC l) (cellsOf' encC l)) ∧ (True ∧ True) ∧ ((0 : Nat) = (0 : Nat) ∧ (0 : Nat) = (0 : Nat)) ∧ (↑(List.length l) : Int) = (↑(List.length l) : Int) ∧ (↑q.i : Int) = (↑(belC l x.name) : Int) ∧ True) ∧ ((x.name = x.name ∧ x.off = x.off ∧ True) ∧ True) ∧ true = true)
set_option maxRecDepth 1000000 in
theorem vcBsL_eq (b : Bool) (l : List Con) (x : Con) (q : BS l x) : (loopVC Tryz.prog (bsHL l x q) 107 3 (fun q : BS l x => q.j - q.i) (bsT b l x) (fun _ => bsM x) [1, 2, 3, 4] (fun _ => .ret ()) (bsS b l x) q) = vcBsL b l x q := by kernel_rfl
noncomputable def bsH (b : Bool) (l : List Con) (x : Con) : HintsT Tryz.prog := hh _ (lp1 107 3 (jobOf (bsT b l x) (fun _ => bsM x) [1, 2, 3, 4] (fun _ => .ret ()) (bsS b l x) (BS.start l x)) noLp) (cs1 107 8 11 (byC (l.getD (belC l x.name) default) x) noCs) noOp
def bsF (l : List Con) (x : Con) : Bool := decide (belC l x.name < l.length) && (cmpV (l.getD (belC l x.name) default).name x.name == 0)
def bsR (l : List Con) (x : Con) : T An := .ret (.tup [.y (.int .i64 (belC l x.name)), .y (.bool (bsF l x))], [], [])
def vcBs (b : Bool) (l : List Con) (x : Con) : Prop :=
  (((b = b ∧ List.length l = List.length l ∧ contLe (List.length l) (2 : Nat) (cellsOf' encC l) (cellsOf' encC l)) ∧ (True ∧ True) ∧ ((0 : Nat) = (0 : Nat) ∧ (0 : Nat) = (0 : Nat)) ∧ (0 : Int) = (0 : Int) ∧ false = false ∧ (↑(List.length l) : Int) = (↑(List.length l) : Int) ∧ (0 : Int) = (0 : Int) ∧ (↑(List.length l) : Int) = (↑(List.length l) : Int) ∧ True) ∧ ((x.name = x.name ∧ x.off = x.off ∧ True) ∧ True) ∧ true = true) ∧ LoopOk Tryz.prog (107 : Nat) (3 : Nat) (loopAt Tryz.prog (107 : Nat) (3 : Nat)) { t := bsT b l x (BS.start l x), m := bsM x, mv := [] : St } (T.map (lout [(1 : Nat), (2 : Nat), (3 : Nat), (4 : Nat)] (bsS b l x)) ((fun (x : BS l x) => T.ret ()) (BS.start l x))) ∧ (decide ((↑(belC l x.name) : Int) < (↑(List.length l) : Int)) = true → (true && decide ((↑(belC l x.name) : Int) < (↑(List.length l) : Int))) = true ∧ (((List.getD l (Int.toNat (↑(belC l x.name) : Int)) (@default Con instInhabitedCon)).name = (List.getD l (belC l x.name) (@default Con instInhabitedCon)).name ∧ (List.getD l (Int.toNat (↑(belC l x.name) : Int)) (@default Con instInhabitedCon)).off = (List.getD l (belC l x.name) (@default Con instInhabitedCon)).off ∧ True) ∧ (x.name = x.name ∧ x.off = x.off ∧ True) ∧ True) ∧ True ∧ ((↑(belC l x.name) : Int) = (↑(belC l x.name) : Int) ∧ (cmpV (List.getD l (belC l x.name) (@default Con instInhabitedCon)).name x.name == (0 : Int)) = bsF l x ∧ True) ∧ True) ∧ (decide ((↑(belC l x.name) : Int) < (↑(List.length l) : Int)) = false → ((↑(belC l x.name) : Int) = (↑(belC l x.name) : Int) ∧ false = bsF l x ∧ True) ∧ True)
set_option maxRecDepth 1000000 in
theorem vcBs_eq (b : Bool) (l : List Con) (x : Con) : (ctrVC Tryz.prog (bsH b l x) 107 [encCs b l, .agg (encC x), fnB] [] (bsR l x)) = vcBs b l x := by kernel_rfl
/-! slices.Clone -/
def ccR (l : List Con) : T An := .ret (.own 0 2 0 l.length, [rowC l], [])
noncomputable def ccH : HintsT Tryz.prog := hh _ noLp noCs (op1 108 2 0 (.row 41 2) noOp)
def vcCc0 (l : List Con) : Prop :=
  ((0 : Nat) = (0 : Nat) ∧ (0 : Nat) = List.length l) ∧ ((0 : Nat) = List.length l ∧ contLe (0 : Nat) (2 : Nat) (fun (x x_1 : Nat) => AV.junk) (cellsOf' encC l)) ∧ True
set_option maxRecDepth 1000000 in
theorem vcCc0_eq (l : List Con) : (ctrVC Tryz.prog ccH 108 [.s (.slice none 0 0)] [] (ccR l)) = vcCc0 l := by kernel_rfl
def vcCc1 (b : Bool) (l : List Con) : Prop :=
  (decide ((0 : Nat) + List.length l ≤ (9223372036854775807 : Nat)) && decide (((0 : Nat) + List.length l) * (24 : Nat) ≤ (140737488355328 : Nat))) = true ∧ ((0 : Nat) = (0 : Nat) ∧ (0 : Nat) + List.length l = List.length l) ∧ ((0 : Nat) + List.length l = List.length l ∧ contLe ((0 : Nat) + List.length l) (2 : Nat) (appRow (0 : Nat) (fun (k j : Nat) => AV.junk) (cellsOf' encC l)) (cellsOf' encC l)) ∧ True
set_option maxRecDepth 1000000 in
theorem vcCc1_eq (b : Bool) (l : List Con) : (ctrVC Tryz.prog ccH 108 [.yn b 2 l.length (cellsOf' encC l)] [] (ccR l)) = vcCc1 b l := by kernel_rfl
theorem cc_c (b : Bool) (l : List Con) (hl : l.length * 24 ≤ 140737488355328) : (ccR l).Sat (ACall' Tryz.prog 108 [encCs b l] []) := by
  refine nil_cases (pre := []) (post := []) (fun h0 => ?_) ?_ ⟨_, rfl⟩
  · refine ctr_vc (ht := ccH) Tryz.mixed rfl ?_
    rw [List.nil_append, vcCc0_eq l]
    unfold vcCc0
    simp [h0]
  · refine ctr_vc (ht := ccH) Tryz.mixed rfl ?_
    rw [List.nil_append, vcCc1_eq b l]
    unfold vcCc1
    simp
    omega
noncomputable def ccC (b : Bool) (l : List Con) (hl : l.length * 24 ≤ 140737488355328) : Ctr Tryz.prog := ⟨108, [encCs b l], [], ccR l, cc_c b l hl⟩
theorem cmp_le {a b : ByteArray} (h : lt a b = false) : (decide (cmpV a b < 0)) = false := by
  unfold cmpV; rw [h]; simp; split <;> omega
theorem cmp_lt {a b : ByteArray} (h : lt a b = true) : (decide (cmpV a b < 0)) = true := by
  unfold cmpV; rw [h]; rfl
theorem bs_loop (b : Bool) (l : List Con) (x : Con) (hl : l.length ≤ 4611686018427387900) (hr : risC l) (q : BS l x) : LoopOk Tryz.prog 107 3 (loopAt Tryz.prog 107 3) ⟨bsT b l x q, bsM x, []⟩ (T.map (lout [1, 2, 3, 4] (bsS b l x)) (.ret ())) := by
  refine loop_vcH (ht := bsHL l x) (o := fun _ => .ret ()) Tryz.mixed (fun _ => rfl) (fun q => (vcBsL_eq b l x q).mpr ?_) q
  unfold vcBsL
  have h1 := q.ij
  have h2 := q.jl
  obtain ⟨m, hm⟩ : ∃ m, m = (q.i + q.j) / 2 := ⟨_, rfl⟩
  have hw : IntKind.i64.wrap (IntKind.u64.wrap (IntKind.i64.wrap (↑q.i + ↑q.j)) / 2) = (m : Int) := by
    rw [wrap_i64 (n := ↑q.i + ↑q.j) (by omega) (by omega), wrap_u64 (by omega) (by omega), wrap_i64 (by omega) (by omega)]; omega
  rw [← hm]
  simp [hw]
  refine ⟨fun h => ⟨by omega, fun hx => ?_, fun hx => ?_⟩, fun h => ?_⟩
  · have hc : lt (l.getD m default).name x.name = true := by
      cases hc : lt (l.getD m default).name x.name
      · have := of_decide_eq_false (cmp_le hc); simp at this; omega
      · rfl
    refine ⟨q.up hr m (by omega) hc, ?_, ?_, rfl⟩
    · show q.j - (m + 1) < q.j - q.i; omega
    · show IntKind.i64.wrap (m + 1) = ((m + 1 : Nat) : Int)
      rw [wrap_i64 (by omega) (by omega)]; omega
  · have hc : lt (l.getD m default).name x.name = false := by
      cases hc : lt (l.getD m default).name x.name
      · rfl
      · have := of_decide_eq_true (cmp_lt hc); simp at this; omega
    refine ⟨q.down hr m (by omega) (by omega) hc, ?_, rfl, rfl⟩
    show m - q.i < q.j - q.i; omega
  · have := belC_eq (i := q.i) (by omega) q.lo fun k hk hl => q.hi k (by omega) hl
    omega
theorem bs_c (b : Bool) (l : List Con) (x : Con) (hl : l.length ≤ 4611686018427387900) (hr : risC l) : (bsR l x).Sat (ACall' Tryz.prog 107 [encCs b l, .agg (encC x), fnB] []) := by
  refine ctr_vc (ht := bsH b l x) Tryz.mixed rfl ?_
  rw [vcBs_eq b l x]
  unfold vcBs
  have := bs_loop b l x hl hr (BS.start l x)
  simp [bsF, this]
  grind
noncomputable def bsC (b : Bool) (l : List Con) (x : Con) (hl : l.length ≤ 4611686018427387900) (hr : risC l) : Ctr Tryz.prog := ⟨107, [encCs b l, .agg (encC x), fnB], [], bsR l x, bs_c b l x hl hr⟩
end Go.Proofs.YtckklclehofddaaGreatDoor

/-! Records: put, the program's and the document's: the conditions. -/
namespace Go.Proofs.YtckklclehofddaaGreatDoor
open Go.Ax
set_option maxRecDepth 1000000
def putL (l : List Con) (x : Con) : List Con := if bsF l x then l.set (belC l x.name) x else l.take (belC l x.name) ++ x :: l.drop (belC l x.name)
def rho : Go.Shelf.Ren := ⟨fun f => match f with | 22 => 109 | 29 => 122 | 30 => 123 | x => x, fun t => match t with | 24 => 28 | 9 => 41 | x => x, fun x => x⟩
theorem lay : InsLay Tryz.prog rho 2 24 ((Tryz.prog.info? 41).bind (·.zero) |>.getD undef) "slices.Insert[[]gazette/api.Consumer,gazette/api.Consumer]" where
  mixed := by kernel_rfl
  f22 := by kernel_rfl
  ov := fun w args => by
    rw [show rho.f 29 = 122 from rfl, run_callFunc_extern (P := Tryz.prog) (f := 122) (fn := Tryz.f122) Tryz.func122 (by kernel_rfl) (by kernel_rfl) (by kernel_rfl) (e := Extern.SlicesOverlaps.overlaps #[28, 28] #[4]) (by kernel_rfl)]
    rfl
  t0 := by kernel_rfl
  a0 := fun w => by kernel_rfl
  z0 := fun w => by kernel_rfl
  v0 := fun w => by kernel_rfl
  t3 := by kernel_rfl
  a3 := fun w => by kernel_rfl
  z3 := fun w => by kernel_rfl
  v3 := fun w => by kernel_rfl
  t4 := by kernel_rfl
  a4 := fun w => by kernel_rfl
  z4 := fun w => by kernel_rfl
  v4 := fun w => by kernel_rfl
  t24 := by kernel_rfl
  a24 := fun w => by kernel_rfl
  z24 := fun w => by kernel_rfl
  v24 := fun w => by kernel_rfl
  z9 := fun w => by kernel_rfl
  i9s := by kernel_rfl
  i9 := by kernel_rfl
  pos := by decide
  zc := by kernel_rfl
noncomputable def putH (b : Bool) (l : List Con) (x : Con) (hl : l.length * 24 ≤ 140737488355200) (hr : risC l) : HintsT Tryz.prog :=
  withIns (withSub (hh _ noLp (cs1 91 1 3 (bsC b l x (by omega) hr) (cs1 91 2 1 (ccC b l (by omega)) noCs)) noOp) [109]) lay
def conR (l : List Con) : T An := .ret (.own 0 2 0 l.length, [rowC l], [])
def vcPut (b : Bool) (l : List Con) (x : Con) (hl : l.length * 24 ≤ 140737488355200) (hr : risC l) : Prop :=
  ((b = b ∧ List.length l = List.length l ∧ contLe (List.length l) (2 : Nat) (cellsOf' encC l) (cellsOf' encC l)) ∧ (x.name = x.name ∧ x.off = x.off ∧ True) ∧ (True ∧ True) ∧ True) ∧ True ∧ ((b = b ∧ List.length l = List.length l ∧ contLe (List.length l) (2 : Nat) (cellsOf' encC l) (cellsOf' encC l)) ∧ True) ∧ True ∧ (bsF l x = true → (true && decide ((↑(belC l x.name) : Int) < (↑(List.length l) : Int))) = true ∧ decide ((0 : Nat) + Int.toNat (↑(belC l x.name) : Int) < List.length l) = true ∧ ((0 : Nat) = (0 : Nat) ∧ List.length l = List.length (putL l x)) ∧ (List.length l = List.length (putL l x) ∧ contLe (List.length l) (2 : Nat) (wrRow (cellsOf' encC l) ((0 : Nat) + Int.toNat (↑(belC l x.name) : Int)) (0 : Nat) [AV.y (Value.string x.name), AV.y (Value.int IntKind.u64 x.off)]) (cellsOf' encC (putL l x))) ∧ True) ∧ (bsF l x = false → (List.length l = List.length l ∧ (0 : Int) ≤ (↑(belC l x.name) : Int) ∧ (↑(belC l x.name) : Int) ≤ (↑(List.length l) : Int) ∧ List.length l + (1 : Nat) ≤ (9223372036854775807 : Nat) ∧ (List.length l + (1 : Nat)) * (24 : Nat) ≤ (140737488355328 : Nat)) ∧ ((0 : Nat) = (0 : Nat) ∧ List.length l + (1 : Nat) = List.length (putL l x)) ∧ (List.length l + (1 : Nat) = List.length (putL l x) ∧ contLe (List.length l + (1 : Nat)) (2 : Nat) (insRow (Int.toNat (↑(belC l x.name) : Int)) (1 : Nat) (cellsOf' encC l) fun (k j : Nat) => Ax.get [AV.y (Value.string x.name), AV.y (Value.int IntKind.u64 x.off)] (k * (2 : Nat) + j)) (cellsOf' encC (putL l x))) ∧ True)
set_option maxRecDepth 1000000 in
theorem vcPut_eq (b : Bool) (l : List Con) (x : Con) (hl : l.length * 24 ≤ 140737488355200) (hr : risC l) : (ctrVC Tryz.prog (putH b l x hl hr) 91 [encCs b l, .agg (encC x), fnB] [] (conR (putL l x))) = vcPut b l x hl hr := by kernel_rfl
/-! the document's put -/
def stp (x : Con) (s : Bool × List Con) (y : Con) : Bool × List Con :=
  let s1 := if (!lt y.name x.name && !s.1) = true then (true, s.2 ++ [x]) else s
  if y.name.data = x.name.data then s1 else (s1.1, s1.2 ++ [y])
/-! alike -/
end Go.Proofs.YtckklclehofddaaGreatDoor

/-! Records: put, the program's and the document's: the contracts; the same on rising names. -/
namespace Go.Proofs.YtckklclehofddaaGreatDoor
open Go.Ax
set_option maxRecDepth 1000000
theorem enc_le (x : Con) : ∀ j, j < 2 → le0 (Ax.get [.y (.string x.name), .y (.int .u64 x.off)] j) (Ax.get (encC x) j) := fun j hj => by
  match j, hj with
  | 0, _ => simp [encC]
  | 1, _ => simp [encC]
theorem put_c (b : Bool) (l : List Con) (x : Con) (hl : l.length * 24 ≤ 140737488355200) (hr : risC l) : (conR (putL l x)).Sat (ACall' Tryz.prog 91 [encCs b l, .agg (encC x), fnB] []) := by
  refine ctr_vc (ht := putH b l x hl hr) Tryz.mixed rfl ?_
  rw [vcPut_eq b l x hl hr]
  unfold vcPut
  have h2 := belC_le l x.name
  cases hf : bsF l x
  · have e : putL l x = l.take (belC l x.name) ++ x :: l.drop (belC l x.name) := by unfold putL; rw [hf]; rfl
    have hn : (putL l x).length = l.length + 1 := by rw [e]; simp; omega
    simp [hn]
    refine ⟨⟨h2, by omega, by omega⟩, ?_⟩
    rw [e]
    exact ins_le rfl h2 fun j hj => by rw [Nat.zero_mul, Nat.zero_add]; exact enc_le x j hj
  · have e : putL l x = l.set (belC l x.name) x := by unfold putL; rw [hf]; rfl
    have hn : (putL l x).length = l.length := by rw [e]; simp
    have h3 : belC l x.name < l.length := by
      unfold bsF at hf
      rw [Bool.and_eq_true] at hf
      exact of_decide_eq_true hf.1
    simp [hn, h3]
    rw [e]
    exact wr_le rfl h3 rfl (enc_le x)
noncomputable def putC (b : Bool) (l : List Con) (x : Con) : Ctr Tryz.prog := ⟨91, [encCs b l, .agg (encC x), fnB], [], .need (l.length * 24 ≤ 140737488355200 ∧ risC l) (conR (putL l x)), T.Sat.need fun h => put_c b l x h.1 h.2⟩
/-! alike -/
/-! the document's put -/
/-! they are the same -/
theorem putL_cons (y : Con) (t : List Con) (x : Con) : putL (y :: t) x = if lt y.name x.name then y :: putL t x else if y.name.data = x.name.data then x :: t else x :: y :: t := by
  cases h : lt y.name x.name
  · have hb : belC (y :: t) x.name = 0 := by unfold belC; rw [List.takeWhile_cons_of_neg (by simp [h])]; rfl
    by_cases h2 : y.name.data = x.name.data
    · have hc : cmpV y.name x.name = 0 := by
        unfold cmpV lt
        rw [h2, less_irr]; rfl
      simp [putL, bsF, hb, h2, hc]
    · have hc : ¬ cmpV y.name x.name = 0 := by
        unfold cmpV
        rw [h]
        cases h3 : lt x.name y.name
        · exact absurd (Array.toList_inj.1 (less_total _ _ h h3)) h2
        · simp
      simp [putL, bsF, hb, h2, hc]
  · have hb : belC (y :: t) x.name = belC t x.name + 1 := by unfold belC; rw [List.takeWhile_cons_of_pos (by simp [h])]; rfl
    have hf : bsF (y :: t) x = bsF t x := by
      unfold bsF
      rw [hb]; simp
    unfold putL
    rw [hf, hb]
    cases bsF t x <;> simp
def oth (l : List Con) (x : Con) : List Con := l.filter fun y => decide (¬ y.name.data = x.name.data)
theorem oth_cons (y : Con) (t : List Con) (x : Con) : oth (y :: t) x = if y.name.data = x.name.data then oth t x else y :: oth t x := by
  unfold oth
  by_cases h : y.name.data = x.name.data <;> simp [h]
theorem risC_pw (r : List Con) : risC r ↔ r.Pairwise (fun a b => lt a.name b.name = true) := by
  rw [List.pairwise_iff_getElem]
  constructor
  · intro h i j hi hj hij
    have := h i j hij hj
    simpa [hi, hj] using this
  · intro h i j hij hj
    have := h i j (by omega) hj hij
    simpa [show i < r.length by omega, hj] using this
theorem put_mem {x : Con} {P : Con → Prop} (hx : P x) : ∀ (l : List Con), (∀ z ∈ l, P z) → ∀ z ∈ putL l x, P z
  | [], _, z, hz => by
    simp [putL, bsF, belC] at hz
    rw [hz]; exact hx
  | y :: t, h, z, hz => by
    rw [putL_cons] at hz
    have h1 := h y List.mem_cons_self
    have h2 := fun z hz => h z (List.mem_cons_of_mem y hz)
    have ih := put_mem hx t h2 z
    split at hz
    · rcases List.mem_cons.1 hz with rfl | hz
      · exact h1
      · exact ih hz
    · split at hz
      · rcases List.mem_cons.1 hz with rfl | hz
        · exact hx
        · exact h2 z hz
      · rcases List.mem_cons.1 hz with rfl | hz
        · exact hx
        · rcases List.mem_cons.1 hz with rfl | hz
          · exact h1
          · exact h2 z hz
theorem put_pw (x : Con) : ∀ (l : List Con), l.Pairwise (fun a b => lt a.name b.name = true) → (putL l x).Pairwise (fun a b => lt a.name b.name = true)
  | [], _ => by simp [putL, bsF, belC]
  | y :: t, h => by
    rw [List.pairwise_cons] at h
    rw [putL_cons]
    cases h1 : lt y.name x.name
    · by_cases h2 : y.name.data = x.name.data
      · simp only [Bool.false_eq_true, if_false, h2, if_true]
        refine List.pairwise_cons.2 ⟨fun z hz => ?_, h.2⟩
        have := h.1 z hz
        unfold lt at this ⊢
        rw [← h2]; exact this
      · simp only [Bool.false_eq_true, if_false, h2]
        have h3 : lt x.name y.name = true := by
          cases h3 : lt x.name y.name
          · exact absurd (Array.toList_inj.1 (less_total _ _ h1 h3)) h2
          · rfl
        refine List.pairwise_cons.2 ⟨fun z hz => ?_, List.pairwise_cons.2 ⟨h.1, h.2⟩⟩
        rcases List.mem_cons.1 hz with rfl | hz
        · exact h3
        · exact lt_trans' h3 (h.1 z hz)
    · simp only [if_true]
      exact List.pairwise_cons.2 ⟨put_mem (P := fun z => lt y.name z.name = true) h1 t h.1, put_pw x t h.2⟩
theorem put_ris {l : List Con} {x : Con} (h : risC l) : risC (putL l x) := (risC_pw _).2 (put_pw x l ((risC_pw l).1 h))
theorem put_len (l : List Con) (x : Con) : (putL l x).length ≤ l.length + 1 := by
  have := belC_le l x.name
  unfold putL
  split <;> simp <;> omega
end Go.Proofs.YtckklclehofddaaGreatDoor

/-! Records: Map: the conditions. -/
namespace Go.Proofs.YtckklclehofddaaGreatDoor
open Go.Ax
set_option maxRecDepth 1000000
def movC (to : List Int) (x : Con) : Con := ⟨x.name, elemO to x.off⟩
def mapU (l : List Con) (to : List Int) (k : Nat) : List Con := if to.length = 0 then [] else (l.take k).map (movC to)
def fnO (b : Bool) (to : List Int) : AV := .fn (.func 53) [encUs b to] []
def mpT (b1 b2 : Bool) (l : List Con) (to : List Int) (k : Nat) : List AV := mkT 32 [(5, fnO b2 to), (6, .own 0 2 0 (mapU l to k).length), (14, encCs b1 l), (15, .y (.int .i64 l.length)), (16, .y (.int .i64 k))]
def mpM (l : List Con) (to : List Int) (k : Nat) : List Blk := [rowC (mapU l to k)]
def mpS (l : List Con) (to : List Int) (_ : Unit) : Exit × List AV × List Blk := (.exit 0, mkT 32 [(6, .own 0 2 0 (mapU l to l.length).length)], mpM l to l.length)
noncomputable def mpHL (b2 : Bool) (l : List Con) (to : List Int) (k : Nat) : HintsT Tryz.prog := hh _ noLp (cs1 24 8 6 (ofC b2 to (l.getD k default).off) noCs) noOp
def vcMpL (b1 : Bool) (b2 : Bool) (l : List Con) (to : List Int) (k : Nat) : Prop :=
  (decide ((↑k : Int) < (↑(List.length l) : Int)) = true → (true && decide ((↑k : Int) < (↑(List.length l) : Int))) = true ∧ ((b2 = b2 ∧ List.length to = List.length to ∧ contLe (List.length to) (1 : Nat) (cellsOf' encU to) (cellsOf' encU to)) ∧ (List.getD l (Int.toNat (↑k : Int)) (@default Con instInhabitedCon)).off = (List.getD l k (@default Con instInhabitedCon)).off ∧ True) ∧ True ∧ ((0 : Nat) < List.length to ∧ List.length to ≤ (9223372036854775806 : Nat) ∧ (0 : Int) ≤ (List.getD l k (@default Con instInhabitedCon)).off ∧ (List.getD l k (@default Con instInhabitedCon)).off < (18446744073709551616 : Int)) ∧ (decide (List.length (mapU l to k) = List.length (mapU l to k)) && decide (List.length (mapU l to k) + (1 : Nat) ≤ (9223372036854775807 : Nat)) && decide ((List.length (mapU l to k) + (1 : Nat)) * (24 : Nat) ≤ (140737488355328 : Nat))) = true ∧ ∃ (j : Nat), List.length l - j < List.length l - k ∧ (((((b2 = b2 ∧ List.length to = List.length to ∧ contLe (List.length to) (1 : Nat) (cellsOf' encU to) (cellsOf' encU to)) ∧ True) ∧ True) ∧ ((0 : Nat) = (0 : Nat) ∧ List.length (mapU l to k) + (1 : Nat) = List.length (mapU l to j)) ∧ (b1 = b1 ∧ List.length l = List.length l ∧ contLe (List.length l) (2 : Nat) (cellsOf' encC l) (cellsOf' encC l)) ∧ (↑(List.length l) : Int) = (↑(List.length l) : Int) ∧ IntKind.wrap IntKind.i64 ((↑k : Int) + (1 : Int)) = (↑j : Int) ∧ True) ∧ ((List.length (mapU l to k) + (1 : Nat) = List.length (mapU l to j) ∧ contLe (List.length (mapU l to k) + (1 : Nat)) (2 : Nat) (appRow (List.length (mapU l to k)) (cellsOf' encC (mapU l to k)) fun (k_1 j : Nat) => Ax.get [AV.y (Value.string (List.getD l (Int.toNat (↑k : Int)) (@default Con instInhabitedCon)).name), AV.y (Value.int IntKind.u64 (elemO to (List.getD l k (@default Con instInhabitedCon)).off))] (k_1 * (2 : Nat) + j)) (cellsOf' encC (mapU l to j))) ∧ True) ∧ true = true) ∧ true = true ∧ () = ()) ∧ (decide ((↑k : Int) < (↑(List.length l) : Int)) = false → (((0 : Nat) = (0 : Nat) ∧ List.length (mapU l to k) = List.length (mapU l to (List.length l))) ∧ True) ∧ ((List.length (mapU l to k) = List.length (mapU l to (List.length l)) ∧ contLe (List.length (mapU l to k)) (2 : Nat) (cellsOf' encC (mapU l to k)) (cellsOf' encC (mapU l to (List.length l)))) ∧ True) ∧ true = true)
set_option maxRecDepth 1000000 in
theorem vcMpL_eq (b1 : Bool) (b2 : Bool) (l : List Con) (to : List Int) (k : Nat) : (loopVC Tryz.prog (mpHL b2 l to k) 24 6 (fun k => l.length - k) (mpT b1 b2 l to) (mpM l to) [0, 1, 2, 3, 4, 5] (fun _ => .ret ()) (mpS l to) k) = vcMpL b1 b2 l to k := by kernel_rfl
noncomputable def mpH (b1 b2 : Bool) (l : List Con) (to : List Int) : HintsT Tryz.prog :=
  hh _ (lp1 24 6 (jobOf (mpT b1 b2 l to) (mpM l to) [0, 1, 2, 3, 4, 5] (fun _ => .ret ()) (mpS l to) 0) noLp) noCs (op1 24 4 0 (.row 41 2) (op1 24 2 0 (.row 41 2) noOp))
def vcMp (b1 : Bool) (b2 : Bool) (l : List Con) (to : List Int) : Prop :=
  (((↑(List.length to) : Int) == (0 : Int)) = true → ((0 : Nat) = (0 : Nat) ∧ (0 : Nat) = List.length (mapU l to (List.length l))) ∧ ((0 : Nat) = List.length (mapU l to (List.length l)) ∧ contLe (0 : Nat) (2 : Nat) (fun (x x_1 : Nat) => AV.junk) (cellsOf' encC (mapU l to (List.length l)))) ∧ True) ∧ (((↑(List.length to) : Int) == (0 : Int)) = false → (((((b2 = b2 ∧ List.length to = List.length to ∧ contLe (List.length to) (1 : Nat) (cellsOf' encU to) (cellsOf' encU to)) ∧ True) ∧ True) ∧ ((0 : Nat) = (0 : Nat) ∧ (0 : Nat) = List.length (mapU l to (0 : Nat))) ∧ (b1 = b1 ∧ List.length l = List.length l ∧ contLe (List.length l) (2 : Nat) (cellsOf' encC l) (cellsOf' encC l)) ∧ (↑(List.length l) : Int) = (↑(List.length l) : Int) ∧ (0 : Int) = (0 : Int) ∧ True) ∧ (((0 : Nat) = List.length (mapU l to (0 : Nat)) ∧ contLe (0 : Nat) (2 : Nat) (fun (x x_1 : Nat) => AV.junk) (cellsOf' encC (mapU l to (0 : Nat)))) ∧ True) ∧ true = true) ∧ LoopOk Tryz.prog (24 : Nat) (6 : Nat) (loopAt Tryz.prog (24 : Nat) (6 : Nat)) { t := mpT b1 b2 l to (0 : Nat), m := mpM l to (0 : Nat), mv := [] : St } (T.map (lout [(0 : Nat), (1 : Nat), (2 : Nat), (3 : Nat), (4 : Nat), (5 : Nat)] (mpS l to)) ((fun (x : Nat) => T.ret ()) (0 : Nat))) ∧ ((0 : Nat) = (0 : Nat) ∧ List.length (mapU l to (List.length l)) = List.length (mapU l to (List.length l))) ∧ (List.length (mapU l to (List.length l)) = List.length (mapU l to (List.length l)) ∧ contLe (List.length (mapU l to (List.length l))) (2 : Nat) (cellsOf' encC (mapU l to (List.length l))) (cellsOf' encC (mapU l to (List.length l)))) ∧ True)
set_option maxRecDepth 1000000 in
theorem vcMp_eq (b1 : Bool) (b2 : Bool) (l : List Con) (to : List Int) : (ctrVC Tryz.prog (mpH b1 b2 l to) 24 [encCs b1 l, encUs b2 to] [] (conR (mapU l to l.length))) = vcMp b1 b2 l to := by kernel_rfl
/-! Concat of two -/
def catA (b1 b2 : Bool) (a b : List Con) : AV := .ys false 1 2 (fun k j => get [encCs b1 a, encCs b2 b] (k * 1 + j))
noncomputable def catH : HintsT Tryz.prog := withSh (hh _ noLp noCs noOp) (sh1 105 6 0 1 noSh)
def vcCat (b1 : Bool) (b2 : Bool) (a : List Con) (b : List Con) : Prop :=
  (true = true → true = true ∧ (decide (IntKind.wrap IntKind.i64 ((0 : Int) + (↑(List.length a) : Int)) < (0 : Int)) = true → False) ∧ (decide (IntKind.wrap IntKind.i64 ((0 : Int) + (↑(List.length a) : Int)) < (0 : Int)) = false → (true = true → true = true ∧ (decide (IntKind.wrap IntKind.i64 (IntKind.wrap IntKind.i64 ((0 : Int) + (↑(List.length a) : Int)) + (↑(List.length b) : Int)) < (0 : Int)) = true → False) ∧ (decide (IntKind.wrap IntKind.i64 (IntKind.wrap IntKind.i64 ((0 : Int) + (↑(List.length a) : Int)) + (↑(List.length b) : Int)) < (0 : Int)) = false → (false = true → false = true ∧ False) ∧ (false = false → (decide (IntKind.wrap IntKind.i64 (IntKind.wrap IntKind.i64 ((0 : Int) + (↑(List.length a) : Int)) + (↑(List.length b) : Int)) < (0 : Int)) = true → False) ∧ (decide (IntKind.wrap IntKind.i64 (IntKind.wrap IntKind.i64 ((0 : Int) + (↑(List.length a) : Int)) + (↑(List.length b) : Int)) < (0 : Int)) = false → (decide ((0 : Int) < IntKind.wrap IntKind.i64 (IntKind.wrap IntKind.i64 (IntKind.wrap IntKind.i64 ((0 : Int) + (↑(List.length a) : Int)) + (↑(List.length b) : Int)) - (0 : Int))) = true → (0 : Int) < IntKind.wrap IntKind.i64 (IntKind.wrap IntKind.i64 (IntKind.wrap IntKind.i64 ((0 : Int) + (↑(List.length a) : Int)) + (↑(List.length b) : Int)) - (0 : Int)) ∧ IntKind.wrap IntKind.i64 (IntKind.wrap IntKind.i64 (IntKind.wrap IntKind.i64 ((0 : Int) + (↑(List.length a) : Int)) + (↑(List.length b) : Int)) - (0 : Int)) ≤ (9223372036854775807 : Int) ∧ IntKind.wrap IntKind.i64 (IntKind.wrap IntKind.i64 (IntKind.wrap IntKind.i64 ((0 : Int) + (↑(List.length a) : Int)) + (↑(List.length b) : Int)) - (0 : Int)) * (24 : Int) ≤ (281474976710656 : Int) ∧ true = true ∧ (true = true → true = true ∧ (true && decide ((0 : Nat) + List.length a ≤ (9223372036854775807 : Nat)) && decide (((0 : Nat) + List.length a) * (24 : Nat) ≤ (140737488355328 : Nat))) = true ∧ (true = true → true = true ∧ (decide ((0 : Nat) + List.length a = (0 : Nat) + List.length a) && decide ((0 : Nat) + List.length a + List.length b ≤ (9223372036854775807 : Nat)) && decide (((0 : Nat) + List.length a + List.length b) * (24 : Nat) ≤ (140737488355328 : Nat))) = true ∧ (false = true → false = true ∧ False) ∧ (false = false → ((0 : Nat) = (0 : Nat) ∧ (0 : Nat) + List.length a + List.length b = List.length (a ++ b)) ∧ ((0 : Nat) + List.length a + List.length b = List.length (a ++ b) ∧ contLe ((0 : Nat) + List.length a + List.length b) (2 : Nat) (appRow ((0 : Nat) + List.length a) (appRow (0 : Nat) (fun (x j : Nat) => Ax.get [AV.s (Value.string { data := #[] : ByteArray }), AV.s (Value.int IntKind.u64 (0 : Int))] j) (cellsOf' encC a)) (cellsOf' encC b)) (cellsOf' encC (a ++ b))) ∧ True)) ∧ (true = false → ((0 : Nat) = (0 : Nat) ∧ (0 : Nat) + List.length a = List.length (a ++ b)) ∧ ((0 : Nat) + List.length a = List.length (a ++ b) ∧ contLe ((0 : Nat) + List.length a) (2 : Nat) (appRow (0 : Nat) (fun (x j : Nat) => Ax.get [AV.s (Value.string { data := #[] : ByteArray }), AV.s (Value.int IntKind.u64 (0 : Int))] j) (cellsOf' encC a)) (cellsOf' encC (a ++ b))) ∧ True)) ∧ (true = false → ((0 : Nat) = (0 : Nat) ∧ (0 : Nat) = List.length (a ++ b)) ∧ ((0 : Nat) = List.length (a ++ b) ∧ contLe (0 : Nat) (2 : Nat) (fun (x j : Nat) => Ax.get [AV.s (Value.string { data := #[] : ByteArray }), AV.s (Value.int IntKind.u64 (0 : Int))] j) (cellsOf' encC (a ++ b))) ∧ True)) ∧ (decide ((0 : Int) < IntKind.wrap IntKind.i64 (IntKind.wrap IntKind.i64 (IntKind.wrap IntKind.i64 ((0 : Int) + (↑(List.length a) : Int)) + (↑(List.length b) : Int)) - (0 : Int))) = false → (true = true → true = true ∧ (decide (List.length a ≤ (9223372036854775807 : Nat)) && decide (List.length a * (24 : Nat) ≤ (140737488355328 : Nat))) = true ∧ (true = true → true = true ∧ (decide ((0 : Nat) + List.length a = List.length a) && decide (List.length a + List.length b ≤ (9223372036854775807 : Nat)) && decide ((List.length a + List.length b) * (24 : Nat) ≤ (140737488355328 : Nat))) = true ∧ (false = true → false = true ∧ False) ∧ (false = false → ((0 : Nat) = (0 : Nat) ∧ List.length a + List.length b = List.length (a ++ b)) ∧ (List.length a + List.length b = List.length (a ++ b) ∧ contLe (List.length a + List.length b) (2 : Nat) (appRow (List.length a) (appRow (0 : Nat) (fun (k j : Nat) => AV.junk) (cellsOf' encC a)) (cellsOf' encC b)) (cellsOf' encC (a ++ b))) ∧ True)) ∧ (true = false → ((0 : Nat) = (0 : Nat) ∧ List.length a = List.length (a ++ b)) ∧ ((0 : Nat) + List.length a = List.length (a ++ b) ∧ contLe ((0 : Nat) + List.length a) (2 : Nat) (appRow (0 : Nat) (fun (k j : Nat) => AV.junk) (cellsOf' encC a)) (cellsOf' encC (a ++ b))) ∧ True)) ∧ (true = false → False ∧ False)))))) ∧ (true = false → (decide (IntKind.wrap IntKind.i64 ((0 : Int) + (↑(List.length a) : Int)) < (0 : Int)) = true → False) ∧ (decide (IntKind.wrap IntKind.i64 ((0 : Int) + (↑(List.length a) : Int)) < (0 : Int)) = false → (decide ((0 : Int) < IntKind.wrap IntKind.i64 (IntKind.wrap IntKind.i64 ((0 : Int) + (↑(List.length a) : Int)) - (0 : Int))) = true → (0 : Int) < IntKind.wrap IntKind.i64 (IntKind.wrap IntKind.i64 ((0 : Int) + (↑(List.length a) : Int)) - (0 : Int)) ∧ IntKind.wrap IntKind.i64 (IntKind.wrap IntKind.i64 ((0 : Int) + (↑(List.length a) : Int)) - (0 : Int)) ≤ (9223372036854775807 : Int) ∧ IntKind.wrap IntKind.i64 (IntKind.wrap IntKind.i64 ((0 : Int) + (↑(List.length a) : Int)) - (0 : Int)) * (24 : Int) ≤ (281474976710656 : Int) ∧ true = true ∧ (true = true → true = true ∧ (true && decide ((0 : Nat) + List.length a ≤ (9223372036854775807 : Nat)) && decide (((0 : Nat) + List.length a) * (24 : Nat) ≤ (140737488355328 : Nat))) = true ∧ (true = true → true = true ∧ (decide ((0 : Nat) + List.length a = (0 : Nat) + List.length a) && decide ((0 : Nat) + List.length a + List.length b ≤ (9223372036854775807 : Nat)) && decide (((0 : Nat) + List.length a + List.length b) * (24 : Nat) ≤ (140737488355328 : Nat))) = true ∧ (false = true → false = true ∧ False) ∧ (false = false → ((0 : Nat) = (0 : Nat) ∧ (0 : Nat) + List.length a + List.length b = List.length (a ++ b)) ∧ ((0 : Nat) + List.length a + List.length b = List.length (a ++ b) ∧ contLe ((0 : Nat) + List.length a + List.length b) (2 : Nat) (appRow ((0 : Nat) + List.length a) (appRow (0 : Nat) (fun (x j : Nat) => Ax.get [AV.s (Value.string { data := #[] : ByteArray }), AV.s (Value.int IntKind.u64 (0 : Int))] j) (cellsOf' encC a)) (cellsOf' encC b)) (cellsOf' encC (a ++ b))) ∧ True)) ∧ (true = false → ((0 : Nat) = (0 : Nat) ∧ (0 : Nat) + List.length a = List.length (a ++ b)) ∧ ((0 : Nat) + List.length a = List.length (a ++ b) ∧ contLe ((0 : Nat) + List.length a) (2 : Nat) (appRow (0 : Nat) (fun (x j : Nat) => Ax.get [AV.s (Value.string { data := #[] : ByteArray }), AV.s (Value.int IntKind.u64 (0 : Int))] j) (cellsOf' encC a)) (cellsOf' encC (a ++ b))) ∧ True)) ∧ (true = false → ((0 : Nat) = (0 : Nat) ∧ (0 : Nat) = List.length (a ++ b)) ∧ ((0 : Nat) = List.length (a ++ b) ∧ contLe (0 : Nat) (2 : Nat) (fun (x j : Nat) => Ax.get [AV.s (Value.string { data := #[] : ByteArray }), AV.s (Value.int IntKind.u64 (0 : Int))] j) (cellsOf' encC (a ++ b))) ∧ True)) ∧ (decide ((0 : Int) < IntKind.wrap IntKind.i64 (IntKind.wrap IntKind.i64 ((0 : Int) + (↑(List.length a) : Int)) - (0 : Int))) = false → (true = true → true = true ∧ (decide (List.length a ≤ (9223372036854775807 : Nat)) && decide (List.length a * (24 : Nat) ≤ (140737488355328 : Nat))) = true ∧ (true = true → true = true ∧ (decide ((0 : Nat) + List.length a = List.length a) && decide (List.length a + List.length b ≤ (9223372036854775807 : Nat)) && decide ((List.length a + List.length b) * (24 : Nat) ≤ (140737488355328 : Nat))) = true ∧ (false = true → false = true ∧ False) ∧ (false = false → ((0 : Nat) = (0 : Nat) ∧ List.length a + List.length b = List.length (a ++ b)) ∧ (List.length a + List.length b = List.length (a ++ b) ∧ contLe (List.length a + List.length b) (2 : Nat) (appRow (List.length a) (appRow (0 : Nat) (fun (k j : Nat) => AV.junk) (cellsOf' encC a)) (cellsOf' encC b)) (cellsOf' encC (a ++ b))) ∧ True)) ∧ (true = false → ((0 : Nat) = (0 : Nat) ∧ List.length a = List.length (a ++ b)) ∧ ((0 : Nat) + List.length a = List.length (a ++ b) ∧ contLe ((0 : Nat) + List.length a) (2 : Nat) (appRow (0 : Nat) (fun (k j : Nat) => AV.junk) (cellsOf' encC a)) (cellsOf' encC (a ++ b))) ∧ True)) ∧ (true = false → False ∧ False)))))) ∧ (true = false → (true = true → true = true ∧ (decide (List.length a ≤ (9223372036854775807 : Nat)) && decide (List.length a * (24 : Nat) ≤ (140737488355328 : Nat))) = true ∧ (true = true → true = true ∧ (decide ((0 : Nat) + List.length a = List.length a) && decide (List.length a + List.length b ≤ (9223372036854775807 : Nat)) && decide ((List.length a + List.length b) * (24 : Nat) ≤ (140737488355328 : Nat))) = true ∧ (false = true → false = true ∧ False) ∧ (false = false → ((0 : Nat) = (0 : Nat) ∧ List.length a + List.length b = List.length (a ++ b)) ∧ (List.length a + List.length b = List.length (a ++ b) ∧ contLe (List.length a + List.length b) (2 : Nat) (appRow (List.length a) (appRow (0 : Nat) (fun (k j : Nat) => AV.junk) (cellsOf' encC a)) (cellsOf' encC b)) (cellsOf' encC (a ++ b))) ∧ True)) ∧ (true = false → ((0 : Nat) = (0 : Nat) ∧ List.length a = List.length (a ++ b)) ∧ ((0 : Nat) + List.length a = List.length (a ++ b) ∧ contLe ((0 : Nat) + List.length a) (2 : Nat) (appRow (0 : Nat) (fun (k j : Nat) => AV.junk) (cellsOf' encC a)) (cellsOf' encC (a ++ b))) ∧ True)) ∧ (true = false → False ∧ False))
set_option maxRecDepth 1000000 in
theorem vcCat_eq (b1 : Bool) (b2 : Bool) (a : List Con) (b : List Con) : (ctrVC Tryz.prog catH 89 [catA b1 b2 a b] [] (conR (a ++ b))) = vcCat b1 b2 a b := by kernel_rfl
end Go.Proofs.YtckklclehofddaaGreatDoor

/-! Records: Map, Concat: the contracts. -/
namespace Go.Proofs.YtckklclehofddaaGreatDoor
open Go.Ax
set_option maxRecDepth 1000000
def wfC (l : List Con) : Prop := ∀ x ∈ l, offOk x.off
theorem wfC_at {l : List Con} (h : wfC l) {k : Nat} (hk : k < l.length) : offOk (l.getD k default).off := h _ (by simp [hk])
theorem mapU_step {l : List Con} {to : List Int} {k : Nat} (h : k < l.length) (ht : ¬ to.length = 0) : mapU l to (k + 1) = mapU l to k ++ [movC to (l[k]?.getD default)] := by
  unfold mapU
  rw [if_neg ht, if_neg ht]
  have : l.take (k + 1) = l.take k ++ [l[k]?.getD default] := by
    rw [List.take_add_one, List.getElem?_eq_getElem h]; rfl
  rw [this, List.map_append]; rfl
theorem mapU_len (l : List Con) (to : List Int) (k : Nat) : (mapU l to k).length ≤ l.length := by
  unfold mapU
  split <;> simp
  exact Nat.min_le_right _ _
theorem mapU_end {l : List Con} {to : List Int} {k : Nat} (h : l.length ≤ k) : mapU l to k = mapU l to l.length := by
  unfold mapU
  rw [List.take_of_length_le h, List.take_length]
theorem mp_loop (b1 b2 : Bool) (l : List Con) (to : List Int) (ht : 0 < to.length) (htl : to.length ≤ 9223372036854775806) (hl : l.length * 24 ≤ 140737488355200) (hw : wfC l) (k : Nat) : LoopOk Tryz.prog 24 6 (loopAt Tryz.prog 24 6) ⟨mpT b1 b2 l to k, mpM l to k, []⟩ (T.map (lout [0, 1, 2, 3, 4, 5] (mpS l to)) (.ret ())) := by
  refine loop_vcH (ht := mpHL b2 l to) (o := fun _ => .ret ()) Tryz.mixed (fun _ => rfl) (fun k => (vcMpL_eq b1 b2 l to k).mpr ?_) k
  unfold vcMpL
  have hlen := mapU_len l to k
  simp
  refine ⟨fun h => ?_, fun h => ?_⟩
  · have hwk := wfC_at hw h
    have e1 : IntKind.i64.wrap ((k : Int) + 1) = ((k + 1 : Nat) : Int) := by rw [wrap_i64 (by omega) (by omega)]; omega
    rw [e1]
    simp at hwk
    refine ⟨h, ⟨ht, htl, hwk.1, hwk.2⟩, ⟨by omega, by omega⟩, k + 1, by omega, ⟨⟨?_, rfl⟩, ?_⟩⟩
    all_goals rw [mapU_step h (by omega)]
    · simp
    · refine ⟨by simp, app_le (contLe_refl _ _ _) rfl fun j hj => ?_⟩
      exact enc_le (movC to (l[k]?.getD default)) j hj
  · rw [mapU_end h]
    exact ⟨rfl, contLe_refl _ _ _⟩
theorem mp_c (b1 b2 : Bool) (l : List Con) (to : List Int) (htl : to.length ≤ 9223372036854775806) (hl : l.length * 24 ≤ 140737488355200) (hw : wfC l) : (conR (mapU l to l.length)).Sat (ACall' Tryz.prog 24 [encCs b1 l, encUs b2 to] []) := by
  refine ctr_vc (ht := mpH b1 b2 l to) Tryz.mixed rfl ?_
  rw [vcMp_eq b1 b2 l to]
  unfold vcMp
  by_cases h0 : to.length = 0
  · simp [h0, mapU]
  · have lp := mp_loop b1 b2 l to (by omega) htl hl hw 0
    have h1 : ¬ ((to.length : Int) = 0) := by omega
    simp [h0, lp]
    have e0 : mapU l to 0 = [] := by unfold mapU; split <;> simp
    simp [e0]
theorem cat2_le {n sz : Nat} {a b : List Con} {c : Nat → Nat → AV} (h : contLe a.length sz c (cellsOf' encC a)) (hn : n = a.length) : contLe (n + b.length) sz (appRow n c (cellsOf' encC b)) (cellsOf' encC (a ++ b)) := by
  subst hn
  intro k hk j hj
  unfold appRow
  split
  · rename_i h1
    have := h k h1 j hj
    rw [cells_at] at this ⊢
    rw [show (a ++ b).getD k default = a.getD k default by simp [List.getD_eq_getElem?_getD, List.getElem?_append_left h1]]
    exact this
  · rename_i h1
    rw [cells_at, cells_at, show (a ++ b).getD k default = b.getD (k - a.length) default by simp [List.getD_eq_getElem?_getD, List.getElem?_append_right (Nat.le_of_not_lt h1)]]
    exact le0_refl _
theorem cat1_le {n sz : Nat} {a : List Con} {c : Nat → Nat → AV} : contLe n sz (appRow 0 c (cellsOf' encC a)) (cellsOf' encC a) := by
  intro k hk j hj
  unfold appRow
  rw [if_neg (Nat.not_lt_zero _)]
  exact le0_refl _
theorem cat_c (b1 b2 : Bool) (a b : List Con) (ha : a.length ≤ 100000) (hb : b.length ≤ 100000) : (conR (a ++ b)).Sat (ACall' Tryz.prog 89 [catA b1 b2 a b] []) := by
  refine ctr_vc (ht := catH) Tryz.mixed rfl ?_
  rw [vcCat_eq b1 b2 a b]
  unfold vcCat
  have e1 : IntKind.i64.wrap (0 + (a.length : Int)) = a.length := by rw [wrap_i64 (by omega) (by omega)]; omega
  have e2 : IntKind.i64.wrap ((a.length : Int) + (b.length : Int)) = a.length + b.length := by rw [wrap_i64 (by omega) (by omega)]
  have e3 : IntKind.i64.wrap (((a.length : Int) + (b.length : Int)) - 0) = a.length + b.length := by rw [wrap_i64 (by omega) (by omega)]; omega
  have e4 : IntKind.i64.wrap ((a.length : Int) - 0) = a.length := by rw [wrap_i64 (by omega) (by omega)]; omega
  simp only [e1, e2, e3, e4]
  simp
  have z1 : contLe (a.length + b.length) 2 (appRow a.length (appRow 0 (fun (x j : Nat) => Ax.get [AV.s (Value.string { data := #[] : ByteArray }), AV.s (Value.int IntKind.u64 (0 : Int))] j) (cellsOf' encC a)) (cellsOf' encC b)) (cellsOf' encC (a ++ b)) := cat2_le cat1_le rfl
  have z2 : contLe (a.length + b.length) 2 (appRow a.length (appRow 0 (fun (k j : Nat) => AV.junk) (cellsOf' encC a)) (cellsOf' encC b)) (cellsOf' encC (a ++ b)) := cat2_le cat1_le rfl
  repeat' first | apply And.intro | with_reducible intro _
  all_goals first | omega | exact z1 | exact z2
end Go.Proofs.YtckklclehofddaaGreatDoor
