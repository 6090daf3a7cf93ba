import Derived.Test.YtnbhdjadlbhknaaGreatDoorProg
import Derived.KernelRfl
import Derived.Test.YtnbhdjadlbhknaaGreatDoorE11
import Derived.Test.YtnbhdjadlbhknaaGreatDoorW1
set_option linter.unusedVariables false
set_option linter.unusedSimpArgs false
set_option linter.unusedSectionVars false
namespace Go.Proofs.YtnbhdjadlbhknaaGreatDoor
open Go.Ax
set_option maxRecDepth 1000000
theorem less_trans : ∀ (a b c : List UInt8), Op.bytesLess a b = true → Op.bytesLess b c = true → Op.bytesLess a c = true
  | [], [], c, h, _ => by simp [Op.bytesLess] at h
  | [], _ :: _, [], _, h => by simp [Op.bytesLess] at h
  | [], _ :: _, _ :: _, _, _ => rfl
  | _ :: _, [], _, h, _ => by simp [Op.bytesLess] at h
  | _ :: _, _ :: _, [], _, h => by simp [Op.bytesLess] at h
  | a :: l, b :: m, c :: n, h1, h2 => by
    simp only [Op.bytesLess, Bool.or_eq_true, Bool.and_eq_true, decide_eq_true_eq, beq_iff_eq] at h1 h2 ⊢
    rcases h1 with h1 | ⟨rfl, h1⟩
    · rcases h2 with h2 | ⟨rfl, h2⟩
      · exact Or.inl (UInt8.lt_trans h1 h2)
      · exact Or.inl h1
    · rcases h2 with h2 | ⟨rfl, h2⟩
      · exact Or.inl h2
      · exact Or.inr ⟨rfl, less_trans l m n h1 h2⟩
theorem lt_trans' {a b c : ByteArray} (h1 : lt a b = true) (h2 : lt b c = true) : lt a c = true := less_trans _ _ _ h1 h2
def risC (l : List Con) : Prop := ∀ i j, i < j → j < l.length → lt (l.getD i default).name (l.getD j default).name = true
def belC (l : List Con) (s : ByteArray) : Nat := (l.takeWhile (fun y => lt y.name s)).length
theorem belC_eq {l : List Con} {s : ByteArray} {i : Nat} (h : i ≤ l.length) (lo : ∀ k, k < i → lt (l.getD k default).name s = true) (hi : ∀ k, i ≤ k → k < l.length → lt (l.getD k default).name s = false) : belC l s = i := by
  unfold belC
  have e : l = l.take i ++ l.drop i := (List.take_append_drop i l).symm
  have h1 : ∀ a ∈ l.take i, lt a.name s = true := by
    intro a ha
    obtain ⟨k, hk, rfl⟩ := List.mem_iff_getElem.1 ha
    simp only [List.length_take] at hk
    have := lo k (by omega)
    have hkl : k < l.length := by omega
    simp [hkl] at this
    simpa using this
  have h2 : (l.drop i).takeWhile (fun y => lt y.name s) = [] := by
    cases hd : l.drop i with
    | nil => rfl
    | cons y r =>
      have hil : i < l.length := by
        have := congrArg List.length hd
        simp at this; omega
      have := hi i (Nat.le_refl _) hil
      rw [List.drop_eq_getElem_cons hil] at hd
      cases hd
      simp [hil] at this
      rw [List.takeWhile_cons_of_neg]
      simpa using this
  rw [e, List.takeWhile_append_of_pos h1, h2, List.append_nil, List.length_take]
  omega
theorem belC_le (l : List Con) (s : ByteArray) : belC l s ≤ l.length := (List.takeWhile_sublist _).length_le
theorem ris_lo {l : List Con} {s : ByteArray} (hr : risC l) {m k : Nat} (hm : m < l.length) (hk : k ≤ m) (h : lt (l.getD m default).name s = true) : lt (l.getD k default).name s = true := by
  rcases Nat.lt_or_ge k m with h1 | h1
  · exact lt_trans' (hr k m h1 hm) h
  · obtain rfl : k = m := by omega
    exact h
theorem ris_hi {l : List Con} {s : ByteArray} (hr : risC l) {m k : Nat} (hk : m ≤ k) (hl : k < l.length) (h : lt (l.getD m default).name s = false) : lt (l.getD k default).name s = false := by
  cases hc : lt (l.getD k default).name s
  · rfl
  · rw [ris_lo hr hl hk hc] at h; exact h
structure BS (l : List Con) (x : Con) where
  i : Nat
  j : Nat
  ij : i ≤ j
  jl : j ≤ l.length
  lo : ∀ k, k < i → lt (l.getD k default).name x.name = true
  hi : ∀ k, j ≤ k → k < l.length → lt (l.getD k default).name x.name = false
def BS.up {l : List Con} {x : Con} (hr : risC l) (q : BS l x) (m : Nat) (h2 : m < q.j) (hx : lt (l.getD m default).name x.name = true) : BS l x where
  i := m + 1
  j := q.j
  ij := by omega
  jl := q.jl
  lo := fun k hk => ris_lo hr (m := m) (by have := q.jl; omega) (by omega) hx
  hi := q.hi
def BS.down {l : List Con} {x : Con} (hr : risC l) (q : BS l x) (m : Nat) (h1 : q.i ≤ m) (h2 : m < q.j) (hx : lt (l.getD m default).name x.name = false) : BS l x where
  i := q.i
  j := m
  ij := h1
  jl := by have := q.jl; omega
  lo := q.lo
  hi := fun k hk hl => ris_hi hr hk hl hx
def BS.start (l : List Con) (x : Con) : BS l x := ⟨0, l.length, Nat.zero_le _, Nat.le_refl _, fun _ h => absurd h (Nat.not_lt_zero _), fun k h1 h2 => absurd h2 (by omega)⟩
def fnB : AV := .fn (.func 160) [] []
def cmpV (a b : ByteArray) : Int := if lt a b then -1 else if lt b a then 1 else 0
def vcBy (x : Con) (y : Con) : Prop :=
  ((!x.name.data.toList == x.name.data.toList) = true → ((!y.name.data.toList == y.name.data.toList) = true → (0 : Int) = cmpV x.name y.name ∧ True) ∧ ((!y.name.data.toList == y.name.data.toList) = false → (-1 : Int) = cmpV x.name y.name ∧ True)) ∧ ((!x.name.data.toList == x.name.data.toList) = false → ((!y.name.data.toList == y.name.data.toList) = true → (1 : Int) = cmpV x.name y.name ∧ True) ∧ ((!y.name.data.toList == y.name.data.toList) = false → (Op.bytesLess x.name.data.toList y.name.data.toList = true → (-1 : Int) = cmpV x.name y.name ∧ True) ∧ (Op.bytesLess x.name.data.toList y.name.data.toList = false → ((!(Op.bytesLess x.name.data.toList y.name.data.toList || x.name.data.toList == y.name.data.toList)) = true → (1 : Int) = cmpV x.name y.name ∧ True) ∧ ((!(Op.bytesLess x.name.data.toList y.name.data.toList || x.name.data.toList == y.name.data.toList)) = false → (0 : Int) = cmpV x.name y.name ∧ True))))
theorem vcBy_eq (x : Con) (y : Con) : (ctrVC Tryz.prog (hT _) 160 [.agg (encC x), .agg (encC y)] [] (intR (cmpV x.name y.name))) = vcBy x y := by kernel_rfl
theorem by_c (x y : Con) : (intR (cmpV x.name y.name)).Sat (ACall' Tryz.prog 160 [.agg (encC x), .agg (encC y)] []) := by
  refine ctr_vc (ht := hT _) Tryz.mixed rfl ?_
  rw [vcBy_eq x y]
  unfold vcBy cmpV lt
  have h1 := less_asymm x.name.data.toList y.name.data.toList
  have h2 := less_total x.name.data.toList y.name.data.toList
  have h3 : Op.bytesLess y.name.data.toList x.name.data.toList = true → ¬ x.name.data = y.name.data := fun h e => by rw [e, less_irr] at h; simp at h
  generalize Op.bytesLess x.name.data.toList y.name.data.toList = p at *
  generalize Op.bytesLess y.name.data.toList x.name.data.toList = q at *
  cases p <;> cases q <;> simp at * <;> assumption
noncomputable def byC (x y : Con) : Ctr Tryz.prog := ⟨160, [.agg (encC x), .agg (encC y)], [], intR (cmpV x.name y.name), by_c x y⟩
def bsT (b : Bool) (l : List Con) (x : Con) (q : BS l x) : List AV := mkT 49 [(0, encCs b l), (2, fnB), (4, .ptr 0 0 0 0), (6, .s (.int .i64 0)), (7, .s (.bool false)), (8, .y (.int .i64 l.length)), (9, .y (.int .i64 q.i)), (10, .y (.int .i64 q.j))]
def bsM (x : Con) : List Blk := [.box 83 (encC x)]
def bsS (b : Bool) (l : List Con) (x : Con) (_ : Unit) : Exit × List AV × List Blk := (.exit 0, mkT 49 [(0, encCs b l), (2, fnB), (4, .ptr 0 0 0 0), (8, .y (.int .i64 l.length)), (9, .y (.int .i64 (belC l x.name)))], bsM x)
noncomputable def bsHL (l : List Con) (x : Con) (q : BS l x) : HintsT Tryz.prog := hh _ noLp (cs1 166 5 6 (byC (l.getD ((q.i + q.j) / 2) default) x) noCs) noOp
def vcBsL (b : Bool) (l : List Con) (x : Con) (q : BS l x) : Prop :=
  (decide ((↑q.i : Int) < (↑q.j : Int)) = true → (decide ((0 : Int) ≤ IntKind.wrap IntKind.i64 (IntKind.wrap IntKind.u64 (IntKind.wrap IntKind.i64 ((↑q.i : Int) + (↑q.j : Int))) / (2 : Int))) && decide (IntKind.wrap IntKind.i64 (IntKind.wrap IntKind.u64 (IntKind.wrap IntKind.i64 ((↑q.i : Int) + (↑q.j : Int))) / (2 : Int)) < (↑(List.length l) : Int))) = true ∧ (((List.getD l (Int.toNat (IntKind.wrap IntKind.i64 (IntKind.wrap IntKind.u64 (IntKind.wrap IntKind.i64 ((↑q.i : Int) + (↑q.j : Int))) / (2 : Int)))) (@default Con instInhabitedCon)).name = (List.getD l ((q.i + q.j) / (2 : Nat)) (@default Con instInhabitedCon)).name ∧ (List.getD l (Int.toNat (IntKind.wrap IntKind.i64 (IntKind.wrap IntKind.u64 (IntKind.wrap IntKind.i64 ((↑q.i : Int) + (↑q.j : Int))) / (2 : Int)))) (@default Con instInhabitedCon)).off = (List.getD l ((q.i + q.j) / (2 : Nat)) (@default Con instInhabitedCon)).off ∧ True) ∧ (x.name = x.name ∧ x.off = x.off ∧ True) ∧ True) ∧ True ∧ (decide (cmpV (List.getD l ((q.i + q.j) / (2 : Nat)) (@default Con instInhabitedCon)).name x.name < (0 : Int)) = true → ∃ (j : BS l x), j.j - j.i < q.j - q.i ∧ (((b = b ∧ List.length l = List.length l ∧ contLe (List.length l) (2 : Nat) (cellsOf' encC l) (cellsOf' encC l)) ∧ (True ∧ True) ∧ ((0 : Nat) = (0 : Nat) ∧ (0 : Nat) = (0 : Nat)) ∧ (0 : Int) = (0 : Int) ∧ false = false ∧ (↑(List.length l) : Int) = (↑(List.length l) : Int) ∧ IntKind.wrap IntKind.i64 (IntKind.wrap IntKind.i64 (IntKind.wrap IntKind.u64 (IntKind.wrap IntKind.i64 ((↑q.i : Int) + (↑q.j : Int))) / (2 : Int)) + (1 : Int)) = (↑j.i : Int) ∧ (↑q.j : Int) = (↑j.j : Int) ∧ True) ∧ ((x.name = x.name ∧ x.off = x.off ∧ True) ∧ True) ∧ true = true) ∧ true = true ∧ () = ()) ∧ (decide (cmpV (List.getD l ((q.i + q.j) / (2 : Nat)) (@default Con instInhabitedCon)).name x.name < (0 : Int)) = false → ∃ (j : BS l x), j.j - j.i < q.j - q.i ∧ (((b = b ∧ List.length l = List.length l ∧ contLe (List.length l) (2 : Nat) (cellsOf' encC l) (cellsOf' encC l)) ∧ (True ∧ True) ∧ ((0 : Nat) = (0 : Nat) ∧ (0 : Nat) = (0 : Nat)) ∧ (0 : Int) = (0 : Int) ∧ false = false ∧ (↑(List.length l) : Int) = (↑(List.length l) : Int) ∧ (↑q.i : Int) = (↑j.i : Int) ∧ IntKind.wrap IntKind.i64 (IntKind.wrap IntKind.u64 (IntKind.wrap IntKind.i64 ((↑q.i : Int) + (↑q.j : Int))) / (2 : Int)) = (↑j.j : Int) ∧ True) ∧ ((x.name = x.name ∧ x.off = x.off ∧ True) ∧ True) ∧ true = true) ∧ true = true ∧ () = ())) ∧ (decide ((↑q.i : Int) < (↑q.j : Int)) = false → ((b = b ∧ List.length l = List.length l ∧ contLe (List.length l) (2 : Nat) (cellsOf' encC l) (cellsOf' encC l)) ∧ (True ∧ True) ∧ ((0 : Nat) = (0 : Nat) ∧ (0 : Nat) = (0 : Nat)) ∧ (↑(List.length l) : Int) = (↑(List.length l) : Int) ∧ (↑q.i : Int) = (↑(belC l x.name) : Int) ∧ True) ∧ ((x.name = x.name ∧ x.off = x.off ∧ True) ∧ True) ∧ true = true)
theorem vcBsL_eq (b : Bool) (l : List Con) (x : Con) (q : BS l x) : (loopVC Tryz.prog (bsHL l x q) 166 3 (fun q : BS l x => q.j - q.i) (bsT b l x) (fun _ => bsM x) [1, 2, 3, 4] (fun _ => .ret ()) (bsS b l x) q) = vcBsL b l x q := by kernel_rfl
noncomputable def bsH (b : Bool) (l : List Con) (x : Con) : HintsT Tryz.prog := hh _ (lp1 166 3 (jobOf (bsT b l x) (fun _ => bsM x) [1, 2, 3, 4] (fun _ => .ret ()) (bsS b l x) (BS.start l x)) noLp) (cs1 166 8 11 (byC (l.getD (belC l x.name) default) x) noCs) noOp
def bsF (l : List Con) (x : Con) : Bool := decide (belC l x.name < l.length) && (cmpV (l.getD (belC l x.name) default).name x.name == 0)
def bsR (l : List Con) (x : Con) : T An := .ret (.tup [.y (.int .i64 (belC l x.name)), .y (.bool (bsF l x))], [], [])
def vcBs (b : Bool) (l : List Con) (x : Con) : Prop :=
  (((b = b ∧ List.length l = List.length l ∧ contLe (List.length l) (2 : Nat) (cellsOf' encC l) (cellsOf' encC l)) ∧ (True ∧ True) ∧ ((0 : Nat) = (0 : Nat) ∧ (0 : Nat) = (0 : Nat)) ∧ (0 : Int) = (0 : Int) ∧ false = false ∧ (↑(List.length l) : Int) = (↑(List.length l) : Int) ∧ (0 : Int) = (0 : Int) ∧ (↑(List.length l) : Int) = (↑(List.length l) : Int) ∧ True) ∧ ((x.name = x.name ∧ x.off = x.off ∧ True) ∧ True) ∧ true = true) ∧ LoopOk Tryz.prog (166 : Nat) (3 : Nat) (loopAt Tryz.prog (166 : Nat) (3 : Nat)) { t := bsT b l x (BS.start l x), m := bsM x, mv := [] : St } (T.map (lout [(1 : Nat), (2 : Nat), (3 : Nat), (4 : Nat)] (bsS b l x)) ((fun (x : BS l x) => T.ret ()) (BS.start l x))) ∧ (decide ((↑(belC l x.name) : Int) < (↑(List.length l) : Int)) = true → (true && decide ((↑(belC l x.name) : Int) < (↑(List.length l) : Int))) = true ∧ (((List.getD l (Int.toNat (↑(belC l x.name) : Int)) (@default Con instInhabitedCon)).name = (List.getD l (belC l x.name) (@default Con instInhabitedCon)).name ∧ (List.getD l (Int.toNat (↑(belC l x.name) : Int)) (@default Con instInhabitedCon)).off = (List.getD l (belC l x.name) (@default Con instInhabitedCon)).off ∧ True) ∧ (x.name = x.name ∧ x.off = x.off ∧ True) ∧ True) ∧ True ∧ ((↑(belC l x.name) : Int) = (↑(belC l x.name) : Int) ∧ (cmpV (List.getD l (belC l x.name) (@default Con instInhabitedCon)).name x.name == (0 : Int)) = bsF l x ∧ True) ∧ True) ∧ (decide ((↑(belC l x.name) : Int) < (↑(List.length l) : Int)) = false → ((↑(belC l x.name) : Int) = (↑(belC l x.name) : Int) ∧ false = bsF l x ∧ True) ∧ True)
theorem vcBs_eq (b : Bool) (l : List Con) (x : Con) : (ctrVC Tryz.prog (bsH b l x) 166 [encCs b l, .agg (encC x), fnB] [] (bsR l x)) = vcBs b l x := by kernel_rfl
def ccR (l : List Con) : T An := .ret (.own 0 2 0 l.length, [rowC l], [])
noncomputable def ccH : HintsT Tryz.prog := hh _ noLp noCs (op1 102 2 0 (.row 83 2) noOp)
def vcCc0 (l : List Con) : Prop :=
  ((0 : Nat) = (0 : Nat) ∧ (0 : Nat) = List.length l) ∧ ((0 : Nat) = List.length l ∧ contLe (0 : Nat) (2 : Nat) (fun (x x_1 : Nat) => AV.junk) (cellsOf' encC l)) ∧ True
theorem vcCc0_eq (l : List Con) : (ctrVC Tryz.prog ccH 102 [.s (.slice none 0 0)] [] (ccR l)) = vcCc0 l := by kernel_rfl
def vcCc1 (b : Bool) (l : List Con) : Prop :=
  (decide ((0 : Nat) + List.length l ≤ (9223372036854775807 : Nat)) && decide (((0 : Nat) + List.length l) * (24 : Nat) ≤ (140737488355328 : Nat))) = true ∧ ((0 : Nat) = (0 : Nat) ∧ (0 : Nat) + List.length l = List.length l) ∧ ((0 : Nat) + List.length l = List.length l ∧ contLe ((0 : Nat) + List.length l) (2 : Nat) (appRow (0 : Nat) (fun (k j : Nat) => AV.junk) (cellsOf' encC l)) (cellsOf' encC l)) ∧ True
theorem vcCc1_eq (b : Bool) (l : List Con) : (ctrVC Tryz.prog ccH 102 [.yn b 2 l.length (cellsOf' encC l)] [] (ccR l)) = vcCc1 b l := by kernel_rfl
theorem cc_c (b : Bool) (l : List Con) (hl : l.length * 24 ≤ 140737488355328) : (ccR l).Sat (ACall' Tryz.prog 102 [encCs b l] []) := by
  refine nil_cases (pre := []) (post := []) (fun h0 => ?_) ?_ ⟨_, rfl⟩
  · refine ctr_vc (ht := ccH) Tryz.mixed rfl ?_
    rw [List.nil_append, vcCc0_eq l]
    unfold vcCc0
    simp [h0]
  · refine ctr_vc (ht := ccH) Tryz.mixed rfl ?_
    rw [List.nil_append, vcCc1_eq b l]
    unfold vcCc1
    simp
    omega
noncomputable def ccC (b : Bool) (l : List Con) (hl : l.length * 24 ≤ 140737488355328) : Ctr Tryz.prog := ⟨102, [encCs b l], [], ccR l, cc_c b l hl⟩
theorem cmp_le {a b : ByteArray} (h : lt a b = false) : (decide (cmpV a b < 0)) = false := by
  unfold cmpV; rw [h]; simp; split <;> omega
theorem cmp_lt {a b : ByteArray} (h : lt a b = true) : (decide (cmpV a b < 0)) = true := by
  unfold cmpV; rw [h]; rfl
theorem bs_loop (b : Bool) (l : List Con) (x : Con) (hl : l.length ≤ 4611686018427387900) (hr : risC l) (q : BS l x) : LoopOk Tryz.prog 166 3 (loopAt Tryz.prog 166 3) ⟨bsT b l x q, bsM x, []⟩ (T.map (lout [1, 2, 3, 4] (bsS b l x)) (.ret ())) := by
  refine loop_vcH (ht := bsHL l x) (o := fun _ => .ret ()) Tryz.mixed (fun _ => rfl) (fun q => (vcBsL_eq b l x q).mpr ?_) q
  unfold vcBsL
  have h1 := q.ij
  have h2 := q.jl
  obtain ⟨m, hm⟩ : ∃ m, m = (q.i + q.j) / 2 := ⟨_, rfl⟩
  have hw : IntKind.i64.wrap (IntKind.u64.wrap (IntKind.i64.wrap (↑q.i + ↑q.j)) / 2) = (m : Int) := by
    rw [wrap_i64 (n := ↑q.i + ↑q.j) (by omega) (by omega), wrap_u64 (by omega) (by omega), wrap_i64 (by omega) (by omega)]; omega
  rw [← hm]
  simp [hw]
  refine ⟨fun h => ⟨by omega, fun hx => ?_, fun hx => ?_⟩, fun h => ?_⟩
  · have hc : lt (l.getD m default).name x.name = true := by
      cases hc : lt (l.getD m default).name x.name
      · have := of_decide_eq_false (cmp_le hc); simp at this; omega
      · rfl
    refine ⟨q.up hr m (by omega) hc, ?_, ?_, rfl⟩
    · show q.j - (m + 1) < q.j - q.i; omega
    · show IntKind.i64.wrap (m + 1) = ((m + 1 : Nat) : Int)
      rw [wrap_i64 (by omega) (by omega)]; omega
  · have hc : lt (l.getD m default).name x.name = false := by
      cases hc : lt (l.getD m default).name x.name
      · rfl
      · have := of_decide_eq_true (cmp_lt hc); simp at this; omega
    refine ⟨q.down hr m (by omega) (by omega) hc, ?_, rfl, rfl⟩
    show m - q.i < q.j - q.i; omega
  · have := belC_eq (i := q.i) (by omega) q.lo fun k hk hl => q.hi k (by omega) hl
    omega
theorem bs_c (b : Bool) (l : List Con) (x : Con) (hl : l.length ≤ 4611686018427387900) (hr : risC l) : (bsR l x).Sat (ACall' Tryz.prog 166 [encCs b l, .agg (encC x), fnB] []) := by
  refine ctr_vc (ht := bsH b l x) Tryz.mixed rfl ?_
  rw [vcBs_eq b l x]
  unfold vcBs
  have := bs_loop b l x hl hr (BS.start l x)
  simp [bsF, this]
  grind
noncomputable def bsC (b : Bool) (l : List Con) (x : Con) (hl : l.length ≤ 4611686018427387900) (hr : risC l) : Ctr Tryz.prog := ⟨166, [encCs b l, .agg (encC x), fnB], [], bsR l x, bs_c b l x hl hr⟩
end Go.Proofs.YtnbhdjadlbhknaaGreatDoor

namespace Go.Proofs.YtnbhdjadlbhknaaGreatDoor
open Go.Ax
set_option maxRecDepth 1000000
def putL (l : List Con) (x : Con) : List Con := if bsF l x then l.set (belC l x.name) x else l.take (belC l x.name) ++ x :: l.drop (belC l x.name)
def rho : Go.Shelf.Ren := ⟨fun f => match f with | 22 => 167 | 29 => 178 | 30 => 179 | x => x, fun t => match t with | 24 => 28 | 9 => 83 | x => x, fun x => x⟩
theorem lay : InsLay Tryz.prog rho 2 24 ((Tryz.prog.info? 83).bind (·.zero) |>.getD undef) "slices.Insert[[]gazette/api.Consumer,gazette/api.Consumer]" where
  mixed := by kernel_rfl
  f22 := by kernel_rfl
  ov := fun w args => by
    rw [show rho.f 29 = 178 from rfl, run_callFunc_extern (P := Tryz.prog) (f := 178) (fn := Tryz.f178) Tryz.func178 (by kernel_rfl) (by kernel_rfl) (by kernel_rfl) (e := Extern.SlicesOverlaps.overlaps #[28, 28] #[4]) (by kernel_rfl)]
    rfl
  t0 := by kernel_rfl
  a0 := fun w => by kernel_rfl
  z0 := fun w => by kernel_rfl
  v0 := fun w => by kernel_rfl
  t3 := by kernel_rfl
  a3 := fun w => by kernel_rfl
  z3 := fun w => by kernel_rfl
  v3 := fun w => by kernel_rfl
  t4 := by kernel_rfl
  a4 := fun w => by kernel_rfl
  z4 := fun w => by kernel_rfl
  v4 := fun w => by kernel_rfl
  t24 := by kernel_rfl
  a24 := fun w => by kernel_rfl
  z24 := fun w => by kernel_rfl
  v24 := fun w => by kernel_rfl
  z9 := fun w => by kernel_rfl
  i9s := by kernel_rfl
  i9 := by kernel_rfl
  pos := by decide
  zc := by kernel_rfl
noncomputable def putH (b : Bool) (l : List Con) (x : Con) (hl : l.length * 24 ≤ 140737488355200) (hr : risC l) : HintsT Tryz.prog :=
  withIns (withSub (hh _ noLp (cs1 159 1 3 (bsC b l x (by omega) hr) (cs1 159 2 1 (ccC b l (by omega)) noCs)) noOp) [167]) lay
def conR (l : List Con) : T An := .ret (.own 0 2 0 l.length, [rowC l], [])
def vcPut (b : Bool) (l : List Con) (x : Con) (hl : l.length * 24 ≤ 140737488355200) (hr : risC l) : Prop :=
  ((b = b ∧ List.length l = List.length l ∧ contLe (List.length l) (2 : Nat) (cellsOf' encC l) (cellsOf' encC l)) ∧ (x.name = x.name ∧ x.off = x.off ∧ True) ∧ (True ∧ True) ∧ True) ∧ True ∧ ((b = b ∧ List.length l = List.length l ∧ contLe (List.length l) (2 : Nat) (cellsOf' encC l) (cellsOf' encC l)) ∧ True) ∧ True ∧ (bsF l x = true → (true && decide ((↑(belC l x.name) : Int) < (↑(List.length l) : Int))) = true ∧ decide ((0 : Nat) + Int.toNat (↑(belC l x.name) : Int) < List.length l) = true ∧ ((0 : Nat) = (0 : Nat) ∧ List.length l = List.length (putL l x)) ∧ (List.length l = List.length (putL l x) ∧ contLe (List.length l) (2 : Nat) (wrRow (cellsOf' encC l) ((0 : Nat) + Int.toNat (↑(belC l x.name) : Int)) (0 : Nat) [AV.y (Value.string x.name), AV.y (Value.int IntKind.u64 x.off)]) (cellsOf' encC (putL l x))) ∧ True) ∧ (bsF l x = false → (List.length l = List.length l ∧ (0 : Int) ≤ (↑(belC l x.name) : Int) ∧ (↑(belC l x.name) : Int) ≤ (↑(List.length l) : Int) ∧ List.length l + (1 : Nat) ≤ (9223372036854775807 : Nat) ∧ (List.length l + (1 : Nat)) * (24 : Nat) ≤ (140737488355328 : Nat)) ∧ ((0 : Nat) = (0 : Nat) ∧ List.length l + (1 : Nat) = List.length (putL l x)) ∧ (List.length l + (1 : Nat) = List.length (putL l x) ∧ contLe (List.length l + (1 : Nat)) (2 : Nat) (insRow (Int.toNat (↑(belC l x.name) : Int)) (1 : Nat) (cellsOf' encC l) fun (k j : Nat) => Ax.get [AV.y (Value.string x.name), AV.y (Value.int IntKind.u64 x.off)] (k * (2 : Nat) + j)) (cellsOf' encC (putL l x))) ∧ True)
theorem vcPut_eq (b : Bool) (l : List Con) (x : Con) (hl : l.length * 24 ≤ 140737488355200) (hr : risC l) : (ctrVC Tryz.prog (putH b l x hl hr) 159 [encCs b l, .agg (encC x), fnB] [] (conR (putL l x))) = vcPut b l x hl hr := by kernel_rfl
def stp (x : Con) (s : Bool × List Con) (y : Con) : Bool × List Con :=
  let s1 := if (!lt y.name x.name && !s.1) = true then (true, s.2 ++ [x]) else s
  if y.name.data = x.name.data then s1 else (s1.1, s1.2 ++ [y])
def scT (b1 b2 : Bool) (a : List Con) (k : Nat) : List AV := mkT 26 [(0, encCs b1 a), (1, encCs b2 a), (5, .y (.int .i64 k))]
def scS (_ : Unit) : Exit × List AV × List Blk := (.exit 0, mkT 26 [], [])
def vcScL (b1 : Bool) (b2 : Bool) (a : List Con) (k : Nat) : Prop :=
  (decide ((↑k : Int) < (↑(List.length a) : Int)) = true → (true && decide ((↑k : Int) < (↑(List.length a) : Int))) = true ∧ (true && decide ((↑k : Int) < (↑(List.length a) : Int))) = true ∧ ((!((List.getD a (Int.toNat (↑k : Int)) (@default Con instInhabitedCon)).name.data.toList == (List.getD a (Int.toNat (↑k : Int)) (@default Con instInhabitedCon)).name.data.toList && ((List.getD a (Int.toNat (↑k : Int)) (@default Con instInhabitedCon)).off == (List.getD a (Int.toNat (↑k : Int)) (@default Con instInhabitedCon)).off && true))) = true → False) ∧ ((!((List.getD a (Int.toNat (↑k : Int)) (@default Con instInhabitedCon)).name.data.toList == (List.getD a (Int.toNat (↑k : Int)) (@default Con instInhabitedCon)).name.data.toList && ((List.getD a (Int.toNat (↑k : Int)) (@default Con instInhabitedCon)).off == (List.getD a (Int.toNat (↑k : Int)) (@default Con instInhabitedCon)).off && true))) = false → ∃ (j : Nat), List.length a - j < List.length a - k ∧ (((b1 = b1 ∧ List.length a = List.length a ∧ contLe (List.length a) (2 : Nat) (cellsOf' encC a) (cellsOf' encC a)) ∧ (b2 = b2 ∧ List.length a = List.length a ∧ contLe (List.length a) (2 : Nat) (cellsOf' encC a) (cellsOf' encC a)) ∧ IntKind.wrap IntKind.i64 ((↑k : Int) + (1 : Int)) = (↑j : Int) ∧ True) ∧ True ∧ true = true) ∧ true = true ∧ () = ())) ∧ (decide ((↑k : Int) < (↑(List.length a) : Int)) = false → True ∧ True ∧ true = true)
theorem vcScL_eq (b1 : Bool) (b2 : Bool) (a : List Con) (k : Nat) : (loopVC Tryz.prog (hT _) 75 4 (fun k => a.length - k) (scT b1 b2 a) (fun _ => []) [0] (fun _ => .ret ()) scS k) = vcScL b1 b2 a k := by kernel_rfl
noncomputable def scH (b1 b2 : Bool) (a : List Con) : HintsT Tryz.prog := hh _ (lp1 75 4 (jobOf (scT b1 b2 a) (fun _ => []) [0] (fun _ => .ret ()) scS 0) noLp) noCs noOp
def vcSc (b1 : Bool) (b2 : Bool) (a : List Con) : Prop :=
  (((↑(List.length a) : Int) != (↑(List.length a) : Int)) = true → false = true ∧ True) ∧ (((↑(List.length a) : Int) != (↑(List.length a) : Int)) = false → (((b1 = b1 ∧ List.length a = List.length a ∧ contLe (List.length a) (2 : Nat) (cellsOf' encC a) (cellsOf' encC a)) ∧ (b2 = b2 ∧ List.length a = List.length a ∧ contLe (List.length a) (2 : Nat) (cellsOf' encC a) (cellsOf' encC a)) ∧ (0 : Int) = (0 : Int) ∧ True) ∧ True ∧ true = true) ∧ LoopOk Tryz.prog (75 : Nat) (4 : Nat) (loopAt Tryz.prog (75 : Nat) (4 : Nat)) { t := scT b1 b2 a (0 : Nat), m := [], mv := [] : St } (T.map (lout [(0 : Nat)] scS) ((fun (x : Nat) => T.ret ()) (0 : Nat))) ∧ true = true ∧ True)
theorem vcSc_eq (b1 : Bool) (b2 : Bool) (a : List Con) : (ctrVC Tryz.prog (scH b1 b2 a) 75 [encCs b1 a, encCs b2 a] [] (boolR true)) = vcSc b1 b2 a := by kernel_rfl
end Go.Proofs.YtnbhdjadlbhknaaGreatDoor

namespace Go.Proofs.YtnbhdjadlbhknaaGreatDoor
open Go.Ax
set_option maxRecDepth 1000000
theorem enc_le (x : Con) : ∀ j, j < 2 → le0 (Ax.get [.y (.string x.name), .y (.int .u64 x.off)] j) (Ax.get (encC x) j) := fun j hj => by
  match j, hj with
  | 0, _ => simp [encC]
  | 1, _ => simp [encC]
theorem put_c (b : Bool) (l : List Con) (x : Con) (hl : l.length * 24 ≤ 140737488355200) (hr : risC l) : (conR (putL l x)).Sat (ACall' Tryz.prog 159 [encCs b l, .agg (encC x), fnB] []) := by
  refine ctr_vc (ht := putH b l x hl hr) Tryz.mixed rfl ?_
  rw [vcPut_eq b l x hl hr]
  unfold vcPut
  have h2 := belC_le l x.name
  cases hf : bsF l x
  · have e : putL l x = l.take (belC l x.name) ++ x :: l.drop (belC l x.name) := by unfold putL; rw [hf]; rfl
    have hn : (putL l x).length = l.length + 1 := by rw [e]; simp; omega
    simp [hn]
    refine ⟨⟨h2, by omega, by omega⟩, ?_⟩
    rw [e]
    exact ins_le rfl h2 fun j hj => by rw [Nat.zero_mul, Nat.zero_add]; exact enc_le x j hj
  · have e : putL l x = l.set (belC l x.name) x := by unfold putL; rw [hf]; rfl
    have hn : (putL l x).length = l.length := by rw [e]; simp
    have h3 : belC l x.name < l.length := by
      unfold bsF at hf
      rw [Bool.and_eq_true] at hf
      exact of_decide_eq_true hf.1
    simp [hn, h3]
    rw [e]
    exact wr_le rfl h3 rfl (enc_le x)
noncomputable def putC (b : Bool) (l : List Con) (x : Con) : Ctr Tryz.prog := ⟨159, [encCs b l, .agg (encC x), fnB], [], .need (l.length * 24 ≤ 140737488355200 ∧ risC l) (conR (putL l x)), T.Sat.need fun h => put_c b l x h.1 h.2⟩
theorem sc_loop (b1 b2 : Bool) (a : List Con) (hl : a.length ≤ 9223372036854775806) (k : Nat) : LoopOk Tryz.prog 75 4 (loopAt Tryz.prog 75 4) ⟨scT b1 b2 a k, [], []⟩ (T.map (lout [0] scS) (.ret ())) := by
  refine loop_vc (o := fun _ => .ret ()) Tryz.mixed (fun _ => rfl) (fun k => (vcScL_eq b1 b2 a k).mpr ?_) k
  unfold vcScL
  simp
  intro h
  exact ⟨h, k + 1, by omega, by rw [wrap_i64 (by omega) (by omega)]; omega⟩
theorem sc_c (b1 b2 : Bool) (a : List Con) (hl : a.length ≤ 9223372036854775806) : (boolR true).Sat (ACall' Tryz.prog 75 [encCs b1 a, encCs b2 a] []) := by
  refine ctr_vc (ht := scH b1 b2 a) Tryz.mixed rfl ?_
  rw [vcSc_eq b1 b2 a]
  unfold vcSc
  simp [sc_loop b1 b2 a hl 0]
theorem putL_cons (y : Con) (t : List Con) (x : Con) : putL (y :: t) x = if lt y.name x.name then y :: putL t x else if y.name.data = x.name.data then x :: t else x :: y :: t := by
  cases h : lt y.name x.name
  · have hb : belC (y :: t) x.name = 0 := by unfold belC; rw [List.takeWhile_cons_of_neg (by simp [h])]; rfl
    by_cases h2 : y.name.data = x.name.data
    · have hc : cmpV y.name x.name = 0 := by
        unfold cmpV lt
        rw [h2, less_irr]; rfl
      simp [putL, bsF, hb, h2, hc]
    · have hc : ¬ cmpV y.name x.name = 0 := by
        unfold cmpV
        rw [h]
        cases h3 : lt x.name y.name
        · exact absurd (Array.toList_inj.1 (less_total _ _ h h3)) h2
        · simp
      simp [putL, bsF, hb, h2, hc]
  · have hb : belC (y :: t) x.name = belC t x.name + 1 := by unfold belC; rw [List.takeWhile_cons_of_pos (by simp [h])]; rfl
    have hf : bsF (y :: t) x = bsF t x := by
      unfold bsF
      rw [hb]; simp
    unfold putL
    rw [hf, hb]
    cases bsF t x <;> simp
def oth (l : List Con) (x : Con) : List Con := l.filter fun y => decide (¬ y.name.data = x.name.data)
theorem oth_cons (y : Con) (t : List Con) (x : Con) : oth (y :: t) x = if y.name.data = x.name.data then oth t x else y :: oth t x := by
  unfold oth
  by_cases h : y.name.data = x.name.data <;> simp [h]
theorem risC_pw (r : List Con) : risC r ↔ r.Pairwise (fun a b => lt a.name b.name = true) := by
  rw [List.pairwise_iff_getElem]
  constructor
  · intro h i j hi hj hij
    have := h i j hij hj
    simpa [hi, hj] using this
  · intro h i j hij hj
    have := h i j (by omega) hj hij
    simpa [show i < r.length by omega, hj] using this
theorem put_mem {x : Con} {P : Con → Prop} (hx : P x) : ∀ (l : List Con), (∀ z ∈ l, P z) → ∀ z ∈ putL l x, P z
  | [], _, z, hz => by
    simp [putL, bsF, belC] at hz
    rw [hz]; exact hx
  | y :: t, h, z, hz => by
    rw [putL_cons] at hz
    have h1 := h y List.mem_cons_self
    have h2 := fun z hz => h z (List.mem_cons_of_mem y hz)
    have ih := put_mem hx t h2 z
    split at hz
    · rcases List.mem_cons.1 hz with rfl | hz
      · exact h1
      · exact ih hz
    · split at hz
      · rcases List.mem_cons.1 hz with rfl | hz
        · exact hx
        · exact h2 z hz
      · rcases List.mem_cons.1 hz with rfl | hz
        · exact hx
        · rcases List.mem_cons.1 hz with rfl | hz
          · exact h1
          · exact h2 z hz
theorem put_pw (x : Con) : ∀ (l : List Con), l.Pairwise (fun a b => lt a.name b.name = true) → (putL l x).Pairwise (fun a b => lt a.name b.name = true)
  | [], _ => by simp [putL, bsF, belC]
  | y :: t, h => by
    rw [List.pairwise_cons] at h
    rw [putL_cons]
    cases h1 : lt y.name x.name
    · by_cases h2 : y.name.data = x.name.data
      · simp only [Bool.false_eq_true, if_false, h2, if_true]
        refine List.pairwise_cons.2 ⟨fun z hz => ?_, h.2⟩
        have := h.1 z hz
        unfold lt at this ⊢
        rw [← h2]; exact this
      · simp only [Bool.false_eq_true, if_false, h2]
        have h3 : lt x.name y.name = true := by
          cases h3 : lt x.name y.name
          · exact absurd (Array.toList_inj.1 (less_total _ _ h1 h3)) h2
          · rfl
        refine List.pairwise_cons.2 ⟨fun z hz => ?_, List.pairwise_cons.2 ⟨h.1, h.2⟩⟩
        rcases List.mem_cons.1 hz with rfl | hz
        · exact h3
        · exact lt_trans' h3 (h.1 z hz)
    · simp only [if_true]
      exact List.pairwise_cons.2 ⟨put_mem (P := fun z => lt y.name z.name = true) h1 t h.1, put_pw x t h.2⟩
theorem put_ris {l : List Con} {x : Con} (h : risC l) : risC (putL l x) := (risC_pw _).2 (put_pw x l ((risC_pw l).1 h))
theorem put_len (l : List Con) (x : Con) : (putL l x).length ≤ l.length + 1 := by
  have := belC_le l x.name
  unfold putL
  split <;> simp <;> omega
end Go.Proofs.YtnbhdjadlbhknaaGreatDoor

namespace Go.Proofs.YtnbhdjadlbhknaaGreatDoor
open Go.Ax
set_option maxRecDepth 1000000
def movC (to : List Int) (x : Con) : Con := ⟨x.name, elemO to x.off⟩
def mapU (l : List Con) (to : List Int) (k : Nat) : List Con := if to.length = 0 then [] else (l.take k).map (movC to)
end Go.Proofs.YtnbhdjadlbhknaaGreatDoor

namespace Go.Proofs.YtnbhdjadlbhknaaGreatDoor
open Go.Ax
set_option maxRecDepth 1000000
def wfC (l : List Con) : Prop := ∀ x ∈ l, offOk x.off
end Go.Proofs.YtnbhdjadlbhknaaGreatDoor

namespace Go.Proofs.YtnbhdjadlbhknaaGreatDoor
open Go.Ax
set_option maxRecDepth 1000000
def rowE (r : List Con) (e : Int) : T An := .ite (e == 0) (.ret (.tup [.own 0 2 0 r.length, .s (.int .i64 0)], [rowC r], [])) (.ret (.tup [.s (.slice none 0 0), .y (.int .i64 e)], [], []))
def comE (l : List Con) (x : Con) (e : Int) : Int := if !isCons l then 1 else if !nameOk x.name then 142 else if decide (e < x.off) then 141 else if !inC l x.name && decide (l.length = 64) then 143 else 0
noncomputable def cmH (b : Bool) (l : List Con) (x : Con) : HintsT Tryz.prog := hh _ noLp (cs1 138 1 3 (rdC b l x.name) (cs1 138 2 1 (coC b l) (cs1 138 4 2 (nameC x.name) (cs1 138 10 2 (putC b l x) noCs)))) noOp
def vcCm (b : Bool) (l : List Con) (x : Con) (e : Int) : Prop :=
  ((b = b ∧ List.length l = List.length l ∧ contLe (List.length l) (2 : Nat) (cellsOf' encC l) (cellsOf' encC l)) ∧ x.name = x.name ∧ True) ∧ True ∧ List.length l ≤ (9223372036854775806 : Nat) ∧ ((b = b ∧ List.length l = List.length l ∧ contLe (List.length l) (2 : Nat) (cellsOf' encC l) (cellsOf' encC l)) ∧ True) ∧ True ∧ List.length l ≤ (9223372036854775806 : Nat) ∧ ((!isCons l) = true → ((comE l x e == (0 : Int)) = true → (False ∧ (1 : Int) = (0 : Int) ∧ True) ∧ False) ∧ ((comE l x e == (0 : Int)) = false → (True ∧ (1 : Int) = comE l x e ∧ True) ∧ True)) ∧ ((!isCons l) = false → (x.name = x.name ∧ True) ∧ True ∧ ((!nameOk x.name) = true → ((comE l x e == (0 : Int)) = true → (False ∧ (142 : Int) = (0 : Int) ∧ True) ∧ False) ∧ ((comE l x e == (0 : Int)) = false → (True ∧ (142 : Int) = comE l x e ∧ True) ∧ True)) ∧ ((!nameOk x.name) = false → (decide (e < x.off) = true → ((comE l x e == (0 : Int)) = true → (False ∧ (141 : Int) = (0 : Int) ∧ True) ∧ False) ∧ ((comE l x e == (0 : Int)) = false → (True ∧ (141 : Int) = comE l x e ∧ True) ∧ True)) ∧ (decide (e < x.off) = false → ((!inC l x.name) = true → (((↑(List.length l) : Int) == (64 : Int)) = true → ((comE l x e == (0 : Int)) = true → (False ∧ (143 : Int) = (0 : Int) ∧ True) ∧ False) ∧ ((comE l x e == (0 : Int)) = false → (True ∧ (143 : Int) = comE l x e ∧ True) ∧ True)) ∧ (((↑(List.length l) : Int) == (64 : Int)) = false → ((b = b ∧ List.length l = List.length l ∧ contLe (List.length l) (2 : Nat) (cellsOf' encC l) (cellsOf' encC l)) ∧ (x.name = x.name ∧ x.off = x.off ∧ True) ∧ (True ∧ True) ∧ True) ∧ True ∧ (List.length l * (24 : Nat) ≤ (140737488355200 : Nat) ∧ ∀ (i j : Nat), i < j → j < List.length l → lt (List.getD l i (@default Con instInhabitedCon)).name (List.getD l j (@default Con instInhabitedCon)).name = true) ∧ ((comE l x e == (0 : Int)) = true → (((0 : Nat) = (0 : Nat) ∧ List.length (putL l x) = List.length (putL l x)) ∧ (0 : Int) = (0 : Int) ∧ True) ∧ (List.length (putL l x) = List.length (putL l x) ∧ contLe (List.length (putL l x)) (2 : Nat) (cellsOf' encC (putL l x)) (cellsOf' encC (putL l x))) ∧ True) ∧ ((comE l x e == (0 : Int)) = false → False))) ∧ ((!inC l x.name) = false → ((b = b ∧ List.length l = List.length l ∧ contLe (List.length l) (2 : Nat) (cellsOf' encC l) (cellsOf' encC l)) ∧ (x.name = x.name ∧ x.off = x.off ∧ True) ∧ (True ∧ True) ∧ True) ∧ True ∧ (List.length l * (24 : Nat) ≤ (140737488355200 : Nat) ∧ ∀ (i j : Nat), i < j → j < List.length l → lt (List.getD l i (@default Con instInhabitedCon)).name (List.getD l j (@default Con instInhabitedCon)).name = true) ∧ ((comE l x e == (0 : Int)) = true → (((0 : Nat) = (0 : Nat) ∧ List.length (putL l x) = List.length (putL l x)) ∧ (0 : Int) = (0 : Int) ∧ True) ∧ (List.length (putL l x) = List.length (putL l x) ∧ contLe (List.length (putL l x)) (2 : Nat) (cellsOf' encC (putL l x)) (cellsOf' encC (putL l x))) ∧ True) ∧ ((comE l x e == (0 : Int)) = false → False)))))
theorem vcCm_eq (b : Bool) (l : List Con) (x : Con) (e : Int) : (ctrVC Tryz.prog (cmH b l x) 138 [encCs b l, .agg (encC x), .y (.int .u64 e)] [] (rowE (putL l x) (comE l x e))) = vcCm b l x e := by kernel_rfl
end Go.Proofs.YtnbhdjadlbhknaaGreatDoor

namespace Go.Proofs.YtnbhdjadlbhknaaGreatDoor
open Go.Ax
set_option maxRecDepth 1000000
theorem cons_all {l : List Con} : ∀ (n k : Nat), l.length - k = n → coFrom l k = true → ∀ j, k ≤ j → j < l.length → coOk l j = true := by
  intro n
  induction n with
  | zero => intro k hk _ j h1 h2; omega
  | succ n ih =>
    intro k hk h j h1 h2
    rw [coFrom_step (by omega), Bool.and_eq_true] at h
    rcases Nat.lt_or_ge k j with h3 | h3
    · exact ih (k + 1) (by omega) h.2 j (by omega) h2
    · obtain rfl : j = k := by omega
      exact h.1
theorem cons_len {l : List Con} (h : isCons l = true) : l.length ≤ 64 := by
  unfold isCons at h
  rw [Bool.and_eq_true] at h
  exact of_decide_eq_true h.2
theorem cons_ris {l : List Con} (h : isCons l = true) : risC l := by
  unfold isCons at h
  rw [Bool.and_eq_true] at h
  have key : ∀ j, 0 < j → j < l.length → lt (l.getD (j - 1) default).name (l.getD j default).name = true := by
    intro j h1 h2
    have := cons_all _ 0 rfl h.1 j (Nat.zero_le _) h2
    unfold coOk at this
    rw [Bool.and_eq_true, decide_eq_true h1] at this
    simpa using this.2
  have : ∀ d i, i + d + 1 < l.length → lt (l.getD i default).name (l.getD (i + d + 1) default).name = true := by
    intro d
    induction d with
    | zero => intro i hi; exact key (i + 1) (by omega) hi
    | succ d ih => intro i hi; exact lt_trans' (ih i (by omega)) (key (i + (d + 1) + 1) (by omega) hi)
  intro i j hij hj
  obtain ⟨d, rfl⟩ : ∃ d, j = i + d + 1 := ⟨j - i - 1, by omega⟩
  exact this d i hj
theorem tagC (l : List Con) : ∀ k, k < l.length → ∀ j, j < 2 → tagT (cellsOf' encC l k j) = true := fun k _ j hj => by
  match j, hj with
  | 0, _ => rfl
  | 1, _ => rfl
theorem cm_c (b : Bool) (l : List Con) (x : Con) (e : Int) (hl : l.length ≤ 9223372036854775806) : (rowE (putL l x) (comE l x e)).Sat (ACall' Tryz.prog 138 [encCs b l, .agg (encC x), .y (.int .u64 e)] []) := by
  refine ctr_vc (ht := cmH b l x) Tryz.mixed rfl ?_
  rw [vcCm_eq b l x e]
  unfold vcCm
  have ca := @cons_len l
  have cr := @cons_ris l
  cases h1 : isCons l
  · simp [comE, h1, hl]
  · have ca := ca h1
    have cr := cr h1
    unfold risC at cr
    simp at cr
    cases h2 : nameOk x.name
    · simp [comE, h1, h2, hl]
    · by_cases h3 : e < x.off
      · simp [comE, h1, h2, h3, hl]
      · cases h4 : inC l x.name
        · by_cases h5 : l.length = 64
          · simp [comE, h1, h2, h3, h4, h5, hl]
          · have h5' : ¬ ((l.length : Int) = 64) := by omega
            simp [comE, h1, h2, h3, h4, h5, h5', hl]
            exact ⟨by omega, cr⟩
        · simp [comE, h1, h2, h3, h4, hl]
          exact ⟨by omega, cr⟩
noncomputable def cmC (b : Bool) (l : List Con) (x : Con) (e : Int) : Ctr Tryz.prog := ⟨138, [encCs b l, .agg (encC x), .y (.int .u64 e)], [], .need (l.length ≤ 9223372036854775806) (rowE (putL l x) (comE l x e)), T.Sat.need fun h => cm_c b l x e h⟩
end Go.Proofs.YtnbhdjadlbhknaaGreatDoor

namespace Go.Proofs.YtnbhdjadlbhknaaGreatDoor.P
open Go.Ax
set_option maxRecDepth 1000000
structure Producer where
  id : Int
  seq : Int
  here : Bool
  offset : Int
instance : Inhabited Producer := ⟨⟨0, 0, false, 0⟩⟩
def encP (x : Producer) : List AV := [.y (.int .u64 x.id), .y (.int .u64 x.seq), .y (.bool x.here), .y (.int .u64 x.offset)]
def encPs (b : Bool) (l : List Producer) : AV := .ys b 4 l.length (cellsOf' encP l)
theorem Tryz.mixed : Tryz.prog.follows .mixedOrders = true := by kernel_rfl
def most : Int := 9223372036854775807
def okP (l : List Producer) (k : Nat) : Bool :=
  let x := l.getD k default
  !(x.id == 0 || !(decide (1 ≤ x.seq) && decide (x.seq ≤ 9223372036854775807)) || !x.here && x.offset != 0 || decide (0 < k) && decide (x.id ≤ (l.getD (k - 1) default).id))
def okFrom (l : List Producer) (k : Nat) : Bool := (List.range' k (l.length - k)).all (okP l)
def isTable (l : List Producer) : Bool := okFrom l 0 && decide (l.length ≤ 256)
theorem okFrom_end {l : List Producer} {k : Nat} (h : l.length ≤ k) : okFrom l k = true := by
  unfold okFrom
  rw [show l.length - k = 0 by omega]; rfl
theorem okFrom_step {l : List Producer} {k : Nat} (h : k < l.length) : okFrom l k = (okP l k && okFrom l (k + 1)) := by
  unfold okFrom
  rw [show l.length - k = (l.length - (k + 1)) + 1 by omega, List.range'_succ]; rfl
def tabT (b : Bool) (l : List Producer) (k : Nat) : List AV := mkT 50 [(0, encPs b l), (2, .s (.bool false)), (5, encPs b l), (6, .y (.int .i64 l.length)), (7, .y (.int .i64 k))]
def tabS (b : Bool) (l : List Producer) (r : Bool) : Exit × List AV × List Blk := match r with
  | true => (.exit 0, mkT 50 [(0, encPs b l), (2, .s (.bool false))], [])
  | false => (.ret, mkT 50 [(2, .s (.bool false))], [])
def tabO (l : List Producer) (k : Nat) : T Bool := .ite (okFrom l k) (.ret true) (.ret false)
def vcTableL_q3 (b : Bool) (l : List Producer) : Prop := (b = b ∧ List.length l = List.length l ∧ contLe (List.length l) (4 : Nat) (cellsOf' encP l) (cellsOf' encP l))
def vcTableL_q1 (b : Bool) (l : List Producer) (k : Nat) : Prop := (decide ((0 : Int) < (↑k : Int)) = true → (decide ((0 : Int) ≤ IntKind.wrap IntKind.i64 ((↑k : Int) - (1 : Int))) && decide (IntKind.wrap IntKind.i64 ((↑k : Int) - (1 : Int)) < (↑(List.length l) : Int))) = true ∧ (decide ((List.getD l (Int.toNat (↑k : Int)) (@default Producer instInhabitedProducer)).id ≤ (List.getD l (Int.toNat (IntKind.wrap IntKind.i64 ((↑k : Int) - (1 : Int)))) (@default Producer instInhabitedProducer)).id) = true → (okFrom l k = true → False) ∧ (okFrom l k = false → (false = false ∧ True) ∧ True ∧ true = true)) ∧ (decide ((List.getD l (Int.toNat (↑k : Int)) (@default Producer instInhabitedProducer)).id ≤ (List.getD l (Int.toNat (IntKind.wrap IntKind.i64 ((↑k : Int) - (1 : Int)))) (@default Producer instInhabitedProducer)).id) = false → ∃ (j : Nat), List.length l - j < List.length l - k ∧ (((vcTableL_q3 b l) ∧ false = false ∧ (vcTableL_q3 b l) ∧ (↑(List.length l) : Int) = (↑(List.length l) : Int) ∧ IntKind.wrap IntKind.i64 ((↑k : Int) + (1 : Int)) = (↑j : Int) ∧ True) ∧ True ∧ true = true) ∧ true = true ∧ (okFrom l j = true → (okFrom l k = true → true = true) ∧ (okFrom l k = false → true = false)) ∧ (okFrom l j = false → (okFrom l k = true → false = true) ∧ (okFrom l k = false → false = false))))
def vcTableL_q2 (b : Bool) (l : List Producer) (k : Nat) : Prop := (decide ((0 : Int) < (↑k : Int)) = false → ∃ (j : Nat), List.length l - j < List.length l - k ∧ (((vcTableL_q3 b l) ∧ false = false ∧ (vcTableL_q3 b l) ∧ (↑(List.length l) : Int) = (↑(List.length l) : Int) ∧ IntKind.wrap IntKind.i64 ((↑k : Int) + (1 : Int)) = (↑j : Int) ∧ True) ∧ True ∧ true = true) ∧ true = true ∧ (okFrom l j = true → (okFrom l k = true → true = true) ∧ (okFrom l k = false → true = false)) ∧ (okFrom l j = false → (okFrom l k = true → false = true) ∧ (okFrom l k = false → false = false)))
def vcTableL (b : Bool) (l : List Producer) (k : Nat) : Prop :=
  (decide ((↑k : Int) < (↑(List.length l) : Int)) = true → (true && decide ((↑k : Int) < (↑(List.length l) : Int))) = true ∧ (((List.getD l (Int.toNat (↑k : Int)) (@default Producer instInhabitedProducer)).id == (0 : Int)) = true → (okFrom l k = true → False) ∧ (okFrom l k = false → (false = false ∧ True) ∧ True ∧ true = true)) ∧ (((List.getD l (Int.toNat (↑k : Int)) (@default Producer instInhabitedProducer)).id == (0 : Int)) = false → (decide ((1 : Int) ≤ (List.getD l (Int.toNat (↑k : Int)) (@default Producer instInhabitedProducer)).seq) = true → ((!decide ((List.getD l (Int.toNat (↑k : Int)) (@default Producer instInhabitedProducer)).seq ≤ (9223372036854775807 : Int))) = true → (okFrom l k = true → False) ∧ (okFrom l k = false → (false = false ∧ True) ∧ True ∧ true = true)) ∧ ((!decide ((List.getD l (Int.toNat (↑k : Int)) (@default Producer instInhabitedProducer)).seq ≤ (9223372036854775807 : Int))) = false → ((!(List.getD l (Int.toNat (↑k : Int)) (@default Producer instInhabitedProducer)).here) = true → (((List.getD l (Int.toNat (↑k : Int)) (@default Producer instInhabitedProducer)).offset != (0 : Int)) = true → (okFrom l k = true → False) ∧ (okFrom l k = false → (false = false ∧ True) ∧ True ∧ true = true)) ∧ (((List.getD l (Int.toNat (↑k : Int)) (@default Producer instInhabitedProducer)).offset != (0 : Int)) = false → (vcTableL_q1 b l k) ∧ (vcTableL_q2 b l k))) ∧ ((!(List.getD l (Int.toNat (↑k : Int)) (@default Producer instInhabitedProducer)).here) = false → (vcTableL_q1 b l k) ∧ (vcTableL_q2 b l k)))) ∧ (decide ((1 : Int) ≤ (List.getD l (Int.toNat (↑k : Int)) (@default Producer instInhabitedProducer)).seq) = false → (okFrom l k = true → False) ∧ (okFrom l k = false → (false = false ∧ True) ∧ True ∧ true = true)))) ∧ (decide ((↑k : Int) < (↑(List.length l) : Int)) = false → (okFrom l k = true → ((vcTableL_q3 b l) ∧ false = false ∧ True) ∧ True ∧ true = true) ∧ (okFrom l k = false → False))
theorem vcTableL_eq (b : Bool) (l : List Producer) (k : Nat) : (loopVC Tryz.prog (hT _) 45 2 (fun k => l.length - k) (tabT b l) (fun _ => []) [0] (tabO l) (tabS b l) k) = vcTableL b l k := by kernel_rfl
theorem table_loop (b : Bool) (l : List Producer) (hl : l.length ≤ 9223372036854775806) (k : Nat) : LoopOk Tryz.prog 45 2 (loopAt Tryz.prog 45 2) ⟨tabT b l k, [], []⟩ ((tabO l k).map (lout [0] (tabS b l))) := by
  refine loop_vc Tryz.mixed (fun _ => rfl) (fun k => (vcTableL_eq b l k).mpr ?_) k
  unfold vcTableL vcTableL_q2 vcTableL_q1 vcTableL_q3
  simp
  refine ⟨fun h => ?_, fun h => by simp [okFrom_end h]⟩
  rw [okFrom_step h]
  simp (disch := omega) only [wrap_i64]
  simp [okP, cast_succ_eq]
  grind
noncomputable def tabH (b : Bool) (l : List Producer) : HintsT Tryz.prog := hh _ (lp1 45 2 (jobOf (tabT b l) (fun _ => []) [0] (tabO l) (tabS b l) 0) noLp) noCs noOp
def tabR (l : List Producer) : T An := .ret (.y (.bool (isTable l)), [], [])
def vcTable (b : Bool) (l : List Producer) : Prop :=
  (((b = b ∧ List.length l = List.length l ∧ contLe (List.length l) (4 : Nat) (cellsOf' encP l) (cellsOf' encP l)) ∧ false = false ∧ (b = b ∧ List.length l = List.length l ∧ contLe (List.length l) (4 : Nat) (cellsOf' encP l) (cellsOf' encP l)) ∧ (↑(List.length l) : Int) = (↑(List.length l) : Int) ∧ (0 : Int) = (0 : Int) ∧ True) ∧ True ∧ true = true) ∧ LoopOk Tryz.prog (45 : Nat) (2 : Nat) (loopAt Tryz.prog (45 : Nat) (2 : Nat)) { t := tabT b l (0 : Nat), m := [], mv := [] : St } (T.map (lout [(0 : Nat)] (tabS b l)) (tabO l (0 : Nat))) ∧ (okFrom l (0 : Nat) = true → decide ((↑(List.length l) : Int) ≤ (256 : Int)) = isTable l ∧ True) ∧ (okFrom l (0 : Nat) = false → false = isTable l ∧ True)
theorem vcTable_eq (b : Bool) (l : List Producer) : (ctrVC Tryz.prog (tabH b l) 45 [encPs b l] [] (tabR l)) = vcTable b l := by kernel_rfl
theorem table_c (b : Bool) (l : List Producer) (hl : l.length ≤ 9223372036854775806) : (tabR l).Sat (ACall' Tryz.prog 45 [encPs b l] []) := by
  refine ctr_vc (ht := (tabH b l)) Tryz.mixed rfl ?_
  rw [vcTable_eq b l]
  unfold vcTable
  have := table_loop b l hl 0
  simp [isTable, this]
  grind
noncomputable def tabC (b : Bool) (l : List Producer) (hl : l.length ≤ 9223372036854775806) : Ctr Tryz.prog := ⟨45, [encPs b l], [], tabR l, table_c b l hl⟩
end Go.Proofs.YtnbhdjadlbhknaaGreatDoor.P

namespace Go.Proofs.YtnbhdjadlbhknaaGreatDoor.P
open Go.Ax
set_option maxRecDepth 1000000
def has (id : Int) (x : Producer) : Bool := x.id == id
def findD (l : List Producer) (id : Int) : Producer := (l.find? (has id)).getD default
def findI (l : List Producer) (id : Int) : Bool := (l.find? (has id)).isSome
theorem findI_cons (x : Producer) (r : List Producer) (id : Int) : findI (x :: r) id = (x.id == id || findI r id) := by
  simp only [findI, List.find?_cons, has]
  cases h : x.id == id <;> simp
theorem findD_cons (x : Producer) (r : List Producer) (id : Int) : findD (x :: r) id = if x.id = id then x else findD r id := by
  simp only [findD, List.find?_cons, has]
  by_cases h : x.id = id
  · simp [h]
  · have h' : (x.id == id) = false := by simpa using h
    simp [h, h']
theorem idx_cons (x : Producer) (r : List Producer) (id : Int) : (x :: r).findIdx (has id) = if x.id = id then 0 else r.findIdx (has id) + 1 := by
  simp only [List.findIdx_cons, has]
  by_cases h : x.id = id
  · simp [h]
  · have h' : (x.id == id) = false := by simpa using h
    simp [h, h']
def zeroP : List AV := [.s (.int .u64 0), .s (.int .u64 0), .s (.bool false), .s (.int .u64 0)]
def fstT (b : Bool) (id : Int) (l : List Producer) (k : Nat) : List AV := mkT 21 [(1, .fn (.func 149) [] [.ip false 1 (fun _ => .y (.int .u64 id))]), (4, .ptr 0 0 0 0), (5, .s (.bool false)), (9, encPs b l), (10, .y (.int .i64 l.length)), (11, .y (.int .i64 k))]
def fstM : List Blk := [.box 80 zeroP]
def fstS (r : Bool × Producer) : Exit × List AV × List Blk := match r.1 with
  | true => (.ret, mkT 21 [(4, .ptr 0 0 0 0), (5, .s (.bool true))], [.box 80 (encP r.2)])
  | false => (.exit 0, mkT 21 [(4, .ptr 0 0 0 0), (5, .s (.bool false))], fstM)
def fstO (id : Int) (l : List Producer) (k : Nat) : T (Bool × Producer) := .ite (findI (l.drop k) id) (.ret (true, findD (l.drop k) id)) (.ret (false, default))
def vcFirstL (b : Bool) (id : Int) (l : List Producer) (k : Nat) : Prop :=
  (decide ((↑k : Int) < (↑(List.length l) : Int)) = true → (true && decide ((↑k : Int) < (↑(List.length l) : Int))) = true ∧ (((List.getD l (Int.toNat (↑k : Int)) (@default Producer instInhabitedProducer)).id == id) = true → (findI (List.drop k l) id = true → (((0 : Nat) = (0 : Nat) ∧ (0 : Nat) = (0 : Nat)) ∧ true = true ∧ True) ∧ (((List.getD l (Int.toNat (↑k : Int)) (@default Producer instInhabitedProducer)).id = (findD (List.drop k l) id).id ∧ (List.getD l (Int.toNat (↑k : Int)) (@default Producer instInhabitedProducer)).seq = (findD (List.drop k l) id).seq ∧ (List.getD l (Int.toNat (↑k : Int)) (@default Producer instInhabitedProducer)).here = (findD (List.drop k l) id).here ∧ (List.getD l (Int.toNat (↑k : Int)) (@default Producer instInhabitedProducer)).offset = (findD (List.drop k l) id).offset ∧ True) ∧ True) ∧ true = true) ∧ (findI (List.drop k l) id = false → False)) ∧ (((List.getD l (Int.toNat (↑k : Int)) (@default Producer instInhabitedProducer)).id == id) = false → ∃ (j : Nat), List.length l - j < List.length l - k ∧ (((True ∧ (false = false ∧ (1 : Nat) ≤ (1 : Nat) ∧ cellLe (1 : Nat) (fun (x : Nat) => AV.y (Value.int IntKind.u64 id)) fun (x : Nat) => AV.y (Value.int IntKind.u64 id)) ∧ True) ∧ ((0 : Nat) = (0 : Nat) ∧ (0 : Nat) = (0 : Nat)) ∧ false = false ∧ (b = b ∧ List.length l = List.length l ∧ contLe (List.length l) (4 : Nat) (cellsOf' encP l) (cellsOf' encP l)) ∧ (↑(List.length l) : Int) = (↑(List.length l) : Int) ∧ IntKind.wrap IntKind.i64 ((↑k : Int) + (1 : Int)) = (↑j : Int) ∧ True) ∧ (((0 : Int) = (0 : Int) ∧ (0 : Int) = (0 : Int) ∧ false = false ∧ (0 : Int) = (0 : Int) ∧ True) ∧ True) ∧ true = true) ∧ true = true ∧ (findI (List.drop j l) id = true → (findI (List.drop k l) id = true → (true, findD (List.drop j l) id) = (true, findD (List.drop k l) id)) ∧ (findI (List.drop k l) id = false → (true, findD (List.drop j l) id) = (false, @default Producer instInhabitedProducer))) ∧ (findI (List.drop j l) id = false → (findI (List.drop k l) id = true → (false, @default Producer instInhabitedProducer) = (true, findD (List.drop k l) id)) ∧ (findI (List.drop k l) id = false → (false, @default Producer instInhabitedProducer) = (false, @default Producer instInhabitedProducer))))) ∧ (decide ((↑k : Int) < (↑(List.length l) : Int)) = false → (findI (List.drop k l) id = true → False) ∧ (findI (List.drop k l) id = false → (((0 : Nat) = (0 : Nat) ∧ (0 : Nat) = (0 : Nat)) ∧ false = false ∧ True) ∧ (((0 : Int) = (0 : Int) ∧ (0 : Int) = (0 : Int) ∧ false = false ∧ (0 : Int) = (0 : Int) ∧ True) ∧ True) ∧ true = true))
theorem vcFirstL_eq (b : Bool) (id : Int) (l : List Producer) (k : Nat) : (loopVC Tryz.prog (hT _) 148 2 (fun k => l.length - k) (fstT b id l) (fun _ => fstM) [0, 1, 2, 3] (fstO id l) fstS k) = vcFirstL b id l k := by kernel_rfl
theorem first_loop (b : Bool) (id : Int) (l : List Producer) (hl : l.length ≤ 9223372036854775806)  (k : Nat) : LoopOk Tryz.prog 148 2 (loopAt Tryz.prog 148 2) ⟨fstT b id l k, fstM, []⟩ ((fstO id l k).map (lout [0, 1, 2, 3] fstS)) := by
  refine loop_vc Tryz.mixed (fun _ => rfl) (fun k => (vcFirstL_eq b id l k).mpr ?_) k
  unfold vcFirstL
  simp
  refine ⟨fun h => ?_, fun h => by simp [findI, drop_end h]⟩
  simp (disch := omega) only [wrap_i64]
  rw [drop_cons h]
  simp only [findI_cons, findD_cons]
  generalize l[k]?.getD default = x
  by_cases hx : x.id = id <;> simp [hx, h, cast_succ_eq]
  refine ⟨k + 1, by omega, rfl, ?_⟩
  grind
noncomputable def findH (b : Bool) (l : List Producer) (id : Int) : HintsT Tryz.prog := hh _ (lp1 148 2 (jobOf (fstT b id l) (fun _ => fstM) [0, 1, 2, 3] (fstO id l) fstS 0) noLp) noCs noOp
def findR (l : List Producer) (id : Int) : T An := .ret (.tup [.agg (encP (findD l id)), .y (.bool (findI l id))], [], [])
def vcFind (b : Bool) (l : List Producer) (id : Int) : Prop :=
  (((True ∧ (false = false ∧ (1 : Nat) ≤ (1 : Nat) ∧ cellLe (1 : Nat) (fun (j : Nat) => Ax.get [AV.y (Value.int IntKind.u64 id)] ((0 : Nat) + j)) fun (x : Nat) => AV.y (Value.int IntKind.u64 id)) ∧ True) ∧ ((0 : Nat) = (0 : Nat) ∧ (0 : Nat) = (0 : Nat)) ∧ false = false ∧ (b = b ∧ List.length l = List.length l ∧ contLe (List.length l) (4 : Nat) (cellsOf' encP l) (cellsOf' encP l)) ∧ (↑(List.length l) : Int) = (↑(List.length l) : Int) ∧ (0 : Int) = (0 : Int) ∧ True) ∧ (((0 : Int) = (0 : Int) ∧ (0 : Int) = (0 : Int) ∧ false = false ∧ (0 : Int) = (0 : Int) ∧ True) ∧ True) ∧ true = true) ∧ LoopOk Tryz.prog (148 : Nat) (2 : Nat) (loopAt Tryz.prog (148 : Nat) (2 : Nat)) { t := fstT b id l (0 : Nat), m := fstM, mv := [] : St } (T.map (lout [(0 : Nat), (1 : Nat), (2 : Nat), (3 : Nat)] fstS) (fstO id l (0 : Nat))) ∧ (findI (List.drop (0 : Nat) l) id = true → true = true ∧ True ∧ (((findD (List.drop (0 : Nat) l) id).id = (findD l id).id ∧ (findD (List.drop (0 : Nat) l) id).seq = (findD l id).seq ∧ (findD (List.drop (0 : Nat) l) id).here = (findD l id).here ∧ (findD (List.drop (0 : Nat) l) id).offset = (findD l id).offset ∧ True) ∧ true = findI l id ∧ True) ∧ True) ∧ (findI (List.drop (0 : Nat) l) id = false → true = true ∧ True ∧ (((0 : Int) = (findD l id).id ∧ (0 : Int) = (findD l id).seq ∧ false = (findD l id).here ∧ (0 : Int) = (findD l id).offset ∧ True) ∧ false = findI l id ∧ True) ∧ True)
theorem vcFind_eq (b : Bool) (l : List Producer) (id : Int) : (ctrVC Tryz.prog (findH b l id) 132 [encPs b l, .y (.int .u64 id)] [] (findR l id)) = vcFind b l id := by kernel_rfl
theorem find_c (b : Bool) (l : List Producer) (id : Int) (hl : l.length ≤ 9223372036854775806) : (findR l id).Sat (ACall' Tryz.prog 132 [encPs b l, .y (.int .u64 id)] []) := by
  refine ctr_vc (ht := (findH b l id)) Tryz.mixed rfl ?_
  rw [vcFind_eq b l id]
  unfold vcFind
  have := first_loop b id l hl 0
  simp [this]
  by_cases hf : findI l id = true
  · simp [hf]
  · have e : l.find? (has id) = none := by simpa [findI] using hf
    simp [hf, findD, e]
    exact ⟨rfl, rfl, rfl, rfl⟩
noncomputable def findC (b : Bool) (l : List Producer) (id : Int) (hl : l.length ≤ 9223372036854775806) : Ctr Tryz.prog := ⟨132, [encPs b l, .y (.int .u64 id)], [], findR l id, find_c b l id hl⟩
def badN (id seq : Int) : Bool := id == 0 || !(decide (1 ≤ seq) && decide (seq ≤ 9223372036854775807))
def judgeV (l : List Producer) (id seq : Int) : Int :=
  if badN id seq then 4 else if !findI l id || decide ((findD l id).seq < seq) then 1 else if seq == (findD l id).seq && (findD l id).here then 2 else 3
def judgeO (l : List Producer) (id seq : Int) : Int :=
  if badN id seq then 0 else if !findI l id || decide ((findD l id).seq < seq) then 0 else if seq == (findD l id).seq && (findD l id).here then (findD l id).offset else 0
def judgeR (l : List Producer) (id seq : Int) : T An := .ret (.tup [.y (.int .i64 (judgeV l id seq)), .y (.int .u64 (judgeO l id seq))], [], [])
noncomputable def judgeH (b : Bool) (l : List Producer) (id : Int) (hl : l.length ≤ 9223372036854775806) : HintsT Tryz.prog := hh _ noLp (cs1 98 3 2 (findC b l id hl) noCs) noOp
def vcJudge (b : Bool) (l : List Producer) (id : Int) (seq : Int) (hl : l.length ≤ 9223372036854775806) : Prop :=
  ((id == (0 : Int)) = true → ((4 : Int) = judgeV l id seq ∧ (0 : Int) = judgeO l id seq ∧ True) ∧ True) ∧ ((id == (0 : Int)) = false → (decide ((1 : Int) ≤ seq) = true → ((!decide (seq ≤ (9223372036854775807 : Int))) = true → ((4 : Int) = judgeV l id seq ∧ (0 : Int) = judgeO l id seq ∧ True) ∧ True) ∧ ((!decide (seq ≤ (9223372036854775807 : Int))) = false → ((b = b ∧ List.length l = List.length l ∧ contLe (List.length l) (4 : Nat) (cellsOf' encP l) (cellsOf' encP l)) ∧ id = id ∧ True) ∧ True ∧ ((!findI l id) = true → ((1 : Int) = judgeV l id seq ∧ (0 : Int) = judgeO l id seq ∧ True) ∧ True) ∧ ((!findI l id) = false → (decide ((findD l id).seq < seq) = true → ((1 : Int) = judgeV l id seq ∧ (0 : Int) = judgeO l id seq ∧ True) ∧ True) ∧ (decide ((findD l id).seq < seq) = false → ((seq == (findD l id).seq) = true → ((findD l id).here = true → ((2 : Int) = judgeV l id seq ∧ (findD l id).offset = judgeO l id seq ∧ True) ∧ True) ∧ ((findD l id).here = false → ((3 : Int) = judgeV l id seq ∧ (0 : Int) = judgeO l id seq ∧ True) ∧ True)) ∧ ((seq == (findD l id).seq) = false → ((3 : Int) = judgeV l id seq ∧ (0 : Int) = judgeO l id seq ∧ True) ∧ True))))) ∧ (decide ((1 : Int) ≤ seq) = false → ((4 : Int) = judgeV l id seq ∧ (0 : Int) = judgeO l id seq ∧ True) ∧ True))
theorem vcJudge_eq (b : Bool) (l : List Producer) (id : Int) (seq : Int) (hl : l.length ≤ 9223372036854775806) : (ctrVC Tryz.prog (judgeH b l id hl) 98 [encPs b l, .y (.int .u64 id), .y (.int .u64 seq)] [] (judgeR l id seq)) = vcJudge b l id seq hl := by kernel_rfl
theorem judge_c (b : Bool) (l : List Producer) (id seq : Int) (hl : l.length ≤ 9223372036854775806) : (judgeR l id seq).Sat (ACall' Tryz.prog 98 [encPs b l, .y (.int .u64 id), .y (.int .u64 seq)] []) := by
  refine ctr_vc (ht := (judgeH b l id hl)) Tryz.mixed rfl ?_
  rw [vcJudge_eq b l id seq hl]
  unfold vcJudge
  simp [judgeV, judgeO, badN]
  grind
def idxO (id : Int) (l : List Producer) (k : Nat) : T (Bool × Nat) := .ite (findI (l.drop k) id) (.ret (true, k + (l.drop k).findIdx (has id))) (.ret (false, 0))
def idxZ (l : List Producer) (id : Int) : Int := if findI l id then (l.findIdx (has id) : Nat) else -1
def idxR (l : List Producer) (id : Int) : T An := .ret (.y (.int .i64 (idxZ l id)), [], [])
theorem idx_lt {l : List Producer} {id : Int} (h : findI l id = true) : l.findIdx (has id) < l.length := by
  rw [List.findIdx_lt_length]
  simpa [findI, List.find?_isSome] using h
theorem idx_at {l : List Producer} {id : Int} (h : findI l id = true) : l[l.findIdx (has id)]?.getD default = findD l id := by
  have hlt := idx_lt h
  unfold findD
  rw [List.getElem?_eq_getElem hlt]
  simp [List.find?_eq_getElem?_findIdx, hlt]
end Go.Proofs.YtnbhdjadlbhknaaGreatDoor.P

namespace Go.Proofs.YtnbhdjadlbhknaaGreatDoor.P
open Go.Ax
set_option maxRecDepth 1000000
def clnR (l : List Producer) : T An := .ret (.own 0 4 0 l.length, [.row 80 4 l.length none (cellsOf' encP l)], [])
noncomputable def clnH : HintsT Tryz.prog := hh _ noLp noCs (op1 101 2 0 (.row 80 4) noOp)
def vcClone0 (l : List Producer) : Prop :=
  ((0 : Nat) = (0 : Nat) ∧ (0 : Nat) = List.length l) ∧ ((0 : Nat) = List.length l ∧ contLe (0 : Nat) (4 : Nat) (fun (x x_1 : Nat) => AV.junk) (cellsOf' encP l)) ∧ True
theorem vcClone0_eq (l : List Producer) : (ctrVC Tryz.prog clnH 101 [.s (.slice none 0 0)] [] (clnR l)) = vcClone0 l := by kernel_rfl
def vcClone1 (b : Bool) (l : List Producer) : Prop :=
  (decide ((0 : Nat) + List.length l ≤ (9223372036854775807 : Nat)) && decide (((0 : Nat) + List.length l) * (32 : Nat) ≤ (140737488355328 : Nat))) = true ∧ ((0 : Nat) = (0 : Nat) ∧ (0 : Nat) + List.length l = List.length l) ∧ ((0 : Nat) + List.length l = List.length l ∧ contLe ((0 : Nat) + List.length l) (4 : Nat) (appRow (0 : Nat) (fun (k j : Nat) => AV.junk) (cellsOf' encP l)) (cellsOf' encP l)) ∧ True
theorem vcClone1_eq (b : Bool) (l : List Producer) : (ctrVC Tryz.prog clnH 101 [.yn b 4 l.length (cellsOf' encP l)] [] (clnR l)) = vcClone1 b l := by kernel_rfl
theorem clone_c (b : Bool) (l : List Producer) (hl : l.length * 32 ≤ 140737488355328) : (clnR l).Sat (ACall' Tryz.prog 101 [encPs b l] []) := by
  refine nil_cases (pre := []) (post := []) (fun h0 => ?_) ?_ ⟨_, rfl⟩
  · refine ctr_vc (ht := clnH) Tryz.mixed rfl ?_
    rw [List.nil_append, vcClone0_eq l]
    unfold vcClone0
    simp [h0]
  · refine ctr_vc (ht := clnH) Tryz.mixed rfl ?_
    rw [List.nil_append, vcClone1_eq b l]
    unfold vcClone1
    simp
    omega
def ixT (b : Bool) (x : Producer) (l : List Producer) (k : Nat) : List AV := mkT 19 [(0, encPs b l), (1, .fn (.func 173) [] [.ip false 4 (get (encP x))]), (4, .s (.int .i64 0)), (7, .y (.int .i64 l.length)), (8, .y (.int .i64 k))]
def ixS (r : Bool × Nat) : Exit × List AV × List Blk := match r.1 with
  | true => (.ret, mkT 19 [(4, .y (.int .i64 r.2))], [])
  | false => (.exit 0, mkT 19 [], [])
def vcIxL (b : Bool) (x : Producer) (l : List Producer) (k : Nat) : Prop :=
  (decide ((↑k : Int) < (↑(List.length l) : Int)) = true → (true && decide ((↑k : Int) < (↑(List.length l) : Int))) = true ∧ (((List.getD l (Int.toNat (↑k : Int)) (@default Producer instInhabitedProducer)).id == x.id) = true → (findI (List.drop k l) x.id = true → ((↑k : Int) = (↑(k + List.findIdx (has x.id) (List.drop k l)) : Int) ∧ True) ∧ True ∧ true = true) ∧ (findI (List.drop k l) x.id = false → False)) ∧ (((List.getD l (Int.toNat (↑k : Int)) (@default Producer instInhabitedProducer)).id == x.id) = false → ∃ (j : Nat), List.length l - j < List.length l - k ∧ (((b = b ∧ List.length l = List.length l ∧ contLe (List.length l) (4 : Nat) (cellsOf' encP l) (cellsOf' encP l)) ∧ (True ∧ (false = false ∧ (4 : Nat) ≤ (4 : Nat) ∧ cellLe (4 : Nat) (Ax.get [AV.y (Value.int IntKind.u64 x.id), AV.y (Value.int IntKind.u64 x.seq), AV.y (Value.bool x.here), AV.y (Value.int IntKind.u64 x.offset)]) (Ax.get [AV.y (Value.int IntKind.u64 x.id), AV.y (Value.int IntKind.u64 x.seq), AV.y (Value.bool x.here), AV.y (Value.int IntKind.u64 x.offset)])) ∧ True) ∧ (0 : Int) = (0 : Int) ∧ (↑(List.length l) : Int) = (↑(List.length l) : Int) ∧ IntKind.wrap IntKind.i64 ((↑k : Int) + (1 : Int)) = (↑j : Int) ∧ True) ∧ True ∧ true = true) ∧ true = true ∧ (findI (List.drop j l) x.id = true → (findI (List.drop k l) x.id = true → (true, j + List.findIdx (has x.id) (List.drop j l)) = (true, k + List.findIdx (has x.id) (List.drop k l))) ∧ (findI (List.drop k l) x.id = false → (true, j + List.findIdx (has x.id) (List.drop j l)) = (false, (0 : Nat)))) ∧ (findI (List.drop j l) x.id = false → (findI (List.drop k l) x.id = true → (false, (0 : Nat)) = (true, k + List.findIdx (has x.id) (List.drop k l))) ∧ (findI (List.drop k l) x.id = false → (false, (0 : Nat)) = (false, (0 : Nat)))))) ∧ (decide ((↑k : Int) < (↑(List.length l) : Int)) = false → (findI (List.drop k l) x.id = true → False) ∧ (findI (List.drop k l) x.id = false → True ∧ True ∧ true = true))
theorem vcIxL_eq (b : Bool) (x : Producer) (l : List Producer) (k : Nat) : (loopVC Tryz.prog (hT _) 116 2 (fun k => l.length - k) (ixT b x l) (fun _ => []) [] (idxO x.id l) ixS k) = vcIxL b x l k := by kernel_rfl
theorem ix_loop (b : Bool) (x : Producer) (l : List Producer) (hl : l.length ≤ 9223372036854775806) (k : Nat) : LoopOk Tryz.prog 116 2 (loopAt Tryz.prog 116 2) ⟨ixT b x l k, [], []⟩ ((idxO x.id l k).map (lout [] ixS)) := by
  refine loop_vc Tryz.mixed (fun _ => rfl) (fun k => (vcIxL_eq b x l k).mpr ?_) k
  unfold vcIxL
  simp
  refine ⟨fun h => ?_, fun h => by simp [findI, drop_end h]⟩
  simp (disch := omega) only [wrap_i64]
  rw [drop_cons h]
  simp only [findI_cons, idx_cons]
  generalize l[k]?.getD default = y
  by_cases hx : y.id = x.id <;> simp [hx, h, cast_succ_eq]
  refine ⟨k + 1, by omega, rfl, ?_⟩
  grind
noncomputable def ixH (b : Bool) (x : Producer) (l : List Producer) : HintsT Tryz.prog := hh _ (lp1 116 2 (jobOf (ixT b x l) (fun _ => []) [] (idxO x.id l) ixS 0) noLp) noCs noOp
def vcIx (b : Bool) (x : Producer) (l : List Producer) : Prop :=
  (((b = b ∧ List.length l = List.length l ∧ contLe (List.length l) (4 : Nat) (cellsOf' encP l) (cellsOf' encP l)) ∧ (True ∧ (false = false ∧ (4 : Nat) ≤ (4 : Nat) ∧ cellLe (4 : Nat) (Ax.get [AV.y (Value.int IntKind.u64 x.id), AV.y (Value.int IntKind.u64 x.seq), AV.y (Value.bool x.here), AV.y (Value.int IntKind.u64 x.offset)]) (Ax.get [AV.y (Value.int IntKind.u64 x.id), AV.y (Value.int IntKind.u64 x.seq), AV.y (Value.bool x.here), AV.y (Value.int IntKind.u64 x.offset)])) ∧ True) ∧ (0 : Int) = (0 : Int) ∧ (↑(List.length l) : Int) = (↑(List.length l) : Int) ∧ (0 : Int) = (0 : Int) ∧ True) ∧ True ∧ true = true) ∧ LoopOk Tryz.prog (116 : Nat) (2 : Nat) (loopAt Tryz.prog (116 : Nat) (2 : Nat)) { t := ixT b x l (0 : Nat), m := [], mv := [] : St } (T.map (lout [] ixS) (idxO x.id l (0 : Nat))) ∧ (findI (List.drop (0 : Nat) l) x.id = true → (↑((0 : Nat) + List.findIdx (has x.id) (List.drop (0 : Nat) l)) : Int) = idxZ l x.id ∧ True) ∧ (findI (List.drop (0 : Nat) l) x.id = false → (-1 : Int) = idxZ l x.id ∧ True)
theorem vcIx_eq (b : Bool) (x : Producer) (l : List Producer) : (ctrVC Tryz.prog (ixH b x l) 116 [encPs b l, .fn (.func 173) [] [.ip false 4 (get (encP x))]] [] (idxR l x.id)) = vcIx b x l := by kernel_rfl
theorem ix_c (b : Bool) (x : Producer) (l : List Producer) (hl : l.length ≤ 9223372036854775806) : (idxR l x.id).Sat (ACall' Tryz.prog 116 [encPs b l, .fn (.func 173) [] [.ip false 4 (get (encP x))]] []) := by
  refine ctr_vc (ht := ixH b x l) Tryz.mixed rfl ?_
  rw [vcIx_eq b x l]
  unfold vcIx
  have := ix_loop b x l hl 0
  simp [this, idxZ]
noncomputable def ixC (b : Bool) (x : Producer) (l : List Producer) (hl : l.length ≤ 9223372036854775806) : Ctr Tryz.prog := ⟨116, [encPs b l, .fn (.func 173) [] [.ip false 4 (get (encP x))]], [], idxR l x.id, ix_c b x l hl⟩
end Go.Proofs.YtnbhdjadlbhknaaGreatDoor.P

namespace Go.Proofs.YtnbhdjadlbhknaaGreatDoor.P
open Go.Ax
set_option maxRecDepth 1000000
def keep (x : Producer) (y : Producer) : Bool := !(y.id == x.id)
def oth (l : List Producer) (x : Producer) : List Producer := l.filter (keep x)
structure DS (l : List Producer) (x : Producer) where
  i : Nat
  j : Nat
  L : List Producer
  len : L.length = l.length
  ij : i ≤ j
  jl : j ≤ l.length
  pre : L.take i = (l.take j).filter (keep x)
  suf : L.drop j = l.drop j
theorem DS.at {l : List Producer} {x : Producer} (q : DS l x) : q.L[q.j]? = l[q.j]? := by
  have := congrArg (fun r : List Producer => r[0]?) q.suf
  simpa [List.getElem?_drop] using this
theorem take_snoc (l : List Producer) (j : Nat) (h : j < l.length) : l.take (j + 1) = l.take j ++ [l[j]?.getD default] := by
  rw [List.take_succ_eq_append_getElem h]; simp [h]
def DS.put {l : List Producer} {x : Producer} (q : DS l x) (h : q.j < l.length) (hk : ¬ (l[q.j]?.getD default).id = x.id) : DS l x where
  i := q.i + 1
  j := q.j + 1
  L := q.L.set q.i (l[q.j]?.getD default)
  len := by simp [q.len]
  ij := by have := q.ij; omega
  jl := by omega
  pre := by
    have h1 := q.ij
    have h2 := q.len
    have h3 : q.i < q.L.length := by omega
    have hk' : keep x (l[q.j]?.getD default) = true := by unfold keep; simpa using hk
    rw [take_snoc l q.j h, List.filter_append, ← q.pre, List.take_succ_eq_append_getElem (by simpa using h3), List.filter_cons_of_pos hk', List.filter_nil]
    simp [List.take_set_of_le]
  suf := by
    have h1 := q.ij
    have h2 := congrArg (fun r : List Producer => r.drop 1) q.suf
    simp only [List.drop_drop] at h2
    rw [List.drop_set_of_lt (by omega)]
    exact h2
def DS.skip {l : List Producer} {x : Producer} (q : DS l x) (h : q.j < l.length) (hk : (l[q.j]?.getD default).id = x.id) : DS l x where
  i := q.i
  j := q.j + 1
  L := q.L
  len := q.len
  ij := by have := q.ij; omega
  jl := by omega
  pre := by
    have hk' : ¬ keep x (l[q.j]?.getD default) = true := by unfold keep; simpa using hk
    rw [take_snoc l q.j h, List.filter_append, ← q.pre, List.filter_cons_of_neg hk', List.filter_nil, List.append_nil]
  suf := by
    have h2 := congrArg (fun r : List Producer => r.drop 1) q.suf
    simpa only [List.drop_drop] using h2
def delT (l : List Producer) (x : Producer) (q : DS l x) : List AV := mkT 42 [(0, .own 1 4 0 l.length), (1, .fn (.func 173) [] [.ptr 0 0 0 0]), (5, .y (.int .i64 q.i)), (6, .y (.int .i64 q.j))]
def delM (l : List Producer) (x : Producer) (q : DS l x) : List Blk := [.box 80 (encP x), .row 80 4 l.length none (cellsOf' encP q.L)]
def delS (l : List Producer) (x : Producer) (_ : Unit) : Exit × List AV × List Blk := (.exit 0, mkT 42 [(0, .own 1 4 0 l.length), (5, .y (.int .i64 (oth l x).length))], [.box 80 (encP x), .row 80 4 l.length none (cutRow (oth l x).length (cellsOf' encP (oth l x)))])
def vcDelL (l : List Producer) (x : Producer) (q : DS l x) : Prop :=
  (decide ((↑q.j : Int) < (↑(List.length l) : Int)) = true → (true && decide ((↑q.j : Int) < (↑(List.length l) : Int))) = true ∧ decide ((0 : Nat) + Int.toNat (↑q.j : Int) < List.length l) = true ∧ true = true ∧ True ∧ ((!(List.getD q.L ((0 : Nat) + Int.toNat (↑q.j : Int)) (@default Producer instInhabitedProducer)).id == x.id) = true → (true && decide ((↑q.i : Int) < (↑(List.length l) : Int))) = true ∧ decide ((0 : Nat) + Int.toNat (↑q.i : Int) < List.length l) = true ∧ ∃ (j : DS l x), List.length l - j.j < List.length l - q.j ∧ ((((0 : Nat) = (0 : Nat) ∧ List.length l = List.length l) ∧ (True ∧ ((0 : Nat) = (0 : Nat) ∧ (0 : Nat) = (0 : Nat)) ∧ True) ∧ IntKind.wrap IntKind.i64 ((↑q.i : Int) + (1 : Int)) = (↑j.i : Int) ∧ IntKind.wrap IntKind.i64 ((↑q.j : Int) + (1 : Int)) = (↑j.j : Int) ∧ True) ∧ ((x.id = x.id ∧ x.seq = x.seq ∧ x.here = x.here ∧ x.offset = x.offset ∧ True) ∧ (List.length l = List.length l ∧ contLe (List.length l) (4 : Nat) (wrRow (cellsOf' encP q.L) ((0 : Nat) + Int.toNat (↑q.i : Int)) (0 : Nat) [AV.y (Value.int IntKind.u64 (List.getD q.L ((0 : Nat) + Int.toNat (↑q.j : Int)) (@default Producer instInhabitedProducer)).id), AV.y (Value.int IntKind.u64 (List.getD q.L ((0 : Nat) + Int.toNat (↑q.j : Int)) (@default Producer instInhabitedProducer)).seq), AV.y (Value.bool (List.getD q.L ((0 : Nat) + Int.toNat (↑q.j : Int)) (@default Producer instInhabitedProducer)).here), AV.y (Value.int IntKind.u64 (List.getD q.L ((0 : Nat) + Int.toNat (↑q.j : Int)) (@default Producer instInhabitedProducer)).offset)]) (cellsOf' encP j.L)) ∧ True) ∧ true = true) ∧ true = true ∧ () = ()) ∧ ((!(List.getD q.L ((0 : Nat) + Int.toNat (↑q.j : Int)) (@default Producer instInhabitedProducer)).id == x.id) = false → ∃ (j : DS l x), List.length l - j.j < List.length l - q.j ∧ ((((0 : Nat) = (0 : Nat) ∧ List.length l = List.length l) ∧ (True ∧ ((0 : Nat) = (0 : Nat) ∧ (0 : Nat) = (0 : Nat)) ∧ True) ∧ (↑q.i : Int) = (↑j.i : Int) ∧ IntKind.wrap IntKind.i64 ((↑q.j : Int) + (1 : Int)) = (↑j.j : Int) ∧ True) ∧ ((x.id = x.id ∧ x.seq = x.seq ∧ x.here = x.here ∧ x.offset = x.offset ∧ True) ∧ (List.length l = List.length l ∧ contLe (List.length l) (4 : Nat) (cellsOf' encP q.L) (cellsOf' encP j.L)) ∧ True) ∧ true = true) ∧ true = true ∧ () = ())) ∧ (decide ((↑q.j : Int) < (↑(List.length l) : Int)) = false → (((0 : Nat) = (0 : Nat) ∧ List.length l = List.length l) ∧ (↑q.i : Int) = (↑(List.length (oth l x)) : Int) ∧ True) ∧ ((x.id = x.id ∧ x.seq = x.seq ∧ x.here = x.here ∧ x.offset = x.offset ∧ True) ∧ (List.length l = List.length l ∧ contLe (List.length l) (4 : Nat) (cellsOf' encP q.L) (cutRow (List.length (oth l x)) (cellsOf' encP (oth l x)))) ∧ True) ∧ true = true)
theorem vcDelL_eq (l : List Producer) (x : Producer) (q : DS l x) : (loopVC Tryz.prog (hT _) 172 5 (fun q : DS l x => l.length - q.j) (delT l x) (delM l x) [2, 3, 4] (fun _ => .ret ()) (delS l x) q) = vcDelL l x q := by kernel_rfl
theorem del_loop (l : List Producer) (x : Producer) (hl : l.length ≤ 9223372036854775806) (q : DS l x) : LoopOk Tryz.prog 172 5 (loopAt Tryz.prog 172 5) ⟨delT l x q, delM l x q, []⟩ (T.map (lout [2, 3, 4] (delS l x)) (.ret ())) := by
  refine loop_vc (o := fun _ => .ret ()) Tryz.mixed (fun _ => rfl) (fun q => (vcDelL_eq l x q).mpr ?_) q
  unfold vcDelL
  have h1 := q.ij
  have h2 := q.len
  have h3 := q.at
  simp
  rw [h3]
  refine ⟨fun h => ⟨h, fun hk => ⟨by omega, q.put h hk, ?_, ?_, ?_⟩, fun hk => ⟨q.skip h hk, ?_, ?_, ?_⟩⟩, fun h => ⟨?_, ?_⟩⟩
  · show l.length - (q.j + 1) < l.length - q.j; omega
  · show IntKind.i64.wrap (↑q.i + 1) = ↑(q.i + 1) ∧ IntKind.i64.wrap (↑q.j + 1) = ↑(q.j + 1)
    rw [wrap_i64 (by omega) (by omega), wrap_i64 (by omega) (by omega)]; omega
  · exact wr_le q.len.symm (by omega) rfl fun j hj => by
      match j, hj with
      | 0, _ => simp [encP]
      | 1, _ => simp [encP]
      | 2, _ => simp [encP]
      | 3, _ => simp [encP]
  · show l.length - (q.j + 1) < l.length - q.j; omega
  · show (q.i : Int) = q.i ∧ IntKind.i64.wrap (↑q.j + 1) = ↑(q.j + 1)
    rw [wrap_i64 (by omega) (by omega)]; omega
  · exact contLe_refl _ _ _
  · have hp := congrArg List.length q.pre
    have hj := q.jl
    rw [List.take_of_length_le (l := l) h, List.length_take] at hp
    unfold oth
    omega
  · have hp := q.pre
    rw [List.take_of_length_le (l := l) h] at hp
    refine cut_le fun k hk hm j hj => ?_
    have e : q.L[k]? = (oth l x)[k]? := by
      unfold oth at hm ⊢
      rw [← hp, List.getElem?_take, if_pos]
      rw [← hp, List.length_take] at hm; omega
    simp [cellsOf', e]
def clr12 : FuncId → Nat → Nat → Nat := sh1 172 12 3 1 noSh
theorem oth_none {l : List Producer} {x : Producer} (h : findI l x.id = false) : oth l x = l := by
  unfold oth
  rw [List.filter_eq_self]
  intro a ha
  have : has x.id a = false := by
    have h2 : l.find? (has x.id) = none := by simpa [findI] using h
    exact Bool.eq_false_iff.2 (List.find?_eq_none.1 h2 a ha)
  simpa [keep, has] using this
def DS.start (l : List Producer) (x : Producer) (h : findI l x.id = true) : DS l x where
  i := l.findIdx (has x.id)
  j := l.findIdx (has x.id) + 1
  L := l
  len := rfl
  ij := by omega
  jl := idx_lt h
  pre := by
    have hlt := idx_lt h
    rw [take_snoc l _ hlt, List.filter_append, idx_at h]
    have h1 : has x.id (findD l x.id) = true := by
      rw [← idx_at h]
      have := List.findIdx_getElem (w := hlt)
      simpa [hlt] using this
    have h2 : [findD l x.id].filter (keep x) = [] := by
      simp [keep]; simpa [has] using h1
    rw [h2, List.append_nil]
    symm
    rw [List.filter_eq_self]
    intro a ha
    obtain ⟨k, hk, rfl⟩ := List.mem_iff_getElem.1 ha
    simp only [List.length_take] at hk
    have h3 := List.not_of_lt_findIdx (p := has x.id) (xs := l) (i := k) (by omega)
    rw [List.getElem_take]
    simpa [keep, has] using h3
  suf := rfl
noncomputable def delJ (l : List Producer) (x : Producer) : FuncId → Nat → St → Option Job := fun f k s =>
  match Nat.beq f 172 && Nat.beq k 5 with
  | true => some ⟨mkT 42 [(0, .own 1 4 0 l.length), (1, .fn (.func 173) [] [.ptr 0 0 0 0]), (5, .y (.int .i64 (l.findIdx (has x.id) : Nat))), (6, .y (.int .i64 (l.findIdx (has x.id) + 1 : Nat)))], [.box 80 (encP x), .row 80 4 l.length none (cellsOf' encP l)], T.map (lout [2, 3, 4] (delS l x)) (.ret ())⟩
  | false => none
noncomputable def delH (l : List Producer) (x : Producer) (hl : l.length ≤ 9223372036854775806) : HintsT Tryz.prog :=
  withSh (hh _ (delJ l x) (cs1 172 1 2 (ixC false x l hl) noCs) noOp) clr12
def delR (l : List Producer) (x : Producer) : T An := .ret (.own 1 4 0 (oth l x).length, [.box 80 (encP x), .row 80 4 (oth l x).length none (cellsOf' encP (oth l x))], [1, 2, 3, 4])
def delMs (l : List Producer) (x : Producer) : List Blk := [.box 80 (encP x), .row 80 4 l.length none (cellsOf' encP l)]
def vcDel (l : List Producer) (x : Producer) (hl : l.length ≤ 9223372036854775806) : Prop :=
  ((false = false ∧ List.length l = List.length l ∧ contLe (List.length l) (4 : Nat) (Ax.rowAt (0 : Nat) (cellsOf' encP l)) (cellsOf' encP l)) ∧ (True ∧ (false = false ∧ (4 : Nat) ≤ (4 : Nat) ∧ cellLe (4 : Nat) (fun (j : Nat) => Ax.get [AV.y (Value.int IntKind.u64 x.id), AV.y (Value.int IntKind.u64 x.seq), AV.y (Value.bool x.here), AV.y (Value.int IntKind.u64 x.offset)] ((0 : Nat) + j)) (Ax.get [AV.y (Value.int IntKind.u64 x.id), AV.y (Value.int IntKind.u64 x.seq), AV.y (Value.bool x.here), AV.y (Value.int IntKind.u64 x.offset)])) ∧ True) ∧ True) ∧ True ∧ true = true ∧ True ∧ ((idxZ l x.id == (-1 : Int)) = true → ((0 : Nat) = (0 : Nat) ∧ List.length l = List.length (oth l x)) ∧ (x.id = x.id ∧ x.seq = x.seq ∧ x.here = x.here ∧ x.offset = x.offset ∧ True) ∧ (List.length l = List.length (oth l x) ∧ contLe (List.length l) (4 : Nat) (cellsOf' encP l) (cellsOf' encP (oth l x))) ∧ True) ∧ ((idxZ l x.id == (-1 : Int)) = false → ((((0 : Nat) = (0 : Nat) ∧ List.length l = List.length l) ∧ (True ∧ ((0 : Nat) = (0 : Nat) ∧ (0 : Nat) = (0 : Nat)) ∧ True) ∧ idxZ l x.id = (↑(List.findIdx (has x.id) l) : Int) ∧ IntKind.wrap IntKind.i64 (idxZ l x.id + (1 : Int)) = (↑(List.findIdx (has x.id) l + (1 : Nat)) : Int) ∧ True) ∧ ((x.id = x.id ∧ x.seq = x.seq ∧ x.here = x.here ∧ x.offset = x.offset ∧ True) ∧ (List.length l = List.length l ∧ contLe (List.length l) (4 : Nat) (cellsOf' encP l) (cellsOf' encP l)) ∧ True) ∧ true = true) ∧ LoopOk Tryz.prog (172 : Nat) (5 : Nat) (loopAt Tryz.prog (172 : Nat) (5 : Nat)) { t := mkT (42 : Nat) [((0 : Nat), AV.own (1 : Nat) (4 : Nat) (0 : Nat) (List.length l)), ((1 : Nat), AV.fn (Fn.func (173 : FuncId)) [] [AV.ptr (0 : Nat) (0 : Nat) (0 : Nat) (0 : Nat)]), ((5 : Nat), AV.y (Value.int IntKind.i64 (↑(List.findIdx (has x.id) l) : Int))), ((6 : Nat), AV.y (Value.int IntKind.i64 (↑(List.findIdx (has x.id) l + (1 : Nat)) : Int)))], m := [Blk.box (80 : TypeId) (encP x), Blk.row (80 : TypeId) (4 : Nat) (List.length l) none (cellsOf' encP l)], mv := [] : St } (T.map (lout [(2 : Nat), (3 : Nat), (4 : Nat)] (delS l x)) (T.ret ())) ∧ (true && decide ((↑(List.length (oth l x)) : Int) ≤ (↑(List.length l) : Int)) && decide ((↑(List.length l) : Int) ≤ (↑(List.length l) : Int))) = true ∧ (true && decide ((↑(List.length (oth l x)) : Int) ≤ (↑(List.length l) : Int))) = true ∧ ((0 : Nat) = (0 : Nat) ∧ Int.toNat (↑(List.length (oth l x)) : Int) - (0 : Nat) = List.length (oth l x)) ∧ (x.id = x.id ∧ x.seq = x.seq ∧ x.here = x.here ∧ x.offset = x.offset ∧ True) ∧ (Int.toNat (↑(List.length (oth l x)) : Int) - (0 : Nat) = List.length (oth l x) ∧ contLe (Int.toNat (↑(List.length (oth l x)) : Int) - (0 : Nat)) (4 : Nat) (clrRow ((0 : Nat) + Int.toNat (↑(List.length (oth l x)) : Int)) (Int.toNat (↑(List.length l) : Int) - Int.toNat (↑(List.length (oth l x)) : Int)) (cutRow (List.length (oth l x)) (cellsOf' encP (oth l x)))) (cellsOf' encP (oth l x))) ∧ True)
theorem vcDel_eq (l : List Producer) (x : Producer) (hl : l.length ≤ 9223372036854775806) : (ctrVC Tryz.prog (delH l x hl) 172 [.own 1 4 0 l.length, .fn (.func 173) [] [.ptr 0 0 0 0]] (delMs l x) (delR l x)) = vcDel l x hl := by kernel_rfl
theorem del_c (l : List Producer) (x : Producer) (hl : l.length ≤ 9223372036854775806) : (delR l x).Sat (ACall' Tryz.prog 172 [.own 1 4 0 l.length, .fn (.func 173) [] [.ptr 0 0 0 0]] (delMs l x)) := by
  refine ctr_vc (ht := delH l x hl) Tryz.mixed rfl ?_
  rw [vcDel_eq l x hl]
  unfold vcDel
  have hm : (oth l x).length ≤ l.length := List.length_filter_le _ _
  by_cases hf : findI l x.id = true
  · have := del_loop l x hl (DS.start l x hf)
    have h2 := idx_lt hf
    simp [idxZ, hf, encP]
    refine ⟨wrap_i64 (by omega) (by omega), ?_, hm, clr_cut (contLe_refl _ _ _) rfl⟩
    simpa [delT, delM, DS.start, encP] using this
  · have hf' : findI l x.id = false := by simpa using hf
    have e := oth_none hf'
    simp [idxZ, hf', encP, e]
end Go.Proofs.YtnbhdjadlbhknaaGreatDoor.P
