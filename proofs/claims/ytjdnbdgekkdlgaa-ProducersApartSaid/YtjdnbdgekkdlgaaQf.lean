import Derived.Test.YtjdnbdgekkdlgaaQe
/-! Producers: what is taken. -/
namespace Go.Proofs.Ytjdnbdgekkdlgaa
open Go.Ax
set_option maxRecDepth 1000000
theorem okFrom_all {l : List Producer} : ∀ (n k : Nat), l.length - k = n → okFrom l k = true → ∀ j, k ≤ j → j < l.length → okP l j = true := by
  intro n
  induction n with
  | zero => intro k hk _ j h1 h2; omega
  | succ n ih =>
    intro k hk h j h1 h2
    rw [okFrom_step (by omega), Bool.and_eq_true] at h
    rcases Nat.lt_or_ge k j with h3 | h3
    · exact ih (k + 1) (by omega) h.2 j (by omega) h2
    · obtain rfl : j = k := by omega
      exact h.1
theorem table_rising {l : List Producer} (h : isTable l = true) : rising l := by
  unfold isTable at h
  rw [Bool.and_eq_true] at h
  have key : ∀ j, 0 < j → j < l.length → (l.getD (j - 1) default).id < (l.getD j default).id := by
    intro j h1 h2
    have := okFrom_all _ 0 rfl h.1 j (Nat.zero_le _) h2
    simp [okP] at this
    rcases this.2 with h3 | h3
    · omega
    · simpa using h3
  have : ∀ d i, i + d + 1 < l.length → (l.getD i default).id < (l.getD (i + d + 1) default).id := by
    intro d
    induction d with
    | zero => intro i hi; exact key (i + 1) (by omega) hi
    | succ d ih => intro i hi; exact Int.lt_trans (ih i (by omega)) (key (i + (d + 1) + 1) (by omega) hi)
  intro i j hij hj
  obtain ⟨d, rfl⟩ : ∃ d, j = i + d + 1 := ⟨j - i - 1, by omega⟩
  exact this d i hj
noncomputable def putN (b : Bool) (l : List Producer) (x : Producer) : Ctr Try.prog := ⟨30, [encPs b l, .agg (encP x)], [], .need (l.length * 32 ≤ 140737488355296 ∧ rising l) (putR l x), T.Sat.need fun h => put_c b l x h.1 h.2⟩
noncomputable def judgeC (b : Bool) (l : List Producer) (id seq : Int) (hl : l.length ≤ 9223372036854775806) : Ctr Try.prog := ⟨10, [encPs b l, .y (.int .u64 id), .y (.int .u64 seq)], [], judgeR l id seq, judge_c b l id seq hl⟩
noncomputable def judgeC2 (b : Bool) (l : List Producer) (id seq : Int) (hl : l.length ≤ 9223372036854775806) : Ctr Try.prog := ⟨15, [encPs b l, .y (.int .u64 id), .y (.int .u64 seq)], [], judgeR l id seq, judge2_c b l id seq hl⟩
def takeE (l : List Producer) (x : Producer) : Int :=
  if !isTable l then 1 else if judgeV l x.id x.seq == 4 then 151 else if !(judgeV l x.id x.seq == 1) then 152 else if !findI l x.id && l.length == 256 then 153 else 0
def takeR (l : List Producer) (x : Producer) : T An := .ite (takeE l x == 0)
  (.ret (.tup [.own 0 4 0 (putL l x).length, .s (.int .i64 0)], [.row 39 4 (putL l x).length none (cellsOf' encP (putL l x))], []))
  (.ret (.tup [.s (.slice none 0 0), .y (.int .i64 (takeE l x))], [], []))
noncomputable def takeH (b : Bool) (l : List Producer) (x : Producer) (hl : l.length ≤ 9223372036854775806) : HintsT Try.prog :=
  hh _ noLp (cs1 26 1 3 (findC b l x.id hl) (cs1 26 2 5 (judgeC b l x.id x.seq hl) (cs1 26 3 1 (tabC b l hl) (cs1 26 11 2 (putN b l x) noCs)))) noOp
def vcTake (b : Bool) (l : List Producer) (x : Producer) (hl : l.length ≤ 9223372036854775806) : Prop :=
  ((b = b ∧ List.length l = List.length l ∧ contLe (List.length l) (4 : Nat) (cellsOf' encP l) (cellsOf' encP l)) ∧ x.id = x.id ∧ True) ∧ True ∧ ((b = b ∧ List.length l = List.length l ∧ contLe (List.length l) (4 : Nat) (cellsOf' encP l) (cellsOf' encP l)) ∧ x.id = x.id ∧ x.seq = x.seq ∧ True) ∧ True ∧ ((b = b ∧ List.length l = List.length l ∧ contLe (List.length l) (4 : Nat) (cellsOf' encP l) (cellsOf' encP l)) ∧ True) ∧ True ∧ ((!isTable l) = true → ((takeE l x == (0 : Int)) = true → (False ∧ (1 : Int) = (0 : Int) ∧ True) ∧ False) ∧ ((takeE l x == (0 : Int)) = false → (True ∧ (1 : Int) = takeE l x ∧ True) ∧ True)) ∧ ((!isTable l) = false → ((judgeV l x.id x.seq == (4 : Int)) = true → ((takeE l x == (0 : Int)) = true → (False ∧ (151 : Int) = (0 : Int) ∧ True) ∧ False) ∧ ((takeE l x == (0 : Int)) = false → (True ∧ (151 : Int) = takeE l x ∧ True) ∧ True)) ∧ ((judgeV l x.id x.seq == (4 : Int)) = false → ((judgeV l x.id x.seq != (1 : Int)) = true → ((takeE l x == (0 : Int)) = true → (False ∧ (152 : Int) = (0 : Int) ∧ True) ∧ False) ∧ ((takeE l x == (0 : Int)) = false → (True ∧ (152 : Int) = takeE l x ∧ True) ∧ True)) ∧ ((judgeV l x.id x.seq != (1 : Int)) = false → ((!findI l x.id) = true → (((↑(List.length l) : Int) == (256 : Int)) = true → ((takeE l x == (0 : Int)) = true → (False ∧ (153 : Int) = (0 : Int) ∧ True) ∧ False) ∧ ((takeE l x == (0 : Int)) = false → (True ∧ (153 : Int) = takeE l x ∧ True) ∧ True)) ∧ (((↑(List.length l) : Int) == (256 : Int)) = false → ((b = b ∧ List.length l = List.length l ∧ contLe (List.length l) (4 : Nat) (cellsOf' encP l) (cellsOf' encP l)) ∧ (x.id = x.id ∧ x.seq = x.seq ∧ x.here = x.here ∧ x.offset = x.offset ∧ True) ∧ True) ∧ True ∧ (List.length l * (32 : Nat) ≤ (140737488355296 : Nat) ∧ ∀ (i j : Nat), i < j → j < List.length l → (List.getD l i (@default Producer instInhabitedProducer)).id < (List.getD l j (@default Producer instInhabitedProducer)).id) ∧ ((takeE l x == (0 : Int)) = true → (((0 : Nat) = (0 : Nat) ∧ List.length (putL l x) = List.length (putL l x)) ∧ (0 : Int) = (0 : Int) ∧ True) ∧ (List.length (putL l x) = List.length (putL l x) ∧ contLe (List.length (putL l x)) (4 : Nat) (cellsOf' encP (putL l x)) (cellsOf' encP (putL l x))) ∧ True) ∧ ((takeE l x == (0 : Int)) = false → False))) ∧ ((!findI l x.id) = false → ((b = b ∧ List.length l = List.length l ∧ contLe (List.length l) (4 : Nat) (cellsOf' encP l) (cellsOf' encP l)) ∧ (x.id = x.id ∧ x.seq = x.seq ∧ x.here = x.here ∧ x.offset = x.offset ∧ True) ∧ True) ∧ True ∧ (List.length l * (32 : Nat) ≤ (140737488355296 : Nat) ∧ ∀ (i j : Nat), i < j → j < List.length l → (List.getD l i (@default Producer instInhabitedProducer)).id < (List.getD l j (@default Producer instInhabitedProducer)).id) ∧ ((takeE l x == (0 : Int)) = true → (((0 : Nat) = (0 : Nat) ∧ List.length (putL l x) = List.length (putL l x)) ∧ (0 : Int) = (0 : Int) ∧ True) ∧ (List.length (putL l x) = List.length (putL l x) ∧ contLe (List.length (putL l x)) (4 : Nat) (cellsOf' encP (putL l x)) (cellsOf' encP (putL l x))) ∧ True) ∧ ((takeE l x == (0 : Int)) = false → False)))))
set_option maxRecDepth 1000000 in
theorem vcTake_eq (b : Bool) (l : List Producer) (x : Producer) (hl : l.length ≤ 9223372036854775806) : (ctrVC Try.prog (takeH b l x hl) 26 [encPs b l, .agg (encP x)] [] (takeR l x)) = vcTake b l x hl := by kernel_rfl
theorem take_c (b : Bool) (l : List Producer) (x : Producer) (hl : l.length ≤ 9223372036854775806) : (takeR l x).Sat (ACall' Try.prog 26 [encPs b l, .agg (encP x)] []) := by
  refine ctr_vc (ht := takeH b l x hl) Try.mixed rfl ?_
  rw [vcTake_eq b l x hl]
  unfold vcTake
  have h1 : isTable l = true → l.length ≤ 256 := by unfold isTable; simp
  by_cases ht : isTable l = true
  · have h2 := h1 ht
    have h3 := table_rising ht
    by_cases h4 : judgeV l x.id x.seq = 4
    · simp [takeE, ht, h4]
    · by_cases h5 : judgeV l x.id x.seq = 1
      · cases hf : findI l x.id
        · by_cases hn : l.length = 256
          · simp [takeE, ht, h5, hf, hn]
          · have hn' : ¬ ((l.length : Int) = 256) := by omega
            simp [takeE, ht, h5, hf, hn, hn']
            exact ⟨by omega, h3⟩
        · simp [takeE, ht, h5, hf]
          exact ⟨by omega, h3⟩
      · simp [takeE, ht, h4, h5]
  · simp [takeE, ht]
def mkP (id seq : Int) (here : Bool) (offset : Int) : Producer := ⟨id, seq, here, offset⟩
noncomputable def takeC (b : Bool) (l : List Producer) (x : Producer) (hl : l.length ≤ 9223372036854775806) : Ctr Try.prog := ⟨26, [encPs b l, .agg (encP x)], [], takeR l x, take_c b l x hl⟩
noncomputable def accH (b : Bool) (l : List Producer) (x : Producer) (hl : l.length ≤ 9223372036854775806) : HintsT Try.prog := hh _ noLp (cs1 11 1 5 (takeC b l x hl) (cs1 17 1 4 (takeC b l x hl) noCs)) noOp
def vcAcc (b : Bool) (l : List Producer) (id : Int) (seq : Int) (o : Int) (hl : l.length ≤ 9223372036854775806) : Prop :=
  ((b = b ∧ List.length l = List.length l ∧ contLe (List.length l) (4 : Nat) (cellsOf' encP l) (cellsOf' encP l)) ∧ (id = id ∧ seq = seq ∧ true = true ∧ o = o ∧ True) ∧ True) ∧ True ∧ ((takeE l (mkP id seq true o) == (0 : Int)) = true → ((takeE l (mkP id seq true o) == (0 : Int)) = true → (((0 : Nat) = (0 : Nat) ∧ List.length (putL l (mkP id seq true o)) = List.length (putL l (mkP id seq true o))) ∧ (0 : Int) = (0 : Int) ∧ True) ∧ (List.length (putL l (mkP id seq true o)) = List.length (putL l (mkP id seq true o)) ∧ contLe (List.length (putL l (mkP id seq true o))) (4 : Nat) (cellsOf' encP (putL l (mkP id seq true o))) (cellsOf' encP (putL l (mkP id seq true o)))) ∧ True) ∧ ((takeE l (mkP id seq true o) == (0 : Int)) = false → False)) ∧ ((takeE l (mkP id seq true o) == (0 : Int)) = false → ((takeE l (mkP id seq true o) == (0 : Int)) = true → (False ∧ takeE l (mkP id seq true o) = (0 : Int) ∧ True) ∧ False) ∧ ((takeE l (mkP id seq true o) == (0 : Int)) = false → (True ∧ takeE l (mkP id seq true o) = takeE l (mkP id seq true o) ∧ True) ∧ True))
set_option maxRecDepth 1000000 in
theorem vcAcc_eq (b : Bool) (l : List Producer) (id : Int) (seq : Int) (o : Int) (hl : l.length ≤ 9223372036854775806) : (ctrVC Try.prog (accH b l (mkP id seq true o) hl) 11 [encPs b l, .y (.int .u64 id), .y (.int .u64 seq), .y (.int .u64 o)] [] (takeR l (mkP id seq true o))) = vcAcc b l id seq o hl := by kernel_rfl
theorem acc_c (b : Bool) (l : List Producer) (id seq o : Int) (hl : l.length ≤ 9223372036854775806) : (takeR l (mkP id seq true o)).Sat (ACall' Try.prog 11 [encPs b l, .y (.int .u64 id), .y (.int .u64 seq), .y (.int .u64 o)] []) := by
  refine ctr_vc (ht := accH b l (mkP id seq true o) hl) Try.mixed rfl ?_
  rw [vcAcc_eq b l id seq o hl]
  unfold vcAcc
  simp [mkP]
noncomputable def accC (b : Bool) (l : List Producer) (id seq o : Int) (hl : l.length ≤ 9223372036854775806) : Ctr Try.prog := ⟨11, [encPs b l, .y (.int .u64 id), .y (.int .u64 seq), .y (.int .u64 o)], [], takeR l (mkP id seq true o), acc_c b l id seq o hl⟩
def vcPass (b : Bool) (l : List Producer) (id : Int) (seq : Int) (hl : l.length ≤ 9223372036854775806) : Prop :=
  ((b = b ∧ List.length l = List.length l ∧ contLe (List.length l) (4 : Nat) (cellsOf' encP l) (cellsOf' encP l)) ∧ (id = id ∧ seq = seq ∧ false = false ∧ (0 : Int) = (0 : Int) ∧ True) ∧ True) ∧ True ∧ ((takeE l (mkP id seq false (0 : Int)) == (0 : Int)) = true → ((takeE l (mkP id seq false (0 : Int)) == (0 : Int)) = true → (((0 : Nat) = (0 : Nat) ∧ List.length (putL l (mkP id seq false (0 : Int))) = List.length (putL l (mkP id seq false (0 : Int)))) ∧ (0 : Int) = (0 : Int) ∧ True) ∧ (List.length (putL l (mkP id seq false (0 : Int))) = List.length (putL l (mkP id seq false (0 : Int))) ∧ contLe (List.length (putL l (mkP id seq false (0 : Int)))) (4 : Nat) (cellsOf' encP (putL l (mkP id seq false (0 : Int)))) (cellsOf' encP (putL l (mkP id seq false (0 : Int))))) ∧ True) ∧ ((takeE l (mkP id seq false (0 : Int)) == (0 : Int)) = false → False)) ∧ ((takeE l (mkP id seq false (0 : Int)) == (0 : Int)) = false → ((takeE l (mkP id seq false (0 : Int)) == (0 : Int)) = true → (False ∧ takeE l (mkP id seq false (0 : Int)) = (0 : Int) ∧ True) ∧ False) ∧ ((takeE l (mkP id seq false (0 : Int)) == (0 : Int)) = false → (True ∧ takeE l (mkP id seq false (0 : Int)) = takeE l (mkP id seq false (0 : Int)) ∧ True) ∧ True))
set_option maxRecDepth 1000000 in
theorem vcPass_eq (b : Bool) (l : List Producer) (id : Int) (seq : Int) (hl : l.length ≤ 9223372036854775806) : (ctrVC Try.prog (accH b l (mkP id seq false 0) hl) 17 [encPs b l, .y (.int .u64 id), .y (.int .u64 seq)] [] (takeR l (mkP id seq false 0))) = vcPass b l id seq hl := by kernel_rfl
theorem pass_c (b : Bool) (l : List Producer) (id seq : Int) (hl : l.length ≤ 9223372036854775806) : (takeR l (mkP id seq false 0)).Sat (ACall' Try.prog 17 [encPs b l, .y (.int .u64 id), .y (.int .u64 seq)] []) := by
  refine ctr_vc (ht := accH b l (mkP id seq false 0) hl) Try.mixed rfl ?_
  rw [vcPass_eq b l id seq hl]
  unfold vcPass
  simp [mkP]
noncomputable def passC (b : Bool) (l : List Producer) (id seq : Int) (hl : l.length ≤ 9223372036854775806) : Ctr Try.prog := ⟨17, [encPs b l, .y (.int .u64 id), .y (.int .u64 seq)], [], takeR l (mkP id seq false 0), pass_c b l id seq hl⟩
end Go.Proofs.Ytjdnbdgekkdlgaa
