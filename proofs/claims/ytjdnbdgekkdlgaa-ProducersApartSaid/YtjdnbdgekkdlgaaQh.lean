import Derived.Test.YtjdnbdgekkdlgaaQg
/-! Producers: the document's put is the program's, on tables; the document's Accept and Pass. -/
namespace Go.Proofs.Ytjdnbdgekkdlgaa
open Go.Ax
set_option maxRecDepth 1000000
noncomputable def rpH (b : Bool) (l : List Producer) (x : Producer) : HintsT Try.prog :=
  hh _ (lp1 28 4 (jobOf (rpT b l x) (rpM l x) [1, 2, 3, 4, 5] (fun _ => .ret ()) (rpS l x) 0) noLp) noCs (op1 28 1 0 (.row 39 4) noOp)
def rputR (l : List Producer) (x : Producer) : T An := .ret (.own 0 4 0 (rput l x).length, [.row 39 4 (rput l x).length none (cellsOf' encP (rput l x))], [])
def vcRp (b : Bool) (l : List Producer) (x : Producer) : Prop :=
  (((b = b ∧ List.length l = List.length l ∧ contLe (List.length l) (4 : Nat) (cellsOf' encP l) (cellsOf' encP l)) ∧ ((0 : Nat) = (0 : Nat) ∧ (0 : Nat) = (0 : Nat)) ∧ ((0 : Nat) = (0 : Nat) ∧ (0 : Nat) = (0 : Nat)) ∧ false = false ∧ (0 : Int) = (0 : Int) ∧ True) ∧ ((x.id = x.id ∧ x.seq = x.seq ∧ x.here = x.here ∧ x.offset = x.offset ∧ True) ∧ ((0 : Nat) = (0 : Nat) ∧ contLe (0 : Nat) (4 : Nat) (fun (x x_1 : Nat) => AV.junk) (cellsOf' encP [])) ∧ True) ∧ true = true) ∧ LoopOk Try.prog (28 : Nat) (4 : Nat) (loopAt Try.prog (28 : Nat) (4 : Nat)) { t := rpT b l x (0 : Nat), m := rpM l x (0 : Nat), mv := [] } (T.map (lout [(1 : Nat), (2 : Nat), (3 : Nat), (4 : Nat), (5 : Nat)] (rpS l x)) ((fun (x : Nat) => T.ret ()) (0 : Nat))) ∧ ((!(rst l x (List.length l)).fst) = true → (decide (List.length (rst l x (List.length l)).snd = List.length (rst l x (List.length l)).snd) && decide (List.length (rst l x (List.length l)).snd + (1 : Nat) ≤ (9223372036854775807 : Nat)) && decide ((List.length (rst l x (List.length l)).snd + (1 : Nat)) * (32 : Nat) ≤ (140737488355328 : Nat))) = true ∧ ((0 : Nat) = (0 : Nat) ∧ List.length (rst l x (List.length l)).snd + (1 : Nat) = List.length (rput l x)) ∧ (List.length (rst l x (List.length l)).snd + (1 : Nat) = List.length (rput l x) ∧ contLe (List.length (rst l x (List.length l)).snd + (1 : Nat)) (4 : Nat) (appRow (List.length (rst l x (List.length l)).snd) (cellsOf' encP (rst l x (List.length l)).snd) fun (k j : Nat) => Ax.get [AV.y (Value.int IntKind.u64 x.id), AV.y (Value.int IntKind.u64 x.seq), AV.y (Value.bool x.here), AV.y (Value.int IntKind.u64 x.offset)] (k * (4 : Nat) + j)) (cellsOf' encP (rput l x))) ∧ True) ∧ ((!(rst l x (List.length l)).fst) = false → ((0 : Nat) = (0 : Nat) ∧ List.length (rst l x (List.length l)).snd = List.length (rput l x)) ∧ (List.length (rst l x (List.length l)).snd = List.length (rput l x) ∧ contLe (List.length (rst l x (List.length l)).snd) (4 : Nat) (cellsOf' encP (rst l x (List.length l)).snd) (cellsOf' encP (rput l x))) ∧ True)
set_option maxRecDepth 1000000 in
theorem vcRp_eq (b : Bool) (l : List Producer) (x : Producer) : (ctrVC Try.prog (rpH b l x) 28 [encPs b l, .agg (encP x)] [] (rputR l x)) = vcRp b l x := by kernel_rfl
theorem rput_c (b : Bool) (l : List Producer) (x : Producer) (hl : l.length * 32 ≤ 140737488355200) : (rputR l x).Sat (ACall' Try.prog 28 [encPs b l, .agg (encP x)] []) := by
  refine ctr_vc (ht := rpH b l x) Try.mixed rfl ?_
  rw [vcRp_eq b l x]
  unfold vcRp
  have hL := rp_loop b l x hl 0 (Nat.zero_le _)
  have hlen := rst_len l x l.length
  have hc : ∀ y : Producer, ∀ j, j < 4 → le0 (Ax.get [.y (.int .u64 y.id), .y (.int .u64 y.seq), .y (.bool y.here), .y (.int .u64 y.offset)] j) (Ax.get (encP y) j) := fun y j hj => by
    match j, hj with
    | 0, _ => simp [encP]
    | 1, _ => simp [encP]
    | 2, _ => simp [encP]
    | 3, _ => simp [encP]
  rcases hs : rst l x l.length with ⟨d, o⟩
  rw [hs] at hlen
  cases d <;> simp [rput, hs, hL] at hlen ⊢
  all_goals exact ⟨⟨by omega, by omega⟩, app_le (contLe_refl _ _ _) rfl (hc x)⟩
theorem oth_cons (y : Producer) (t : List Producer) (x : Producer) : oth (y :: t) x = if y.id = x.id then oth t x else y :: oth t x := by
  by_cases h : y.id = x.id
  · rw [if_pos h]; unfold oth; rw [List.filter_cons_of_neg (by simp [keep, h])]
  · rw [if_neg h]; unfold oth; rw [List.filter_cons_of_pos (by simp [keep, h])]
theorem fold_done (x : Producer) : ∀ (l o : List Producer), l.foldl (stp x) (true, o) = (true, o ++ oth l x) := by
  intro l
  induction l with
  | nil => intro o; simp [oth]
  | cons y t ih =>
    intro o
    by_cases h : y.id = x.id
    · simp [stp, h, ih, oth_cons]
    · simp [stp, h, ih, oth_cons]
theorem putL_cons_lt {y : Producer} {t : List Producer} {x : Producer} (h : y.id < x.id) : putL (y :: t) x = y :: putL t x := by
  have h' : ¬ y.id = x.id := by omega
  simp [putL, oth_cons, below, h, h']
theorem putL_ge {y : Producer} {t : List Producer} {x : Producer} (h : x.id ≤ y.id) (ht : ∀ z ∈ t, y.id < z.id) : putL (y :: t) x = x :: oth (y :: t) x := by
  have : below (oth (y :: t) x) x.id = 0 := by
    unfold below
    rw [List.length_eq_zero_iff]
    cases hd : oth (y :: t) x with
    | nil => rfl
    | cons z r =>
      have hz : z ∈ oth (y :: t) x := by rw [hd]; exact List.mem_cons_self
      have hz' : z ∈ y :: t := (List.mem_filter.1 hz).1
      have hlt : ¬ z.id < x.id := by
        rcases List.mem_cons.1 hz' with h1 | h1
        · rw [h1]; omega
        · have := ht z h1; omega
      rw [List.takeWhile_cons_of_neg]
      simpa using hlt
  rw [putL, this]; rfl
theorem fold_put (x : Producer) : ∀ (l o : List Producer), l.Pairwise (fun a b => a.id < b.id) → (if (l.foldl (stp x) (false, o)).1 then (l.foldl (stp x) (false, o)).2 else (l.foldl (stp x) (false, o)).2 ++ [x]) = o ++ putL l x := by
  intro l
  induction l with
  | nil => intro o _; simp [putL, oth, below]
  | cons y t ih =>
    intro o hp
    rw [List.pairwise_cons] at hp
    by_cases h : x.id ≤ y.id
    · rw [putL_ge h hp.1]
      by_cases h2 : y.id = x.id
      · simp [stp, h2, fold_done, oth_cons]
      · simp [stp, h, h2, fold_done, oth_cons]
    · have h2 : ¬ y.id = x.id := by omega
      have := ih (o ++ [y]) hp.2
      rw [putL_cons_lt (by omega)]
      simp only [List.foldl_cons, stp, h, h2, decide_false, Bool.false_and, Bool.false_eq_true, if_false]
      rw [this]; simp
theorem rising_pw (r : List Producer) : rising r ↔ r.Pairwise (fun a b => a.id < b.id) := by
  rw [List.pairwise_iff_getElem]
  constructor
  · intro h i j hi hj hij
    have := h i j hij hj
    simpa [hi, hj] using this
  · intro h i j hij hj
    have := h i j (by omega) hj hij
    simpa [show i < r.length by omega, hj] using this
theorem rput_putL {l : List Producer} {x : Producer} (h : rising l) : rput l x = putL l x := by
  have := fold_put x l [] ((rising_pw l).1 h)
  simpa [rput, rst] using this
noncomputable def rputN (b : Bool) (l : List Producer) (x : Producer) : Ctr Try.prog := ⟨28, [encPs b l, .agg (encP x)], [], .need (l.length * 32 ≤ 140737488355200 ∧ rising l) (putR l x), T.Sat.need fun h => by
  have := rput_c b l x h.1
  rw [rputR, rput_putL h.2] at this
  exact this⟩
noncomputable def raccH (b : Bool) (l : List Producer) (x : Producer) (hl : l.length ≤ 9223372036854775806) : HintsT Try.prog :=
  hh _ noLp (cs1 16 1 1 (tabC2 b l hl) (cs1 16 2 3 (judgeC2 b l x.id x.seq hl) (cs1 16 9 6 (idxC b l x.id hl) (cs1 16 11 5 (rputN b l x) noCs)))) noOp
def vcRacc (b : Bool) (l : List Producer) (id : Int) (seq : Int) (o : Int) (hl : l.length ≤ 9223372036854775806) : Prop :=
  ((b = b ∧ List.length l = List.length l ∧ contLe (List.length l) (4 : Nat) (cellsOf' encP l) (cellsOf' encP l)) ∧ True) ∧ True ∧ ((b = b ∧ List.length l = List.length l ∧ contLe (List.length l) (4 : Nat) (cellsOf' encP l) (cellsOf' encP l)) ∧ id = id ∧ seq = seq ∧ True) ∧ True ∧ ((!isTable l) = true → ((takeE l (mkP id seq true o) == (0 : Int)) = true → (False ∧ (1 : Int) = (0 : Int) ∧ True) ∧ False) ∧ ((takeE l (mkP id seq true o) == (0 : Int)) = false → (True ∧ (1 : Int) = takeE l (mkP id seq true o) ∧ True) ∧ True)) ∧ ((!isTable l) = false → ((judgeV l id seq == (4 : Int)) = true → ((takeE l (mkP id seq true o) == (0 : Int)) = true → (False ∧ (151 : Int) = (0 : Int) ∧ True) ∧ False) ∧ ((takeE l (mkP id seq true o) == (0 : Int)) = false → (True ∧ (151 : Int) = takeE l (mkP id seq true o) ∧ True) ∧ True)) ∧ ((judgeV l id seq == (4 : Int)) = false → ((judgeV l id seq != (1 : Int)) = true → ((takeE l (mkP id seq true o) == (0 : Int)) = true → (False ∧ (152 : Int) = (0 : Int) ∧ True) ∧ False) ∧ ((takeE l (mkP id seq true o) == (0 : Int)) = false → (True ∧ (152 : Int) = takeE l (mkP id seq true o) ∧ True) ∧ True)) ∧ ((judgeV l id seq != (1 : Int)) = false → (decide ((256 : Int) ≤ (↑(List.length l) : Int)) = true → ((b = b ∧ List.length l = List.length l ∧ contLe (List.length l) (4 : Nat) (cellsOf' encP l) (cellsOf' encP l)) ∧ id = id ∧ True) ∧ True ∧ (decide (idxZ l id < (0 : Int)) = true → ((takeE l (mkP id seq true o) == (0 : Int)) = true → (False ∧ (153 : Int) = (0 : Int) ∧ True) ∧ False) ∧ ((takeE l (mkP id seq true o) == (0 : Int)) = false → (True ∧ (153 : Int) = takeE l (mkP id seq true o) ∧ True) ∧ True)) ∧ (decide (idxZ l id < (0 : Int)) = false → ((b = b ∧ List.length l = List.length l ∧ contLe (List.length l) (4 : Nat) (cellsOf' encP l) (cellsOf' encP l)) ∧ (id = id ∧ seq = seq ∧ true = true ∧ o = o ∧ True) ∧ True) ∧ True ∧ (List.length l * (32 : Nat) ≤ (140737488355200 : Nat) ∧ ∀ (i j : Nat), i < j → j < List.length l → (List.getD l i (@default Producer instInhabitedProducer)).id < (List.getD l j (@default Producer instInhabitedProducer)).id) ∧ ((takeE l (mkP id seq true o) == (0 : Int)) = true → (((0 : Nat) = (0 : Nat) ∧ List.length (putL l (mkP id seq true o)) = List.length (putL l (mkP id seq true o))) ∧ (0 : Int) = (0 : Int) ∧ True) ∧ (List.length (putL l (mkP id seq true o)) = List.length (putL l (mkP id seq true o)) ∧ contLe (List.length (putL l (mkP id seq true o))) (4 : Nat) (cellsOf' encP (putL l (mkP id seq true o))) (cellsOf' encP (putL l (mkP id seq true o)))) ∧ True) ∧ ((takeE l (mkP id seq true o) == (0 : Int)) = false → False))) ∧ (decide ((256 : Int) ≤ (↑(List.length l) : Int)) = false → ((b = b ∧ List.length l = List.length l ∧ contLe (List.length l) (4 : Nat) (cellsOf' encP l) (cellsOf' encP l)) ∧ (id = id ∧ seq = seq ∧ true = true ∧ o = o ∧ True) ∧ True) ∧ True ∧ (List.length l * (32 : Nat) ≤ (140737488355200 : Nat) ∧ ∀ (i j : Nat), i < j → j < List.length l → (List.getD l i (@default Producer instInhabitedProducer)).id < (List.getD l j (@default Producer instInhabitedProducer)).id) ∧ ((takeE l (mkP id seq true o) == (0 : Int)) = true → (((0 : Nat) = (0 : Nat) ∧ List.length (putL l (mkP id seq true o)) = List.length (putL l (mkP id seq true o))) ∧ (0 : Int) = (0 : Int) ∧ True) ∧ (List.length (putL l (mkP id seq true o)) = List.length (putL l (mkP id seq true o)) ∧ contLe (List.length (putL l (mkP id seq true o))) (4 : Nat) (cellsOf' encP (putL l (mkP id seq true o))) (cellsOf' encP (putL l (mkP id seq true o)))) ∧ True) ∧ ((takeE l (mkP id seq true o) == (0 : Int)) = false → False)))))
set_option maxRecDepth 1000000 in
theorem vcRacc_eq (b : Bool) (l : List Producer) (id : Int) (seq : Int) (o : Int) (hl : l.length ≤ 9223372036854775806) : (ctrVC Try.prog (raccH b l (mkP id seq true o) hl) 16 [encPs b l, .y (.int .u64 id), .y (.int .u64 seq), .y (.int .u64 o)] [] (takeR l (mkP id seq true o))) = vcRacc b l id seq o hl := by kernel_rfl
theorem racc_c (b : Bool) (l : List Producer) (id seq o : Int) (hl : l.length ≤ 9223372036854775806) : (takeR l (mkP id seq true o)).Sat (ACall' Try.prog 16 [encPs b l, .y (.int .u64 id), .y (.int .u64 seq), .y (.int .u64 o)] []) := by
  refine ctr_vc (ht := raccH b l (mkP id seq true o) hl) Try.mixed rfl ?_
  rw [vcRacc_eq b l id seq o hl]
  unfold vcRacc
  have h1 : isTable l = true → l.length ≤ 256 := by unfold isTable; simp
  by_cases ht : isTable l = true
  · have h2 := h1 ht
    have h3 := table_rising ht
    by_cases h4 : judgeV l id seq = 4
    · simp [takeE, mkP, ht, h4]
    · by_cases h5 : judgeV l id seq = 1
      · cases hf : findI l id
        · by_cases hn : l.length = 256
          · simp [takeE, mkP, ht, h5, hf, hn, idxZ]
          · have hn' : ¬ ((256 : Int) ≤ l.length) := by omega
            simp [takeE, mkP, ht, h5, hf, hn, hn', idxZ]
            exact ⟨by omega, h3⟩
        · have hz : ¬ (((l.findIdx (has id) : Nat) : Int) < 0) := by omega
          by_cases hn : (256 : Int) ≤ l.length
          · simp [takeE, mkP, ht, h5, hf, idxZ, hz, hn]
            exact ⟨by omega, h3⟩
          · simp [takeE, mkP, ht, h5, hf, idxZ, hn]
            exact ⟨by omega, h3⟩
      · simp [takeE, mkP, ht, h4, h5]
  · simp [takeE, mkP, ht]
noncomputable def raccC (b : Bool) (l : List Producer) (id seq o : Int) (hl : l.length ≤ 9223372036854775806) : Ctr Try.prog := ⟨16, [encPs b l, .y (.int .u64 id), .y (.int .u64 seq), .y (.int .u64 o)], [], takeR l (mkP id seq true o), racc_c b l id seq o hl⟩
end Go.Proofs.Ytjdnbdgekkdlgaa
