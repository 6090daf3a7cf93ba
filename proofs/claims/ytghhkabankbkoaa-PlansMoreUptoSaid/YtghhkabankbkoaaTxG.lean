import Derived.Test.YtghhkabankbkoaaTxF
import Derived.Test.YtghhkabankbkoaaTxV
import Derived.IntWalk
set_option linter.unusedVariables false
set_option linter.unusedSimpArgs false
/-! Small things for the proofs over trees. -/
namespace Go.Ax
open Go

theorem veq_refl (a : Value) : veq a a := by
  unfold veq
  split <;> simp_all [kindB]
@[simp] theorem le0_refl (a : AV) : le0 a a := by
  unfold le0
  split <;> first | (simp_all [veq_refl, sameC]; done) | (rename_i h; cases h; first | exact veq_refl _ | simp [sameC]) | trivial
@[simp] theorem contLe_refl (n sz : Nat) (c : Nat → Nat → AV) : contLe n sz c c := fun _ _ _ _ => le0_refl _
@[simp] theorem cellLe_refl (n : Nat) (c : Nat → AV) : cellLe n c c := fun _ _ => le0_refl _
@[simp] theorem contLe_zero (sz : Nat) (c c' : Nat → Nat → AV) : contLe 0 sz c c' := fun _ h => absurd h (Nat.not_lt_zero _)
@[simp] theorem sameC_refl (n sz : Nat) (c : Nat → Nat → AV) : sameC n sz c c := fun _ _ _ _ => rfl
@[simp] theorem le0_yy (v u : Value) : le0 (.y v) (.y u) = veq v u := rfl
@[simp] theorem le0_sy (v u : Value) : le0 (.s v) (.y u) = veq v u := rfl
@[simp] theorem le0_ys (v u : Value) : le0 (.y v) (.s u) = veq v u := rfl
@[simp] theorem le0_ss (v u : Value) : le0 (.s v) (.s u) = veq v u := rfl
@[simp] theorem veq_int (k : IntKind) (a b : Int) : veq (.int k a) (.int k b) = (a = b) := by simp [veq, kindB]
@[simp] theorem veq_bool (a b : Bool) : veq (.bool a) (.bool b) = (a = b) := rfl
@[simp] theorem veq_string (a b : ByteArray) : veq (.string a) (.string b) = (a = b) := rfl
@[simp] theorem get_zero (a : AV) (l : List AV) : get (a :: l) 0 = a := rfl
@[simp] theorem get_succ (a : AV) (l : List AV) (n : Nat) : get (a :: l) (n + 1) = get l n := rfl
@[simp] theorem appRow_zero (c d : Nat → Nat → AV) : appRow 0 c d = d := by funext k j; simp [appRow]
@[simp] theorem rowAt_zero (c : Nat → Nat → AV) : rowAt 0 c = c := rfl
@[simp] theorem cellLe_one {c c' : Nat → AV} : cellLe 1 c c' ↔ le0 (c 0) (c' 0) := by
  constructor
  · intro h
    exact h 0 (by omega)
  · intro h j hj
    have e : j = 0 := by omega
    rw [e]
    exact h
theorem wrap_i64 {n : Int} (h1 : -9223372036854775808 ≤ n) (h2 : n ≤ 9223372036854775807) : IntKind.wrap IntKind.i64 n = n := IntWalk.i64_in _ (by omega)
theorem wrap_u64 {n : Int} (h1 : 0 ≤ n) (h2 : n ≤ 18446744073709551615) : IntKind.wrap IntKind.u64 n = n := by
  simp [IntKind.wrap, IntKind.bits, IntKind.signed]; omega
theorem cast_succ_eq {k j : Nat} : ((k : Int) + 1 = (j : Int)) ↔ j = k + 1 := by omega

/-- what is to be shown of a loop's round -/
def loopVC (P : Program) (ht : HintsT P) (f k : Nat) {ι τ : Type} (μ : ι → Nat) (stT : ι → List AV) (stM : ι → List Blk) (X : List Nat) (o : ι → T τ) (S : τ → Exit × List AV × List Blk) (i : ι) : Prop :=
  (ecodeT P ht 300 f (loopAt P f k) ⟨stT i, stM i, []⟩).post fun e => match e.1 with
    | .normal => ∃ j, μ j < μ i ∧ stLe e.2 ⟨stT j, stM j, []⟩ ∧ allIn (drops e.2.m (stM j) 0 ++ e.2.mv) X = true ∧ (o j).post fun a => (o i).post fun b => a = b
    | x => (o i).post fun b => exLe (x, e.2) (lout X S b)
def LoopP (P : Program) (f k : Nat) (t : List AV) (m : List Blk) (out : T (Exit × St)) : Prop := LoopOk P f k (loopAt P f k) ⟨t, m, []⟩ out
theorem loop_vc {P : Program} (hm : P.follows .mixedOrders = true) {ht : HintsT P} {f k : Nat} {ι τ : Type} {μ : ι → Nat} {stT : ι → List AV} {stM : ι → List Blk} {X : List Nat} {o : ι → T τ} {S : τ → Exit × List AV × List Blk} (hd : ∀ i, (o i).det = true)
    (h : ∀ i, loopVC P ht f k μ stT stM X o S i) (i : ι) : LoopOk P f k (loopAt P f k) ⟨stT i, stM i, []⟩ ((o i).map (lout X S)) :=
  loop_of hm ht 300 μ (fun i => (stT i, stM i)) X o S hd h i
/-- what is to be shown of a function -/
def ctrVC (P : Program) (ht : HintsT P) (f : Nat) (args : List AV) (M : List Blk) (t : T An) : Prop :=
  (inlT P (ecodeT P ht 300) f args M).post fun a => t.post fun b => anLe a b
theorem ctr_vc {P : Program} (hm : P.follows .mixedOrders = true) {ht : HintsT P} {f : Nat} {args : List AV} {M : List Blk} {t : T An} (hd : t.det = true) (h : ctrVC P ht f args M t) : t.Sat (ACall' P f args M) := ctr_of hm ht 300 hd h
def jobOf {ι τ : Type} (stT : ι → List AV) (stM : ι → List Blk) (X : List Nat) (o : ι → T τ) (S : τ → Exit × List AV × List Blk) (i : ι) : Job := ⟨stT i, stM i, (o i).map (lout X S)⟩

/-- a list's elements, cell by cell -/
def cellsOf' {α : Type} [Inhabited α] (enc : α → List AV) (l : List α) (k j : Nat) : AV := get (enc (l.getD k default)) j
theorem cells_at {α : Type} [Inhabited α] (enc : α → List AV) (l : List α) (k j : Nat) : cellsOf' enc l k j = get (enc (l.getD k default)) j := rfl
theorem app1_le {α : Type} [Inhabited α] {enc : α → List AV} {l : List α} {n sz : Nat} {cs : List AV} {x : α} (hn : n = l.length) (h : ∀ j, j < sz → le0 (get cs j) (get (enc x) j)) :
    contLe (n + 1) sz (appRow n (cellsOf' enc l) (fun k j => get cs (k * sz + j))) (cellsOf' enc (l ++ [x])) := by
  subst hn
  intro k hk j hj
  unfold appRow cellsOf'
  by_cases h1 : k < l.length
  · rw [if_pos h1]
    simp [List.getElem?_append_left h1]
  · obtain rfl : k = l.length := by omega
    simp [h j hj]
theorem drop_cons {α : Type} [Inhabited α] {l : List α} {k : Nat} (h : k < l.length) : l.drop k = (l[k]?.getD default) :: l.drop (k + 1) := by
  rw [List.drop_eq_getElem_cons h]
  simp [h]
theorem drop_end {α : Type} {l : List α} {k : Nat} (h : l.length ≤ k) : l.drop k = [] := List.drop_eq_nil_of_le h
theorem wr_le {α : Type} [Inhabited α] {enc : α → List AV} {l : List α} {i sz n : Nat} {cs : List AV} {x : α} (hn : n = l.length) (hi : i < l.length) (hl : cs.length = sz) (h : ∀ j, j < sz → le0 (get cs j) (get (enc x) j)) :
    contLe n sz (wrRow (cellsOf' enc l) i 0 cs) (cellsOf' enc (l.set i x)) := by
  subst hn
  intro k hk j hj
  unfold wrRow cellsOf'
  by_cases h1 : k = i
  · subst h1
    rw [if_pos ⟨rfl, Nat.zero_le _, by rw [len_eq]; omega⟩]
    simp [List.getElem?_set, hi, h j hj]
  · rw [if_neg (by rintro ⟨h, _⟩; exact h1 h)]
    simp [List.getElem?_set, Ne.symm h1]
/-- the first elements of a list, and what is not known behind them -/
def cutRow (m : Nat) (c : Nat → Nat → AV) (k j : Nat) : AV := if k < m then c k j else .junk
@[simp] theorem le0_junk (a : AV) : le0 a .junk := by cases a <;> trivial
theorem cut_le {n sz m : Nat} {c c' : Nat → Nat → AV} (h : ∀ k, k < n → k < m → ∀ j, j < sz → le0 (c k j) (c' k j)) : contLe n sz c (cutRow m c') := by
  intro k hk j hj
  unfold cutRow
  by_cases h1 : k < m
  · rw [if_pos h1]; exact h k hk h1 j hj
  · rw [if_neg h1]; exact le0_junk _
theorem clr_cut {n sz m d : Nat} {c c' : Nat → Nat → AV} (h : contLe m sz c c') (hn : n = m) : contLe n sz (clrRow m d (cutRow m c)) c' := by
  subst hn
  intro k hk j hj
  unfold clrRow cutRow
  rw [if_neg (by omega), if_pos hk]
  exact h k hk j hj
theorem ins_le {α : Type} [Inhabited α] {enc : α → List AV} {l : List α} {i sz n : Nat} {d : Nat → Nat → AV} {x : α} (hn : n = l.length + 1) (hi : i ≤ l.length) (h : ∀ j, j < sz → le0 (d 0 j) (get (enc x) j)) :
    contLe n sz (insRow i 1 (cellsOf' enc l) d) (cellsOf' enc (l.take i ++ x :: l.drop i)) := by
  subst hn
  intro k hk j hj
  unfold insRow cellsOf'
  have hlen : (l.take i).length = i := by rw [List.length_take]; omega
  by_cases h1 : k < i
  · rw [if_pos h1]
    have e : (l.take i ++ x :: l.drop i)[k]? = l[k]? := by
      rw [List.getElem?_append_left (by omega), List.getElem?_take, if_pos h1]
    simp [e]
  · rw [if_neg h1]
    by_cases h2 : k < i + 1
    · obtain rfl : k = i := by omega
      rw [if_pos (by omega)]
      have e : (l.take k ++ x :: l.drop k)[k]? = some x := by
        rw [List.getElem?_append_right (by omega), hlen]; simp
      simp [e, h j hj]
    · rw [if_neg h2]
      have e : (l.take i ++ x :: l.drop i)[k]? = l[k - 1]? := by
        rw [List.getElem?_append_right (by omega), hlen]
        obtain ⟨q, rfl⟩ : ∃ q, k = i + 1 + q := ⟨k - i - 1, by omega⟩
        rw [show i + 1 + q - i = q + 1 by omega, List.getElem?_cons_succ, List.getElem?_drop]
        congr 1; omega
      simp [e]
theorem app_le {α : Type} [Inhabited α] {enc : α → List AV} {l : List α} {n sz : Nat} {c : Nat → Nat → AV} {cs : List AV} {x : α} (hc : contLe n sz c (cellsOf' enc l)) (hn : n = l.length) (h : ∀ j, j < sz → le0 (get cs j) (get (enc x) j)) :
    contLe (n + 1) sz (appRow n c (fun k j => get cs (k * sz + j))) (cellsOf' enc (l ++ [x])) := by
  subst hn
  intro k hk j hj
  unfold appRow
  by_cases h1 : k < l.length
  · rw [if_pos h1]
    have := hc k h1 j hj
    unfold cellsOf' at this ⊢
    simpa [List.getElem?_append_left h1] using this
  · obtain rfl : k = l.length := by omega
    simp [cellsOf', h j hj]
/-- one loop's job -/
def lp1 (f k : Nat) (J : Job) (els : FuncId → Nat → St → Option Job) : FuncId → Nat → St → Option Job := fun f' k' s => match Nat.beq f f' && Nat.beq k k' with | true => some J | false => els f' k' s
/-- a contract at a place -/
def cs1 {P : Program} (f r p : Nat) (C : Ctr P) (els : FuncId → Nat → Nat → List AV → List Blk → Option (Ctr P)) : FuncId → Nat → Nat → List AV → List Blk → Option (Ctr P) :=
  fun f' r' p' a m => match Nat.beq f f' && Nat.beq r r' && Nat.beq p p' with | true => some C | false => els f' r' p' a m
def noLp : FuncId → Nat → St → Option Job := fun _ _ _ => none
def noCs {P : Program} : FuncId → Nat → Nat → List AV → List Blk → Option (Ctr P) := fun _ _ _ _ _ => none
def op1 (f r p : Nat) (h : Hint) (els : FuncId → Nat → Nat → Option Hint) : FuncId → Nat → Nat → Option Hint := fun f' r' p' => match Nat.beq f f' && Nat.beq r r' && Nat.beq p p' with | true => some h | false => els f' r' p'
def noOp : FuncId → Nat → Nat → Option Hint := fun _ _ _ => none
/-- places of moves: 1: the row's end is cut off; d + 2: the block comes under the name d -/
def sh1 (f r p h : Nat) (els : FuncId → Nat → Nat → Nat) : FuncId → Nat → Nat → Nat := fun f' r' p' => match Nat.beq f f' && Nat.beq r r' && Nat.beq p p' with | true => h | false => els f' r' p'
def noSh : FuncId → Nat → Nat → Nat := fun _ _ _ => 0
def subL (l : List Nat) (f : FuncId) : Bool := mem l f
/-- places where a row's end is cut off; functions that are given blocks -/
def withSh {P : Program} (h : HintsT P) (sh : FuncId → Nat → Nat → Nat) : HintsT P := { h with sp := fun f r => spX P (sh f r), spOk := fun _ _ => spX_ok P _ }
def withSub {P : Program} (h : HintsT P) (l : List Nat) : HintsT P := { h with sub := subL l }
/-- Insert by its contract -/
def withIns {P : Program} {ρ : Go.Shelf.Ren} {sz bytes : Nat} {zv : Value} {nm : String} (h : HintsT P) (L : InsLay P ρ sz bytes zv nm) : HintsT P :=
  { h with
    ct := fun g args M => match Nat.beq g (ρ.f 22) with
      | true => insT (ρ.t 9) sz bytes args M
      | false => none
    ctOk := fun g args M t e => by
      split at e
      · rename_i hg
        rw [Nat.eq_of_beq_eq_true hg]
        exact insT_ok L e
      · cases e }
/-- all hints -/
def hh (P : Program) (lp : FuncId → Nat → St → Option Job) (cs : FuncId → Nat → Nat → List AV → List Blk → Option (Ctr P)) (op : FuncId → Nat → Nat → Option Hint) : HintsT P := { hT P with lp := lp, cs := cs, op := op }
end Go.Ax
