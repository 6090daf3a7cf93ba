import Derived.IntWalk
import Derived.ProofKit
import Derived.ReadAgain
import Derived.SizedLaws
import Derived.Below
import Derived.Test.YtnbhdjadlbhknaaGreatDoorE6
import Derived.Test.YtnbhdjadlbhknaaGreatDoorE9
set_option linter.unusedVariables false
set_option linter.unusedSimpArgs false
set_option linter.unusedSectionVars false
/-! Small things for the proofs over trees. -/
namespace Go.Ax
open Go
variable [Inhabited Gl0]

theorem veq_refl (a : Value) : veq a a := by
  unfold veq
  split <;> simp_all [kindB]
@[simp] theorem le0_refl (a : AV) : le0 a a := by
  unfold le0
  split <;> first | (simp_all [veq_refl, sameC]; done) | (rename_i h; cases h; first | exact veq_refl _ | simp [sameC]) | trivial
@[simp] theorem contLe_refl (n sz : Nat) (c : Nat → Nat → AV) : contLe n sz c c := fun _ _ _ _ => le0_refl _
@[simp] theorem cellLe_refl (n : Nat) (c : Nat → AV) : cellLe n c c := fun _ _ => le0_refl _
@[simp] theorem contLe_zero (sz : Nat) (c c' : Nat → Nat → AV) : contLe 0 sz c c' := fun _ h => absurd h (Nat.not_lt_zero _)
@[simp] theorem sameC_refl (n sz : Nat) (c : Nat → Nat → AV) : sameC n sz c c := fun _ _ _ _ => rfl
@[simp] theorem le0_yy (v u : Value) : le0 (.y v) (.y u) = veq v u := rfl
@[simp] theorem le0_sy (v u : Value) : le0 (.s v) (.y u) = veq v u := rfl
@[simp] theorem le0_ys (v u : Value) : le0 (.y v) (.s u) = veq v u := rfl
@[simp] theorem le0_ss (v u : Value) : le0 (.s v) (.s u) = veq v u := rfl
@[simp] theorem veq_int (k : IntKind) (a b : Int) : veq (.int k a) (.int k b) = (a = b) := by simp [veq, kindB]
@[simp] theorem veq_bool (a b : Bool) : veq (.bool a) (.bool b) = (a = b) := rfl
@[simp] theorem veq_string (a b : ByteArray) : veq (.string a) (.string b) = (a = b) := rfl
@[simp] theorem get_zero (a : AV) (l : List AV) : get (a :: l) 0 = a := rfl
@[simp] theorem get_succ (a : AV) (l : List AV) (n : Nat) : get (a :: l) (n + 1) = get l n := rfl
@[simp] theorem appRow_zero (c d : Nat → Nat → AV) : appRow 0 c d = d := by funext k j; simp [appRow]
@[simp] theorem rowAt_zero (c : Nat → Nat → AV) : rowAt 0 c = c := rfl
@[simp] theorem cellLe_one {c c' : Nat → AV} : cellLe 1 c c' ↔ le0 (c 0) (c' 0) := by
  constructor
  · intro h
    exact h 0 (by omega)
  · intro h j hj
    have e : j = 0 := by omega
    rw [e]
    exact h
theorem wrap_i64 {n : Int} (h1 : -9223372036854775808 ≤ n) (h2 : n ≤ 9223372036854775807) : IntKind.wrap IntKind.i64 n = n := IntWalk.i64_in _ (by omega)
theorem wrap_u64 {n : Int} (h1 : 0 ≤ n) (h2 : n ≤ 18446744073709551615) : IntKind.wrap IntKind.u64 n = n := by
  simp [IntKind.wrap, IntKind.bits, IntKind.signed]; omega
theorem cast_succ_eq {k j : Nat} : ((k : Int) + 1 = (j : Int)) ↔ j = k + 1 := by omega

/-- what is to be shown of a loop's round -/
def loopVC (P : Program) (ht : HintsT P) (f k : Nat) {ι τ : Type} (μ : ι → Nat) (stT : ι → List AV) (stM : ι → List Blk) (X : List Nat) (o : ι → T τ) (S : τ → Exit × List AV × List Blk) (i : ι) : Prop :=
  (ecodeT P ht 300 f (loopAt P f k) ⟨stT i, stM i, []⟩).post fun e => match e.1 with
    | .normal => ∃ j, μ j < μ i ∧ stLe e.2 ⟨stT j, stM j, []⟩ ∧ allIn (drops e.2.m (stM j) 0 ++ e.2.mv) X = true ∧ (o j).post fun a => (o i).post fun b => a = b
    | x => (o i).post fun b => exLe (x, e.2) (lout X S b)
theorem loop_vc {P : Program} (hm : P.follows .mixedOrders = true) {ht : HintsT P} {f k : Nat} {ι τ : Type} {μ : ι → Nat} {stT : ι → List AV} {stM : ι → List Blk} {X : List Nat} {o : ι → T τ} {S : τ → Exit × List AV × List Blk} (hd : ∀ i, (o i).det = true)
    (h : ∀ i, loopVC P ht f k μ stT stM X o S i) (i : ι) : LoopOk P f k (loopAt P f k) ⟨stT i, stM i, []⟩ ((o i).map (lout X S)) :=
  loop_of hm ht 300 μ (fun i => (stT i, stM i)) X o S hd h i
/-- what is to be shown of a function -/
def ctrVC (P : Program) (ht : HintsT P) (f : Nat) (args : List AV) (M : List Blk) (t : T An) : Prop :=
  (inlT P (ecodeT P ht 300) f args M).post fun a => t.post fun b => anLe a b
theorem ctr_vc {P : Program} (hm : P.follows .mixedOrders = true) {ht : HintsT P} {f : Nat} {args : List AV} {M : List Blk} {t : T An} (hd : t.det = true) (h : ctrVC P ht f args M t) : t.Sat (ACall' P f args M) := ctr_of hm ht 300 hd h
def jobOf {ι τ : Type} (stT : ι → List AV) (stM : ι → List Blk) (X : List Nat) (o : ι → T τ) (S : τ → Exit × List AV × List Blk) (i : ι) : Job := ⟨stT i, stM i, (o i).map (lout X S)⟩

/-- a list's elements, cell by cell -/
def cellsOf' {α : Type} [Inhabited α] (enc : α → List AV) (l : List α) (k j : Nat) : AV := get (enc (l.getD k default)) j
theorem app1_le {α : Type} [Inhabited α] {enc : α → List AV} {l : List α} {n sz : Nat} {cs : List AV} {x : α} (hn : n = l.length) (h : ∀ j, j < sz → le0 (get cs j) (get (enc x) j)) :
    contLe (n + 1) sz (appRow n (cellsOf' enc l) (fun k j => get cs (k * sz + j))) (cellsOf' enc (l ++ [x])) := by
  subst hn
  intro k hk j hj
  unfold appRow cellsOf'
  by_cases h1 : k < l.length
  · rw [if_pos h1]
    simp [List.getElem?_append_left h1]
  · obtain rfl : k = l.length := by omega
    simp [h j hj]
theorem drop_cons {α : Type} [Inhabited α] {l : List α} {k : Nat} (h : k < l.length) : l.drop k = (l[k]?.getD default) :: l.drop (k + 1) := by
  rw [List.drop_eq_getElem_cons h]
  simp [h]
theorem drop_end {α : Type} {l : List α} {k : Nat} (h : l.length ≤ k) : l.drop k = [] := List.drop_eq_nil_of_le h
theorem wr_le {α : Type} [Inhabited α] {enc : α → List AV} {l : List α} {i sz n : Nat} {cs : List AV} {x : α} (hn : n = l.length) (hi : i < l.length) (hl : cs.length = sz) (h : ∀ j, j < sz → le0 (get cs j) (get (enc x) j)) :
    contLe n sz (wrRow (cellsOf' enc l) i 0 cs) (cellsOf' enc (l.set i x)) := by
  subst hn
  intro k hk j hj
  unfold wrRow cellsOf'
  by_cases h1 : k = i
  · subst h1
    rw [if_pos ⟨rfl, Nat.zero_le _, by rw [len_eq]; omega⟩]
    simp [List.getElem?_set, hi, h j hj]
  · rw [if_neg (by rintro ⟨h, _⟩; exact h1 h)]
    simp [List.getElem?_set, Ne.symm h1]
/-- the first elements of a list, and what is not known behind them -/
def cutRow (m : Nat) (c : Nat → Nat → AV) (k j : Nat) : AV := if k < m then c k j else .junk
@[simp] theorem le0_junk (a : AV) : le0 a .junk := by cases a <;> trivial
theorem cut_le {n sz m : Nat} {c c' : Nat → Nat → AV} (h : ∀ k, k < n → k < m → ∀ j, j < sz → le0 (c k j) (c' k j)) : contLe n sz c (cutRow m c') := by
  intro k hk j hj
  unfold cutRow
  by_cases h1 : k < m
  · rw [if_pos h1]; exact h k hk h1 j hj
  · rw [if_neg h1]; exact le0_junk _
theorem clr_cut {n sz m d : Nat} {c c' : Nat → Nat → AV} (h : contLe m sz c c') (hn : n = m) : contLe n sz (clrRow m d (cutRow m c)) c' := by
  subst hn
  intro k hk j hj
  unfold clrRow cutRow
  rw [if_neg (by omega), if_pos hk]
  exact h k hk j hj
theorem ins_le {α : Type} [Inhabited α] {enc : α → List AV} {l : List α} {i sz n : Nat} {d : Nat → Nat → AV} {x : α} (hn : n = l.length + 1) (hi : i ≤ l.length) (h : ∀ j, j < sz → le0 (d 0 j) (get (enc x) j)) :
    contLe n sz (insRow i 1 (cellsOf' enc l) d) (cellsOf' enc (l.take i ++ x :: l.drop i)) := by
  subst hn
  intro k hk j hj
  unfold insRow cellsOf'
  have hlen : (l.take i).length = i := by rw [List.length_take]; omega
  by_cases h1 : k < i
  · rw [if_pos h1]
    have e : (l.take i ++ x :: l.drop i)[k]? = l[k]? := by
      rw [List.getElem?_append_left (by omega), List.getElem?_take, if_pos h1]
    simp [e]
  · rw [if_neg h1]
    by_cases h2 : k < i + 1
    · obtain rfl : k = i := by omega
      rw [if_pos (by omega)]
      have e : (l.take k ++ x :: l.drop k)[k]? = some x := by
        rw [List.getElem?_append_right (by omega), hlen]; simp
      simp [e, h j hj]
    · rw [if_neg h2]
      have e : (l.take i ++ x :: l.drop i)[k]? = l[k - 1]? := by
        rw [List.getElem?_append_right (by omega), hlen]
        obtain ⟨q, rfl⟩ : ∃ q, k = i + 1 + q := ⟨k - i - 1, by omega⟩
        rw [show i + 1 + q - i = q + 1 by omega, List.getElem?_cons_succ, List.getElem?_drop]
        congr 1; omega
      simp [e]
/-- one loop's job -/
def lp1 (f k : Nat) (J : Job) (els : FuncId → Nat → St → Option Job) : FuncId → Nat → St → Option Job := fun f' k' s => match Nat.beq f f' && Nat.beq k k' with | true => some J | false => els f' k' s
/-- a contract at a place -/
def cs1 {P : Program} (f r p : Nat) (C : Ctr P) (els : FuncId → Nat → Nat → List AV → List Blk → Option (Ctr P)) : FuncId → Nat → Nat → List AV → List Blk → Option (Ctr P) :=
  fun f' r' p' a m => match Nat.beq f f' && Nat.beq r r' && Nat.beq p p' with | true => some C | false => els f' r' p' a m
def noLp : FuncId → Nat → St → Option Job := fun _ _ _ => none
def noCs {P : Program} : FuncId → Nat → Nat → List AV → List Blk → Option (Ctr P) := fun _ _ _ _ _ => none
def op1 (f r p : Nat) (h : Hint) (els : FuncId → Nat → Nat → Option Hint) : FuncId → Nat → Nat → Option Hint := fun f' r' p' => match Nat.beq f f' && Nat.beq r r' && Nat.beq p p' with | true => some h | false => els f' r' p'
def noOp : FuncId → Nat → Nat → Option Hint := fun _ _ _ => none
/-- places of moves: 1: the row's end is cut off; d + 2: the block comes under the name d -/
def sh1 (f r p h : Nat) (els : FuncId → Nat → Nat → Nat) : FuncId → Nat → Nat → Nat := fun f' r' p' => match Nat.beq f f' && Nat.beq r r' && Nat.beq p p' with | true => h | false => els f' r' p'
def noSh : FuncId → Nat → Nat → Nat := fun _ _ _ => 0
def subL (l : List Nat) (f : FuncId) : Bool := mem l f
/-- places where a row's end is cut off; functions that are given blocks -/
def withSh {P : Program} (h : HintsT P) (sh : FuncId → Nat → Nat → Nat) : HintsT P := { h with sp := fun f r => spX P (sh f r), spOk := fun _ _ => spX_ok P _ }
def withSub {P : Program} (h : HintsT P) (l : List Nat) : HintsT P := { h with sub := subL l }
/-- Insert by its contract -/
def withIns {P : Program} {ρ : Go.Shelf.Ren} {sz bytes : Nat} {zv : Value} {nm : String} (h : HintsT P) (L : InsLay P ρ sz bytes zv nm) : HintsT P :=
  { h with
    ct := fun g args M => match Nat.beq g (ρ.f 22) with
      | true => insT (ρ.t 9) sz bytes args M
      | false => none
    ctOk := fun g args M t e => by
      split at e
      · rename_i hg
        rw [Nat.eq_of_beq_eq_true hg]
        exact insT_ok L e
      · cases e }
/-- all hints -/
def hh (P : Program) (lp : FuncId → Nat → St → Option Job) (cs : FuncId → Nat → Nat → List AV → List Blk → Option (Ctr P)) (op : FuncId → Nat → Nat → Option Hint) : HintsT P := { hT P with lp := lp, cs := cs, op := op }
end Go.Ax

/-! Loops whose rounds have their own hints. -/
namespace Go.Ax
variable [Inhabited Gl0]
set_option maxRecDepth 1000000
theorem loop_ofH {P : Program} (hm : P.follows .mixedOrders = true) (n : Nat) {f : FuncId} {k : Nat} {c : Code} {ι τ : Type} (ht : ι → HintsT P) (μ : ι → Nat) (st : ι → List AV × List Blk) (X : List Nat) (o : ι → T τ) (S : τ → Exit × List AV × List Blk) (hd : ∀ i, (o i).det = true)
    (h : ∀ i, (ecodeT P (ht i) n f c ⟨(st i).1, (st i).2, []⟩).post fun e => match e.1 with
      | .normal => ∃ j, μ j < μ i ∧ stLe e.2 ⟨(st j).1, (st j).2, []⟩ ∧ allIn (drops e.2.m (st j).2 0 ++ e.2.mv) X = true ∧ (o j).post fun a => (o i).post fun b => a = b
      | x => (o i).post fun b => exLe (x, e.2) (lout X S b)) : ∀ i, LoopOk P f k c ⟨(st i).1, (st i).2, []⟩ ((o i).map (lout X S)) := by
  have key : ∀ m i, μ i < m → (o i).Sat fun b => ∃ q, ARounds P c q ⟨(st i).1, (st i).2, []⟩ (lout X S b).1 (lout X S b).2 := by
    intro m
    induction m with
    | zero => intro i hi; omega
    | succ m ih =>
      intro i hi Q hQ
      obtain ⟨⟨x, s⟩, he, hp⟩ := ecodeT_ok hm (ht := ht i) n f c _ _ (h i)
      cases x with
      | normal =>
        obtain ⟨j, hj, hle, hX, hout⟩ := hp
        obtain ⟨a, ⟨q, hq⟩, ha⟩ := ih j (by omega) _ hout
        obtain ⟨b, rfl, hQb⟩ := T.post_ex (hd i) ha hQ
        refine ⟨a, ⟨q + 1, ?_⟩, hQb⟩
        have hmv := allIn_ok hX
        refine ARounds.next he (s1 := s) ?_
        refine ⟨fun i hi => hmv i (List.mem_append_right _ hi), fun H E w a' hC hT hd => ?_⟩
        obtain ⟨E', h1, h2, h3⟩ := stLe_ok hle hC hT
        refine rounds_mono ?_ q a' w (hq.2 H E' w a' h1 h2 hd)
        rintro x' a2 w2 ⟨H1, E1, rfl, hd1, hT1, hC1, hE1⟩
        exact ⟨H1, E1, rfl, hd1, hT1, hC1, h3.trans hE1 fun i hi => hmv i (List.mem_append_left _ hi)⟩
      | _ =>
        obtain ⟨b, hb, hQb⟩ := T.post_ex (hd i) hp hQ
        exact ⟨b, ⟨1, ARounds.out (fun e => by
          unfold exLe at hb
          split at hb
          · rename_i hbb
            simp only [Bool.and_eq_true] at hbb
            rw [← exB_eq hbb.1] at e; cases e
          · exact hb.elim) (exLe_ok he hb)⟩, hQb⟩
  intro i
  exact (key (μ i + 1) i (by omega)).map fun e ⟨q, hq⟩ => ACode.loop hq

theorem loop_vcH {P : Program} (hm : P.follows .mixedOrders = true) {f k : Nat} {ι τ : Type} {ht : ι → HintsT P} {μ : ι → Nat} {stT : ι → List AV} {stM : ι → List Blk} {X : List Nat} {o : ι → T τ} {S : τ → Exit × List AV × List Blk} (hd : ∀ i, (o i).det = true)
    (h : ∀ i, loopVC P (ht i) f k μ stT stM X o S i) (i : ι) : LoopOk P f k (loopAt P f k) ⟨stT i, stM i, []⟩ ((o i).map (lout X S)) :=
  loop_ofH hm 300 ht μ (fun i => (stT i, stM i)) X o S hd h i
instance glNone : Inhabited Gl0 := ⟨⟨[]⟩⟩
end Go.Ax

/-! From what a call answers to the statement. -/
namespace Go.Ax
open Go Go.ChangeShapes Go.WideShapes Go.RowKit
variable [Inhabited Gl0]

theorem evol_kept {mv : List Nat} {H H' : HH} {E' : Env} {w w' : World} (h : Evol mv H E0 w H' E' w') (may : MemPlace → Prop) : w.keptBut w' may := by
  refine ⟨h.os, h.output, fun i hi => ?_⟩
  have := h.keep i hi fun j hj => by simp [E0] at hj
  rw [this]
  cases w.heap[i]? with
  | none => rfl
  | some o => cases o <;> first | exact ⟨rfl, rfl, rfl, fun _ _ => rfl⟩ | exact .inr ⟨rfl, rfl⟩ | rfl

end Go.Ax

/-! From the statement's data to typed arguments. -/
namespace Go.Ax
open Go Go.ChangeShapes Go.WideShapes Go.RowKit
variable [Inhabited Gl0]
set_option maxRecDepth 100000
inductive Sh where
  | int (k : IntKind)
  | bool
  | str
  | sl (e : Sh)
  | st (fs : List Sh)
mutual
def Sh.size : Sh → Nat
  | .st fs => Sh.sizeL fs
  | _ => 1
def Sh.sizeL : List Sh → Nat
  | [] => 0
  | s :: r => s.size + Sh.sizeL r
end
mutual
def Sh.ok (P : Program) : Sh → TypeId → Bool
  | .int k, t => match P.underlying t with | some (.int k') => decide (k' = k) | _ => false
  | .bool, t => match P.underlying t with | some .bool => true | _ => false
  | .str, t => match P.underlying t with | some .string => true | _ => false
  | .sl e, t => match P.underlying t with | some (.slice u) => Sh.ok P e u && Nat.beq (P.cellsOf u) e.size | _ => false
  | .st fs, t => match P.underlying t with | some (.struct l) => Sh.okL P fs l.toList 0 && Nat.beq (P.cellsOf t) (Sh.sizeL fs) | _ => false
def Sh.okL (P : Program) : List Sh → List Field → Nat → Bool
  | [], [], _ => true
  | s :: r, f :: fs, o => Nat.beq f.offset o && (Nat.beq (P.cellsOf f.type) s.size && (Sh.ok P s f.type && Sh.okL P r fs (o + s.size)))
  | _, _, _ => false
end
mutual
def Sh.enc {K : Type} : Sh → DataW K → List AV
  | .int k, d => match d with | .lit (.int _ n) => [.y (.int k n)] | _ => []
  | .bool, d => match d with | .lit (.bool b) => [.y (.bool b)] | _ => []
  | .str, d => match d with | .lit (.string l) => [.y (.string ⟨l.toArray⟩)] | _ => []
  | .sl e, d => match d with | .slice xs _ => [.ys true e.size xs.length (fun k j => get (Sh.enc e (xs.getD k .nil)) j)] | _ => [.ys true e.size 0 (fun _ _ => .junk)]
  | .st fs, d => match d with | .agg ds => Sh.encL fs ds | _ => []
def Sh.encL {K : Type} : List Sh → List (DataW K) → List AV
  | [], _ => []
  | s :: r, l => match l with | d :: ds => s.enc d ++ Sh.encL r ds | [] => []
end
theorem RelL.app : ∀ {a b : List AV} {H : HH} {E : Env} {xs ys : List Value}, RelL a H E xs → RelL b H E ys → RelL (a ++ b) H E (xs ++ ys)
  | [], _, _, _, _, _, h1, h2 => by
    simp only [RelL] at h1
    subst h1; exact h2
  | _ :: _, _, _, _, _, _, h1, h2 => by
    obtain ⟨v, r, rfl, h3, h4⟩ := h1
    exact ⟨v, _, rfl, h3, RelL.app h4 h2⟩
section
variable {K : Type} {enc : TypeId × Value → K} {P : Program} {w : World} {sp : Nat → Bool}
theorem TrodAll_carry {w' : World} : ∀ {ts : List TypeId} {vs : List Value} {ds : List (DataW K)} {ps : List MemPlace}, DataW.TrodAll enc P w 0 sp true ts vs ds ps → (∀ p ∈ ps, w.sameAt w' p) → DataW.TrodAll enc P w' 0 sp true ts vs ds ps
  | [], [], [], _, h, _ => h
  | _ :: _, _ :: _, _ :: _, _, ⟨p, q, ⟨n, h1⟩, h2, e⟩, hs => ⟨p, q, ⟨n, DataW.trod_carry n _ _ _ h1 fun x hx => hs x (by rw [e]; exact List.mem_append_left _ hx)⟩, TrodAll_carry h2 (fun x hx => hs x (by rw [e]; exact List.mem_append_right _ hx)), e⟩
def slicesOk (P : Program) : Bool := (List.range P.types.size).all fun t => match P.underlying t with | some (.slice e) => decide (0 < P.cellsOf e) | _ => true
theorem slicesOk_pos (h : slicesOk P = true) : ∀ t e, t < P.types.size → P.underlying t = some (.slice e) → 0 < P.cellsOf e := by
  intro t e ht hu
  have := List.all_eq_true.1 h t (List.mem_range.2 ht)
  rw [hu] at this
  exact of_decide_eq_true this
/-- a law whose arguments stay -/
theorem post_open {fn : Func} {s : ChangeSpec} {t : TypeId} {apart : Bool} {w' : World} {args : Array Value} {ds gs : List (DataW K)} {before : List MemPlace} {mv : List Nat} {H H' : HH} {E' : Env} (hr : fn.resultTypes.toList = [t])
    (ht : P.underlying t = some .bool) (hv : s.vars = []) (hs : s.fn K ds = { results := [.lit (.bool true)], args := ds }) (hl : laidOutB P = true) (hm : mapsRowed P = true) (hz : slicesOk P = true) (hts : ∀ t ∈ fn.params.toList, t < P.types.size)
    (hW : DataW.Whole enc P fn.params.toList s.vars apart w args.toList ds gs before) (hE : Evol mv H E0 w H' E' w') :
    s.post enc P fn apart true false false w args (.bool true) w' := by
  have hlt := hW.lt
  have hW' := hW
  obtain ⟨p, q, hA, hV, rfl, hfz, hnd⟩ := hW
  rw [hv] at hV
  obtain ⟨rfl, rfl⟩ := trodVars_none hV
  have hsz : fn.resultTypes.size = 1 := by rw [← Array.length_toList, hr]; rfl
  have e0 : s.fn K (ds ++ []) = { results := [.lit (.bool true)], args := ds } := by rw [List.append_nil]; exact hs
  refine ⟨ds, [], _, [], p, [], hW', ?_, ?_, ?_, evol_kept hE _, fun h => by cases h⟩
  · rw [e0, hr, hsz]
    exact trodAll_mk1 (shut_bool ht true)
  · rw [e0]
    refine TrodAll_carry (DataW.TrodAll.respare (kids_rows hl hm) (slicesOk_pos hz) hts hA fun x hx => ?_) fun x hx => ?_
    · have := hlt x (by simpa using hx)
      simpa using this
    · have hb := hlt x (by simpa using hx)
      have hk := hE.keep x.block hb fun j hj => by simp [E0] at hj
      cases x with
      | cell b off =>
        have hk' : w'.heap[b]? = w.heap[b]? := hk
        show w'.cell? ⟨b, off, none⟩ = w.cell? ⟨b, off, none⟩
        unfold World.cell?
        dsimp only
        rw [hk']
      | map b => exact hk
  · rw [e0, hv]; rfl
theorem open_calls {f : FuncId} {fn : Func} {s : ChangeSpec} {t : TypeId} {apart : Bool} {args : Array Value} {ds gs : List (DataW K)} {before : List MemPlace} {avs : List AV} {M : List Blk} {mv : List Nat} (h : ACall P f avs [] (.y (.bool true)) M mv) (hrel : RelL avs (fun _ => heapI w) E0 args.toList)
    (hr : fn.resultTypes.toList = [t]) (ht : P.underlying t = some .bool) (hv : s.vars = []) (hs : s.fn K ds = { results := [.lit (.bool true)], args := ds }) (hl : laidOutB P = true) (hm : mapsRowed P = true) (hz : slicesOk P = true) (hts : ∀ t ∈ fn.params.toList, t < P.types.size)
    (hW : DataW.Whole enc P fn.params.toList s.vars apart w args.toList ds gs before) (hg : GlOk w := by exact fun _ h => by cases h) :
    Calls P f args w fun e w' => ∃ v, e = .returned v ∧ s.post enc P fn apart true false false w args v w' := by
  refine (h (fun _ => heapI w) E0 w args (conc_nil (fun b o hb => hb) ⟨fun b o hb => hb, hg⟩) hrel).mono ?_
  rintro e w' ⟨v, H', E', rfl, hr', hC', hE'⟩
  obtain ⟨rfl, _⟩ := hr'
  exact ⟨_, rfl, post_open hr ht hv hs hl hm hz hts hW hE'⟩
end
theorem call_of {P : Program} {f : FuncId} {avs : List AV} (h : (T.ret (AV.y (.bool true), ([] : List Blk), ([] : List Nat))).Sat (ACall' P f avs [])) : ACall P f avs [] (.y (.bool true)) [] [] := by
  obtain ⟨a, ha, rfl⟩ := h (fun a => a = (AV.y (.bool true), [], [])) rfl
  exact ha
end Go.Ax

/-! Library calls that the kit has proved. -/
namespace Go.Ax
open Go Go.RowKit
variable [Inhabited Gl0]
theorem conc_below {H : HH} {E : Env} {w w' : World} {M : List Blk} (hC : Conc H E w M) (hb : Below w.heap.size w w') : Conc H E w' M ∧ Evol [] H E w H E w' := by
  refine ⟨⟨fun b o hx => (hb.block b (IH.lt_of hC.imm hx)).trans (hC.imm b o hx), hC.tf, fun i => ?_, hC.inj, hC.sep⟩, ⟨hb.os, hb.tape, hb.output, hb.size, fun c hc _ => hb.block c hc, fun j c hj hc => .inl ⟨j, hj, hc⟩, HH.le_refl _, fun _ _ _ hx => .inl hx, fun _ hx _ => ⟨hx, rfl, rfl, rfl⟩⟩⟩
  have := (hC.blk i).move (f := some) (H' := H) (E' := E) (w' := w') (i' := i) (HH.le_refl _) (fun a c hc hl => by cases hc; exact ⟨hl, rfl, rfl, rfl⟩) rfl rfl rfl rfl fun b hl he => hb.block b (hC.lt hl he)
  rwa [renB_some] at this
/-- a call that leaves all there was, and answers a scalar -/
theorem call_below {P : Program} {f : FuncId} {args : List AV} {r : AV} (h : ∀ (w : World) (vals : Array Value), (∃ H E, RelL args H E vals.toList) → Calls P f vals w fun e w' => ∃ v, e = .returned v ∧ (∀ H E, Rel r H E v) ∧ Below w.heap.size w w') : (T.ret (r, [], []) : T An).Sat (ACall' P f args []) := by
  refine T.Sat.ret fun H E w vals hC hargs => ?_
  refine (h w vals ⟨H, E, hargs⟩).mono ?_
  rintro e w' ⟨v, he, hr, hb⟩
  obtain ⟨h1, h2⟩ := conc_below hC hb
  exact ⟨v, H, E, he, hr H E, h1, h2⟩
end Go.Ax
