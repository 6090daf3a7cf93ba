import Derived.Test.YtckklclehofddaaDoorProg
import Derived.KernelRfl
import Derived.Test.YtckklclehofddaaDoorE10
import Derived.Test.YtckklclehofddaaDoorW2
set_option linter.unusedVariables false
set_option linter.unusedSimpArgs false
set_option linter.unusedSectionVars false
/-! Records: Map, Concat: the contracts. -/
namespace Go.Proofs.YtckklclehofddaaDoor
open Go.Ax
set_option maxRecDepth 1000000
def wfC (l : List Con) : Prop := ∀ x ∈ l, offOk x.off
theorem wfC_at {l : List Con} (h : wfC l) {k : Nat} (hk : k < l.length) : offOk (l.getD k default).off := h _ (by simp [hk])
theorem mapU_step {l : List Con} {to : List Int} {k : Nat} (h : k < l.length) (ht : ¬ to.length = 0) : mapU l to (k + 1) = mapU l to k ++ [movC to (l[k]?.getD default)] := by
  unfold mapU
  rw [if_neg ht, if_neg ht]
  have : l.take (k + 1) = l.take k ++ [l[k]?.getD default] := by
    rw [List.take_add_one, List.getElem?_eq_getElem h]; rfl
  rw [this, List.map_append]; rfl
theorem mapU_len (l : List Con) (to : List Int) (k : Nat) : (mapU l to k).length ≤ l.length := by
  unfold mapU
  split <;> simp
  exact Nat.min_le_right _ _
theorem mapU_end {l : List Con} {to : List Int} {k : Nat} (h : l.length ≤ k) : mapU l to k = mapU l to l.length := by
  unfold mapU
  rw [List.take_of_length_le h, List.take_length]
theorem mp_loop (b1 b2 : Bool) (l : List Con) (to : List Int) (ht : 0 < to.length) (htl : to.length ≤ 9223372036854775806) (hl : l.length * 24 ≤ 140737488355200) (hw : wfC l) (k : Nat) : LoopOk Tryd.prog 22 6 (loopAt Tryd.prog 22 6) ⟨mpT b1 b2 l to k, mpM l to k, []⟩ (T.map (lout [0, 1, 2, 3, 4, 5] (mpS l to)) (.ret ())) := by
  refine loop_vcH (ht := mpHL b2 l to) (o := fun _ => .ret ()) Tryd.mixed (fun _ => rfl) (fun k => (vcMpL_eq b1 b2 l to k).mpr ?_) k
  unfold vcMpL
  have hlen := mapU_len l to k
  simp
  refine ⟨fun h => ?_, fun h => ?_⟩
  · have hwk := wfC_at hw h
    have e1 : IntKind.i64.wrap ((k : Int) + 1) = ((k + 1 : Nat) : Int) := by rw [wrap_i64 (by omega) (by omega)]; omega
    rw [e1]
    simp at hwk
    refine ⟨h, ⟨ht, htl, hwk.1, hwk.2⟩, ⟨by omega, by omega⟩, k + 1, by omega, ⟨⟨?_, rfl⟩, ?_⟩⟩
    all_goals rw [mapU_step h (by omega)]
    · simp
    · refine ⟨by simp, app_le (contLe_refl _ _ _) rfl fun j hj => ?_⟩
      exact enc_le (movC to (l[k]?.getD default)) j hj
  · rw [mapU_end h]
    exact ⟨rfl, contLe_refl _ _ _⟩
theorem mp_c (b1 b2 : Bool) (l : List Con) (to : List Int) (htl : to.length ≤ 9223372036854775806) (hl : l.length * 24 ≤ 140737488355200) (hw : wfC l) : (conR (mapU l to l.length)).Sat (ACall' Tryd.prog 22 [encCs b1 l, encUs b2 to] []) := by
  refine ctr_vc (ht := mpH b1 b2 l to) Tryd.mixed rfl ?_
  rw [vcMp_eq b1 b2 l to]
  unfold vcMp
  by_cases h0 : to.length = 0
  · simp [h0, mapU]
  · have lp := mp_loop b1 b2 l to (by omega) htl hl hw 0
    have h1 : ¬ ((to.length : Int) = 0) := by omega
    simp [h0, lp]
    have e0 : mapU l to 0 = [] := by unfold mapU; split <;> simp
    simp [e0]
theorem mr_loop (b1 b2 : Bool) (l : List Con) (to : List Int) (htl : to.length ≤ 9223372036854775806) (hl : l.length * 24 ≤ 140737488355200) (hw : wfC l) (k : Nat) : LoopOk Tryd.prog 45 3 (loopAt Tryd.prog 45 3) ⟨mrT b1 b2 l to k, mpM l to k, []⟩ (T.map (lout [0, 1, 2, 3, 4, 5] (mrS l to)) (.ret ())) := by
  refine loop_vcH (ht := mrHL b2 l to) (o := fun _ => .ret ()) Tryd.mixed (fun _ => rfl) (fun k => (vcMrL_eq b1 b2 l to k).mpr ?_) k
  unfold vcMrL
  have hlen := mapU_len l to k
  simp
  refine ⟨fun h => ⟨fun ht => ?_, fun ht => ?_⟩, fun h => ?_⟩
  · have ht' : 0 < to.length := by
      rcases Nat.eq_zero_or_pos to.length with h0 | h0
      · have := List.eq_nil_of_length_eq_zero h0; simp [this] at ht
      · exact h0
    have hwk := wfC_at hw h
    have e1 : IntKind.i64.wrap ((k : Int) + 1) = ((k + 1 : Nat) : Int) := by rw [wrap_i64 (by omega) (by omega)]; omega
    rw [e1]
    simp at hwk
    refine ⟨h, ⟨ht', htl, hwk.1, hwk.2⟩, ⟨by omega, by omega⟩, k + 1, by omega, ⟨⟨?_, rfl⟩, ?_⟩⟩
    all_goals rw [mapU_step h (by omega)]
    · simp
    · refine ⟨by simp, app_le (contLe_refl _ _ _) rfl fun j hj => ?_⟩
      exact enc_le (movC to (l[k]?.getD default)) j hj
  · have h0 : to.length = 0 := by simp [ht]
    simp [mapU, h0]
  · rw [mapU_end h]
    exact ⟨rfl, contLe_refl _ _ _⟩
theorem mr_c (b1 b2 : Bool) (l : List Con) (to : List Int) (htl : to.length ≤ 9223372036854775806) (hl : l.length * 24 ≤ 140737488355200) (hw : wfC l) : (conR (mapU l to l.length)).Sat (ACall' Tryd.prog 45 [encCs b1 l, encUs b2 to] []) := by
  refine ctr_vc (ht := mrH b1 b2 l to) Tryd.mixed rfl ?_
  rw [vcMr_eq b1 b2 l to]
  unfold vcMr
  have lp := mr_loop b1 b2 l to htl hl hw 0
  have e0 : mapU l to 0 = [] := by unfold mapU; split <;> simp
  simp [lp, e0]
theorem cat2_le {n sz : Nat} {a b : List Con} {c : Nat → Nat → AV} (h : contLe a.length sz c (cellsOf' encC a)) (hn : n = a.length) : contLe (n + b.length) sz (appRow n c (cellsOf' encC b)) (cellsOf' encC (a ++ b)) := by
  subst hn
  intro k hk j hj
  unfold appRow
  split
  · rename_i h1
    have := h k h1 j hj
    rw [cells_at] at this ⊢
    rw [show (a ++ b).getD k default = a.getD k default by simp [List.getD_eq_getElem?_getD, List.getElem?_append_left h1]]
    exact this
  · rename_i h1
    rw [cells_at, cells_at, show (a ++ b).getD k default = b.getD (k - a.length) default by simp [List.getD_eq_getElem?_getD, List.getElem?_append_right (Nat.le_of_not_lt h1)]]
    exact le0_refl _
theorem cat1_le {n sz : Nat} {a : List Con} {c : Nat → Nat → AV} : contLe n sz (appRow 0 c (cellsOf' encC a)) (cellsOf' encC a) := by
  intro k hk j hj
  unfold appRow
  rw [if_neg (Nat.not_lt_zero _)]
  exact le0_refl _
end Go.Proofs.YtckklclehofddaaDoor

/-! Records: Both, Commit: the conditions. -/
namespace Go.Proofs.YtckklclehofddaaDoor
open Go.Ax
set_option maxRecDepth 1000000
def miN (x y : Int) : Int := if y < x then y else x
def joC (a b : List Con) (ta tb : List Int) (x : Con) : Con := ⟨x.name, miN (elemO ta (readO a x.name)) (elemO tb (readO b x.name))⟩
def boU (a b : List Con) (ta tb : List Int) (k : Nat) : List Con := ((a ++ b).take k).foldl (fun s x => putL s (joC a b ta tb x)) []
def boT (b1 b2 b3 b4 : Bool) (a b : List Con) (ta tb : List Int) (k : Nat) : List AV := mkT 81 [(0, encCs b1 a), (1, encCs b2 b), (10, fnO b3 ta), (11, fnO b4 tb), (12, .own 0 2 0 (boU a b ta tb k).length), (44, .own 2 2 0 (a ++ b).length), (45, .y (.int .i64 (a ++ b).length)), (46, .y (.int .i64 k))]
def boM (a b : List Con) (ta tb : List Int) (k : Nat) : List Blk := [rowC (boU a b ta tb k), .dead, rowC (a ++ b)]
def boS (a b : List Con) (ta tb : List Int) (_ : Unit) : Exit × List AV × List Blk := (.exit 0, mkT 81 [(12, .own 0 2 0 (boU a b ta tb (a ++ b).length).length)], [rowC (boU a b ta tb (a ++ b).length)])
def boX : List Nat := [0, 1, 2, 3, 4, 5, 6, 7, 8]
def bothE (a b : List Con) (ta tb : List Int) : Int := if !isCons a || !isCons b || decide (ta.length = 0) || decide (tb.length = 0) then 1 else if decide (64 < (boU a b ta tb (a ++ b).length).length) then 143 else 0
def rowE (r : List Con) (e : Int) : T An := .ite (e == 0) (.ret (.tup [.own 0 2 0 r.length, .s (.int .i64 0)], [rowC r], [])) (.ret (.tup [.s (.slice none 0 0), .y (.int .i64 e)], [], []))
def rbT (b1 b2 b3 b4 : Bool) (a b : List Con) (ta tb : List Int) (k : Nat) : List AV := mkT 89 [(0, encCs b1 a), (1, encCs b2 b), (2, encUs b3 ta), (3, encUs b4 tb), (12, .own 0 2 0 (boU a b ta tb k).length), (13, .own 1 2 0 (a ++ b).length), (14, .y (.int .i64 k))]
def rbM (a b : List Con) (ta tb : List Int) (k : Nat) : List Blk := [rowC (boU a b ta tb k), rowC (a ++ b)]
def rbS (a b : List Con) (ta tb : List Int) (_ : Unit) : Exit × List AV × List Blk := (.exit 0, mkT 89 [(12, .own 0 2 0 (boU a b ta tb (a ++ b).length).length)], [rowC (boU a b ta tb (a ++ b).length)])
/-! Commit -/
def comE (l : List Con) (x : Con) (e : Int) : Int := if !isCons l then 1 else if !nameOk x.name then 142 else if decide (e < x.off) then 141 else if !inC l x.name && decide (l.length = 64) then 143 else 0
end Go.Proofs.YtckklclehofddaaDoor

/-! Records: Both, Commit: the contracts. -/
namespace Go.Proofs.YtckklclehofddaaDoor
open Go.Ax
set_option maxRecDepth 1000000
theorem cons_all {l : List Con} : ∀ (n k : Nat), l.length - k = n → coFrom l k = true → ∀ j, k ≤ j → j < l.length → coOk l j = true := by
  intro n
  induction n with
  | zero => intro k hk _ j h1 h2; omega
  | succ n ih =>
    intro k hk h j h1 h2
    rw [coFrom_step (by omega), Bool.and_eq_true] at h
    rcases Nat.lt_or_ge k j with h3 | h3
    · exact ih (k + 1) (by omega) h.2 j (by omega) h2
    · obtain rfl : j = k := by omega
      exact h.1
theorem cons_len {l : List Con} (h : isCons l = true) : l.length ≤ 64 := by
  unfold isCons at h
  rw [Bool.and_eq_true] at h
  exact of_decide_eq_true h.2
theorem cons_ris {l : List Con} (h : isCons l = true) : risC l := by
  unfold isCons at h
  rw [Bool.and_eq_true] at h
  have key : ∀ j, 0 < j → j < l.length → lt (l.getD (j - 1) default).name (l.getD j default).name = true := by
    intro j h1 h2
    have := cons_all _ 0 rfl h.1 j (Nat.zero_le _) h2
    unfold coOk at this
    rw [Bool.and_eq_true, decide_eq_true h1] at this
    simpa using this.2
  have : ∀ d i, i + d + 1 < l.length → lt (l.getD i default).name (l.getD (i + d + 1) default).name = true := by
    intro d
    induction d with
    | zero => intro i hi; exact key (i + 1) (by omega) hi
    | succ d ih => intro i hi; exact lt_trans' (ih i (by omega)) (key (i + (d + 1) + 1) (by omega) hi)
  intro i j hij hj
  obtain ⟨d, rfl⟩ : ∃ d, j = i + d + 1 := ⟨j - i - 1, by omega⟩
  exact this d i hj
theorem read_ok : ∀ {l : List Con} (s : ByteArray), wfC l → offOk (readO l s)
  | [], s, _ => by
    rw [read_none [] s rfl]; exact ⟨by omega, by omega⟩
  | y :: l, s, h => by
    rw [readO_cons]
    split
    · exact h y List.mem_cons_self
    · exact read_ok s fun x hx => h x (List.mem_cons_of_mem y hx)
theorem boU_step {a b : List Con} {ta tb : List Int} {k : Nat} (h : k < (a ++ b).length) : boU a b ta tb (k + 1) = putL (boU a b ta tb k) (joC a b ta tb ((a ++ b)[k]?.getD default)) := by
  unfold boU
  have : (a ++ b).take (k + 1) = (a ++ b).take k ++ [(a ++ b)[k]?.getD default] := by
    rw [List.take_add_one, List.getElem?_eq_getElem h]; rfl
  rw [this, List.foldl_append]; rfl
theorem boU_end {a b : List Con} {ta tb : List Int} {k : Nat} (h : (a ++ b).length ≤ k) : boU a b ta tb k = boU a b ta tb (a ++ b).length := by
  unfold boU
  rw [List.take_of_length_le h, List.take_length]
theorem boU_zero (a b : List Con) (ta tb : List Int) : boU a b ta tb 0 = [] := by unfold boU; simp
theorem boU_ris (a b : List Con) (ta tb : List Int) : ∀ k, risC (boU a b ta tb k)
  | 0 => by rw [boU_zero]; intro i j _ h; simp at h
  | k + 1 => by
    rcases Nat.lt_or_ge k (a ++ b).length with h | h
    · rw [boU_step h]; exact put_ris (boU_ris a b ta tb k)
    · rw [boU_end (by omega), ← boU_end h]; exact boU_ris a b ta tb k
theorem boU_len (a b : List Con) (ta tb : List Int) : ∀ k, (boU a b ta tb k).length ≤ (a ++ b).length ∧ (boU a b ta tb k).length ≤ k
  | 0 => by rw [boU_zero]; simp
  | k + 1 => by
    have ih := boU_len a b ta tb k
    rcases Nat.lt_or_ge k (a ++ b).length with h | h
    · rw [boU_step h]
      have := put_len (boU a b ta tb k) (joC a b ta tb ((a ++ b)[k]?.getD default))
      omega
    · rw [boU_end (k := k + 1) (by omega), ← boU_end h]; omega
theorem tagC (l : List Con) : ∀ k, k < l.length → ∀ j, j < 2 → tagT (cellsOf' encC l k j) = true := fun k _ j hj => by
  match j, hj with
  | 0, _ => rfl
  | 1, _ => rfl
noncomputable def mpC (b1 b2 : Bool) (l : List Con) (to : List Int) : Ctr Tryd.prog := ⟨22, [encCs b1 l, encUs b2 to], [], .need (to.length ≤ 9223372036854775806 ∧ l.length * 24 ≤ 140737488355200 ∧ wfC l) (conR (mapU l to l.length)), T.Sat.need fun h => mp_c b1 b2 l to h.1 h.2.1 h.2.2⟩
noncomputable def mrC (b1 b2 : Bool) (l : List Con) (to : List Int) : Ctr Tryd.prog := ⟨45, [encCs b1 l, encUs b2 to], [], .need (to.length ≤ 9223372036854775806 ∧ l.length * 24 ≤ 140737488355200 ∧ wfC l) (conR (mapU l to l.length)), T.Sat.need fun h => mr_c b1 b2 l to h.1 h.2.1 h.2.2⟩
end Go.Proofs.YtckklclehofddaaDoor

/-! Producers: data, tables. -/
namespace Go.Proofs.YtckklclehofddaaDoor.P
open Go.Ax
set_option maxRecDepth 1000000
structure Producer where
  id : Int
  seq : Int
  here : Bool
  offset : Int
instance : Inhabited Producer := ⟨⟨0, 0, false, 0⟩⟩
def encP (x : Producer) : List AV := [.y (.int .u64 x.id), .y (.int .u64 x.seq), .y (.bool x.here), .y (.int .u64 x.offset)]
def encPs (b : Bool) (l : List Producer) : AV := .ys b 4 l.length (cellsOf' encP l)
theorem Tryd.mixed : Tryd.prog.follows .mixedOrders = true := by kernel_rfl
def most : Int := 9223372036854775807
def okP (l : List Producer) (k : Nat) : Bool :=
  let x := l.getD k default
  !(x.id == 0 || !(decide (1 ≤ x.seq) && decide (x.seq ≤ 9223372036854775807)) || !x.here && x.offset != 0 || decide (0 < k) && decide (x.id ≤ (l.getD (k - 1) default).id))
def okFrom (l : List Producer) (k : Nat) : Bool := (List.range' k (l.length - k)).all (okP l)
def isTable (l : List Producer) : Bool := okFrom l 0 && decide (l.length ≤ 256)
theorem okFrom_end {l : List Producer} {k : Nat} (h : l.length ≤ k) : okFrom l k = true := by
  unfold okFrom
  rw [show l.length - k = 0 by omega]; rfl
theorem okFrom_step {l : List Producer} {k : Nat} (h : k < l.length) : okFrom l k = (okP l k && okFrom l (k + 1)) := by
  unfold okFrom
  rw [show l.length - k = (l.length - (k + 1)) + 1 by omega, List.range'_succ]; rfl
def tabT (b : Bool) (l : List Producer) (k : Nat) : List AV := mkT 50 [(0, encPs b l), (2, .s (.bool false)), (5, encPs b l), (6, .y (.int .i64 l.length)), (7, .y (.int .i64 k))]
def tabS (b : Bool) (l : List Producer) (r : Bool) : Exit × List AV × List Blk := match r with
  | true => (.exit 0, mkT 50 [(0, encPs b l), (2, .s (.bool false))], [])
  | false => (.ret, mkT 50 [(2, .s (.bool false))], [])
def tabO (l : List Producer) (k : Nat) : T Bool := .ite (okFrom l k) (.ret true) (.ret false)
def vcTableL (b : Bool) (l : List Producer) (k : Nat) : Prop :=
  (decide ((↑k : Int) < (↑(List.length l) : Int)) = true → (true && decide ((↑k : Int) < (↑(List.length l) : Int))) = true ∧ (((List.getD l (Int.toNat (↑k : Int)) (@default Producer instInhabitedProducer)).id == (0 : Int)) = true → (okFrom l k = true → False) ∧ (okFrom l k = false → (false = false ∧ True) ∧ True ∧ true = true)) ∧ (((List.getD l (Int.toNat (↑k : Int)) (@default Producer instInhabitedProducer)).id == (0 : Int)) = false → (decide ((1 : Int) ≤ (List.getD l (Int.toNat (↑k : Int)) (@default Producer instInhabitedProducer)).seq) = true → ((!decide ((List.getD l (Int.toNat (↑k : Int)) (@default Producer instInhabitedProducer)).seq ≤ (9223372036854775807 : Int))) = true → (okFrom l k = true → False) ∧ (okFrom l k = false → (false = false ∧ True) ∧ True ∧ true = true)) ∧ ((!decide ((List.getD l (Int.toNat (↑k : Int)) (@default Producer instInhabitedProducer)).seq ≤ (9223372036854775807 : Int))) = false → ((!(List.getD l (Int.toNat (↑k : Int)) (@default Producer instInhabitedProducer)).here) = true → (((List.getD l (Int.toNat (↑k : Int)) (@default Producer instInhabitedProducer)).offset != (0 : Int)) = true → (okFrom l k = true → False) ∧ (okFrom l k = false → (false = false ∧ True) ∧ True ∧ true = true)) ∧ (((List.getD l (Int.toNat (↑k : Int)) (@default Producer instInhabitedProducer)).offset != (0 : Int)) = false → (decide ((0 : Int) < (↑k : Int)) = true → (decide ((0 : Int) ≤ IntKind.wrap IntKind.i64 ((↑k : Int) - (1 : Int))) && decide (IntKind.wrap IntKind.i64 ((↑k : Int) - (1 : Int)) < (↑(List.length l) : Int))) = true ∧ (decide ((List.getD l (Int.toNat (↑k : Int)) (@default Producer instInhabitedProducer)).id ≤ (List.getD l (Int.toNat (IntKind.wrap IntKind.i64 ((↑k : Int) - (1 : Int)))) (@default Producer instInhabitedProducer)).id) = true → (okFrom l k = true → False) ∧ (okFrom l k = false → (false = false ∧ True) ∧ True ∧ true = true)) ∧ (decide ((List.getD l (Int.toNat (↑k : Int)) (@default Producer instInhabitedProducer)).id ≤ (List.getD l (Int.toNat (IntKind.wrap IntKind.i64 ((↑k : Int) - (1 : Int)))) (@default Producer instInhabitedProducer)).id) = false → ∃ (j : Nat), List.length l - j < List.length l - k ∧ (((b = b ∧ List.length l = List.length l ∧ contLe (List.length l) (4 : Nat) (cellsOf' encP l) (cellsOf' encP l)) ∧ false = false ∧ (b = b ∧ List.length l = List.length l ∧ contLe (List.length l) (4 : Nat) (cellsOf' encP l) (cellsOf' encP l)) ∧ (↑(List.length l) : Int) = (↑(List.length l) : Int) ∧ IntKind.wrap IntKind.i64 ((↑k : Int) + (1 : Int)) = (↑j : Int) ∧ True) ∧ True ∧ true = true) ∧ true = true ∧ (okFrom l j = true → (okFrom l k = true → true = true) ∧ (okFrom l k = false → true = false)) ∧ (okFrom l j = false → (okFrom l k = true → false = true) ∧ (okFrom l k = false → false = false)))) ∧ (decide ((0 : Int) < (↑k : Int)) = false → ∃ (j : Nat), List.length l - j < List.length l - k ∧ (((b = b ∧ List.length l = List.length l ∧ contLe (List.length l) (4 : Nat) (cellsOf' encP l) (cellsOf' encP l)) ∧ false = false ∧ (b = b ∧ List.length l = List.length l ∧ contLe (List.length l) (4 : Nat) (cellsOf' encP l) (cellsOf' encP l)) ∧ (↑(List.length l) : Int) = (↑(List.length l) : Int) ∧ IntKind.wrap IntKind.i64 ((↑k : Int) + (1 : Int)) = (↑j : Int) ∧ True) ∧ True ∧ true = true) ∧ true = true ∧ (okFrom l j = true → (okFrom l k = true → true = true) ∧ (okFrom l k = false → true = false)) ∧ (okFrom l j = false → (okFrom l k = true → false = true) ∧ (okFrom l k = false → false = false))))) ∧ ((!(List.getD l (Int.toNat (↑k : Int)) (@default Producer instInhabitedProducer)).here) = false → (decide ((0 : Int) < (↑k : Int)) = true → (decide ((0 : Int) ≤ IntKind.wrap IntKind.i64 ((↑k : Int) - (1 : Int))) && decide (IntKind.wrap IntKind.i64 ((↑k : Int) - (1 : Int)) < (↑(List.length l) : Int))) = true ∧ (decide ((List.getD l (Int.toNat (↑k : Int)) (@default Producer instInhabitedProducer)).id ≤ (List.getD l (Int.toNat (IntKind.wrap IntKind.i64 ((↑k : Int) - (1 : Int)))) (@default Producer instInhabitedProducer)).id) = true → (okFrom l k = true → False) ∧ (okFrom l k = false → (false = false ∧ True) ∧ True ∧ true = true)) ∧ (decide ((List.getD l (Int.toNat (↑k : Int)) (@default Producer instInhabitedProducer)).id ≤ (List.getD l (Int.toNat (IntKind.wrap IntKind.i64 ((↑k : Int) - (1 : Int)))) (@default Producer instInhabitedProducer)).id) = false → ∃ (j : Nat), List.length l - j < List.length l - k ∧ (((b = b ∧ List.length l = List.length l ∧ contLe (List.length l) (4 : Nat) (cellsOf' encP l) (cellsOf' encP l)) ∧ false = false ∧ (b = b ∧ List.length l = List.length l ∧ contLe (List.length l) (4 : Nat) (cellsOf' encP l) (cellsOf' encP l)) ∧ (↑(List.length l) : Int) = (↑(List.length l) : Int) ∧ IntKind.wrap IntKind.i64 ((↑k : Int) + (1 : Int)) = (↑j : Int) ∧ True) ∧ True ∧ true = true) ∧ true = true ∧ (okFrom l j = true → (okFrom l k = true → true = true) ∧ (okFrom l k = false → true = false)) ∧ (okFrom l j = false → (okFrom l k = true → false = true) ∧ (okFrom l k = false → false = false)))) ∧ (decide ((0 : Int) < (↑k : Int)) = false → ∃ (j : Nat), List.length l - j < List.length l - k ∧ (((b = b ∧ List.length l = List.length l ∧ contLe (List.length l) (4 : Nat) (cellsOf' encP l) (cellsOf' encP l)) ∧ false = false ∧ (b = b ∧ List.length l = List.length l ∧ contLe (List.length l) (4 : Nat) (cellsOf' encP l) (cellsOf' encP l)) ∧ (↑(List.length l) : Int) = (↑(List.length l) : Int) ∧ IntKind.wrap IntKind.i64 ((↑k : Int) + (1 : Int)) = (↑j : Int) ∧ True) ∧ True ∧ true = true) ∧ true = true ∧ (okFrom l j = true → (okFrom l k = true → true = true) ∧ (okFrom l k = false → true = false)) ∧ (okFrom l j = false → (okFrom l k = true → false = true) ∧ (okFrom l k = false → false = false)))))) ∧ (decide ((1 : Int) ≤ (List.getD l (Int.toNat (↑k : Int)) (@default Producer instInhabitedProducer)).seq) = false → (okFrom l k = true → False) ∧ (okFrom l k = false → (false = false ∧ True) ∧ True ∧ true = true)))) ∧ (decide ((↑k : Int) < (↑(List.length l) : Int)) = false → (okFrom l k = true → ((b = b ∧ List.length l = List.length l ∧ contLe (List.length l) (4 : Nat) (cellsOf' encP l) (cellsOf' encP l)) ∧ false = false ∧ True) ∧ True ∧ true = true) ∧ (okFrom l k = false → False))
set_option maxRecDepth 1000000 in
theorem vcTableL_eq (b : Bool) (l : List Producer) (k : Nat) : (loopVC Tryd.prog (hT _) 48 2 (fun k => l.length - k) (tabT b l) (fun _ => []) [0] (tabO l) (tabS b l) k) = vcTableL b l k := by kernel_rfl
theorem table_loop (b : Bool) (l : List Producer) (hl : l.length ≤ 9223372036854775806) (k : Nat) : LoopOk Tryd.prog 48 2 (loopAt Tryd.prog 48 2) ⟨tabT b l k, [], []⟩ ((tabO l k).map (lout [0] (tabS b l))) := by
  refine loop_vc Tryd.mixed (fun _ => rfl) (fun k => (vcTableL_eq b l k).mpr ?_) k
  unfold vcTableL
  simp
  refine ⟨fun h => ?_, fun h => by simp [okFrom_end h]⟩
  rw [okFrom_step h]
  simp (disch := omega) only [wrap_i64]
  simp [okP, cast_succ_eq]
  grind
noncomputable def tabH (b : Bool) (l : List Producer) : HintsT Tryd.prog := hh _ (lp1 48 2 (jobOf (tabT b l) (fun _ => []) [0] (tabO l) (tabS b l) 0) noLp) noCs noOp
def tabR (l : List Producer) : T An := .ret (.y (.bool (isTable l)), [], [])
def vcTable (b : Bool) (l : List Producer) : Prop :=
  (((b = b ∧ List.length l = List.length l ∧ contLe (List.length l) (4 : Nat) (cellsOf' encP l) (cellsOf' encP l)) ∧ false = false ∧ (b = b ∧ List.length l = List.length l ∧ contLe (List.length l) (4 : Nat) (cellsOf' encP l) (cellsOf' encP l)) ∧ (↑(List.length l) : Int) = (↑(List.length l) : Int) ∧ (0 : Int) = (0 : Int) ∧ True) ∧ True ∧ true = true) ∧ LoopOk Tryd.prog (48 : Nat) (2 : Nat) (loopAt Tryd.prog (48 : Nat) (2 : Nat)) { t := tabT b l (0 : Nat), m := [], mv := [] : St } (T.map (lout [(0 : Nat)] (tabS b l)) (tabO l (0 : Nat))) ∧ (okFrom l (0 : Nat) = true → decide ((↑(List.length l) : Int) ≤ (256 : Int)) = isTable l ∧ True) ∧ (okFrom l (0 : Nat) = false → false = isTable l ∧ True)
set_option maxRecDepth 1000000 in
theorem vcTable_eq (b : Bool) (l : List Producer) : (ctrVC Tryd.prog (tabH b l) 48 [encPs b l] [] (tabR l)) = vcTable b l := by kernel_rfl
theorem table_c (b : Bool) (l : List Producer) (hl : l.length ≤ 9223372036854775806) : (tabR l).Sat (ACall' Tryd.prog 48 [encPs b l] []) := by
  refine ctr_vc (ht := (tabH b l)) Tryd.mixed rfl ?_
  rw [vcTable_eq b l]
  unfold vcTable
  have := table_loop b l hl 0
  simp [isTable, this]
  grind
/-! the document's -/
def tabT2 (b : Bool) (l : List Producer) (k : Nat) : List AV := mkT 69 [(0, encPs b l), (2, .s (.bool false)), (3, .y (.int .i64 k))]
def tabS2 (b : Bool) (l : List Producer) (r : Bool) : Exit × List AV × List Blk := match r with
  | true => (.exit 0, mkT 69 [(0, encPs b l)], [])
  | false => (.ret, mkT 69 [(2, .s (.bool false))], [])
def vcTableL2 (b : Bool) (l : List Producer) (k : Nat) : Prop :=
  (decide ((↑k : Int) < (↑(List.length l) : Int)) = true → (true && decide ((↑k : Int) < (↑(List.length l) : Int))) = true ∧ (((List.getD l (Int.toNat (↑k : Int)) (@default Producer instInhabitedProducer)).id == (0 : Int)) = true → (okFrom l k = true → False) ∧ (okFrom l k = false → (false = false ∧ True) ∧ True ∧ true = true)) ∧ (((List.getD l (Int.toNat (↑k : Int)) (@default Producer instInhabitedProducer)).id == (0 : Int)) = false → (true && decide ((↑k : Int) < (↑(List.length l) : Int))) = true ∧ (decide ((List.getD l (Int.toNat (↑k : Int)) (@default Producer instInhabitedProducer)).seq < (1 : Int)) = true → (okFrom l k = true → False) ∧ (okFrom l k = false → (false = false ∧ True) ∧ True ∧ true = true)) ∧ (decide ((List.getD l (Int.toNat (↑k : Int)) (@default Producer instInhabitedProducer)).seq < (1 : Int)) = false → (true && decide ((↑k : Int) < (↑(List.length l) : Int))) = true ∧ (decide ((9223372036854775807 : Int) < (List.getD l (Int.toNat (↑k : Int)) (@default Producer instInhabitedProducer)).seq) = true → (okFrom l k = true → False) ∧ (okFrom l k = false → (false = false ∧ True) ∧ True ∧ true = true)) ∧ (decide ((9223372036854775807 : Int) < (List.getD l (Int.toNat (↑k : Int)) (@default Producer instInhabitedProducer)).seq) = false → (true && decide ((↑k : Int) < (↑(List.length l) : Int))) = true ∧ ((!(List.getD l (Int.toNat (↑k : Int)) (@default Producer instInhabitedProducer)).here) = true → (true && decide ((↑k : Int) < (↑(List.length l) : Int))) = true ∧ (((List.getD l (Int.toNat (↑k : Int)) (@default Producer instInhabitedProducer)).offset != (0 : Int)) = true → (okFrom l k = true → False) ∧ (okFrom l k = false → (false = false ∧ True) ∧ True ∧ true = true)) ∧ (((List.getD l (Int.toNat (↑k : Int)) (@default Producer instInhabitedProducer)).offset != (0 : Int)) = false → (decide ((0 : Int) < (↑k : Int)) = true → (decide ((0 : Int) ≤ IntKind.wrap IntKind.i64 ((↑k : Int) - (1 : Int))) && decide (IntKind.wrap IntKind.i64 ((↑k : Int) - (1 : Int)) < (↑(List.length l) : Int))) = true ∧ (true && decide ((↑k : Int) < (↑(List.length l) : Int))) = true ∧ (decide ((List.getD l (Int.toNat (↑k : Int)) (@default Producer instInhabitedProducer)).id ≤ (List.getD l (Int.toNat (IntKind.wrap IntKind.i64 ((↑k : Int) - (1 : Int)))) (@default Producer instInhabitedProducer)).id) = true → (okFrom l k = true → False) ∧ (okFrom l k = false → (false = false ∧ True) ∧ True ∧ true = true)) ∧ (decide ((List.getD l (Int.toNat (↑k : Int)) (@default Producer instInhabitedProducer)).id ≤ (List.getD l (Int.toNat (IntKind.wrap IntKind.i64 ((↑k : Int) - (1 : Int)))) (@default Producer instInhabitedProducer)).id) = false → ∃ (j : Nat), List.length l - j < List.length l - k ∧ (((b = b ∧ List.length l = List.length l ∧ contLe (List.length l) (4 : Nat) (cellsOf' encP l) (cellsOf' encP l)) ∧ false = false ∧ IntKind.wrap IntKind.i64 ((↑k : Int) + (1 : Int)) = (↑j : Int) ∧ True) ∧ True ∧ true = true) ∧ true = true ∧ (okFrom l j = true → (okFrom l k = true → true = true) ∧ (okFrom l k = false → true = false)) ∧ (okFrom l j = false → (okFrom l k = true → false = true) ∧ (okFrom l k = false → false = false)))) ∧ (decide ((0 : Int) < (↑k : Int)) = false → ∃ (j : Nat), List.length l - j < List.length l - k ∧ (((b = b ∧ List.length l = List.length l ∧ contLe (List.length l) (4 : Nat) (cellsOf' encP l) (cellsOf' encP l)) ∧ false = false ∧ IntKind.wrap IntKind.i64 ((↑k : Int) + (1 : Int)) = (↑j : Int) ∧ True) ∧ True ∧ true = true) ∧ true = true ∧ (okFrom l j = true → (okFrom l k = true → true = true) ∧ (okFrom l k = false → true = false)) ∧ (okFrom l j = false → (okFrom l k = true → false = true) ∧ (okFrom l k = false → false = false))))) ∧ ((!(List.getD l (Int.toNat (↑k : Int)) (@default Producer instInhabitedProducer)).here) = false → (decide ((0 : Int) < (↑k : Int)) = true → (decide ((0 : Int) ≤ IntKind.wrap IntKind.i64 ((↑k : Int) - (1 : Int))) && decide (IntKind.wrap IntKind.i64 ((↑k : Int) - (1 : Int)) < (↑(List.length l) : Int))) = true ∧ (true && decide ((↑k : Int) < (↑(List.length l) : Int))) = true ∧ (decide ((List.getD l (Int.toNat (↑k : Int)) (@default Producer instInhabitedProducer)).id ≤ (List.getD l (Int.toNat (IntKind.wrap IntKind.i64 ((↑k : Int) - (1 : Int)))) (@default Producer instInhabitedProducer)).id) = true → (okFrom l k = true → False) ∧ (okFrom l k = false → (false = false ∧ True) ∧ True ∧ true = true)) ∧ (decide ((List.getD l (Int.toNat (↑k : Int)) (@default Producer instInhabitedProducer)).id ≤ (List.getD l (Int.toNat (IntKind.wrap IntKind.i64 ((↑k : Int) - (1 : Int)))) (@default Producer instInhabitedProducer)).id) = false → ∃ (j : Nat), List.length l - j < List.length l - k ∧ (((b = b ∧ List.length l = List.length l ∧ contLe (List.length l) (4 : Nat) (cellsOf' encP l) (cellsOf' encP l)) ∧ false = false ∧ IntKind.wrap IntKind.i64 ((↑k : Int) + (1 : Int)) = (↑j : Int) ∧ True) ∧ True ∧ true = true) ∧ true = true ∧ (okFrom l j = true → (okFrom l k = true → true = true) ∧ (okFrom l k = false → true = false)) ∧ (okFrom l j = false → (okFrom l k = true → false = true) ∧ (okFrom l k = false → false = false)))) ∧ (decide ((0 : Int) < (↑k : Int)) = false → ∃ (j : Nat), List.length l - j < List.length l - k ∧ (((b = b ∧ List.length l = List.length l ∧ contLe (List.length l) (4 : Nat) (cellsOf' encP l) (cellsOf' encP l)) ∧ false = false ∧ IntKind.wrap IntKind.i64 ((↑k : Int) + (1 : Int)) = (↑j : Int) ∧ True) ∧ True ∧ true = true) ∧ true = true ∧ (okFrom l j = true → (okFrom l k = true → true = true) ∧ (okFrom l k = false → true = false)) ∧ (okFrom l j = false → (okFrom l k = true → false = true) ∧ (okFrom l k = false → false = false)))))))) ∧ (decide ((↑k : Int) < (↑(List.length l) : Int)) = false → (okFrom l k = true → ((b = b ∧ List.length l = List.length l ∧ contLe (List.length l) (4 : Nat) (cellsOf' encP l) (cellsOf' encP l)) ∧ True) ∧ True ∧ true = true) ∧ (okFrom l k = false → False))
set_option maxRecDepth 1000000 in
theorem vcTableL2_eq (b : Bool) (l : List Producer) (k : Nat) : (loopVC Tryd.prog (hT _) 38 4 (fun k => l.length - k) (tabT2 b l) (fun _ => []) [0] (tabO l) (tabS2 b l) k) = vcTableL2 b l k := by kernel_rfl
theorem table_loop2 (b : Bool) (l : List Producer) (hl : l.length ≤ 9223372036854775806) (k : Nat) : LoopOk Tryd.prog 38 4 (loopAt Tryd.prog 38 4) ⟨tabT2 b l k, [], []⟩ ((tabO l k).map (lout [0] (tabS2 b l))) := by
  refine loop_vc Tryd.mixed (fun _ => rfl) (fun k => (vcTableL2_eq b l k).mpr ?_) k
  unfold vcTableL2
  simp
  refine ⟨fun h => ?_, fun h => by simp [okFrom_end h]⟩
  rw [okFrom_step h]
  simp (disch := omega) only [wrap_i64]
  simp [okP, cast_succ_eq]
  grind
noncomputable def tabH2 (b : Bool) (l : List Producer) : HintsT Tryd.prog := hh _ (lp1 38 4 (jobOf (tabT2 b l) (fun _ => []) [0] (tabO l) (tabS2 b l) 0) noLp) noCs noOp
def vcTable2 (b : Bool) (l : List Producer) : Prop :=
  (decide ((256 : Int) < (↑(List.length l) : Int)) = true → false = isTable l ∧ True) ∧ (decide ((256 : Int) < (↑(List.length l) : Int)) = false → (((b = b ∧ List.length l = List.length l ∧ contLe (List.length l) (4 : Nat) (cellsOf' encP l) (cellsOf' encP l)) ∧ false = false ∧ (0 : Int) = (0 : Int) ∧ True) ∧ True ∧ true = true) ∧ LoopOk Tryd.prog (38 : Nat) (4 : Nat) (loopAt Tryd.prog (38 : Nat) (4 : Nat)) { t := tabT2 b l (0 : Nat), m := [], mv := [] : St } (T.map (lout [(0 : Nat)] (tabS2 b l)) (tabO l (0 : Nat))) ∧ (okFrom l (0 : Nat) = true → true = isTable l ∧ True) ∧ (okFrom l (0 : Nat) = false → false = isTable l ∧ True))
set_option maxRecDepth 1000000 in
theorem vcTable2_eq (b : Bool) (l : List Producer) : (ctrVC Tryd.prog (tabH2 b l) 38 [encPs b l] [] (tabR l)) = vcTable2 b l := by kernel_rfl
theorem table2_c (b : Bool) (l : List Producer) (hl : l.length ≤ 9223372036854775806) : (tabR l).Sat (ACall' Tryd.prog 38 [encPs b l] []) := by
  refine ctr_vc (ht := (tabH2 b l)) Tryd.mixed rfl ?_
  rw [vcTable2_eq b l]
  unfold vcTable2
  have := table_loop2 b l hl 0
  simp [isTable, this]
  refine ⟨fun h _ => by omega, fun h => ⟨fun h2 => ⟨h2, by omega⟩, fun h2 h3 => by simp [h2] at h3⟩⟩
noncomputable def tabC (b : Bool) (l : List Producer) (hl : l.length ≤ 9223372036854775806) : Ctr Tryd.prog := ⟨48, [encPs b l], [], tabR l, table_c b l hl⟩
noncomputable def tabC2 (b : Bool) (l : List Producer) (hl : l.length ≤ 9223372036854775806) : Ctr Tryd.prog := ⟨38, [encPs b l], [], tabR l, table2_c b l hl⟩
end Go.Proofs.YtckklclehofddaaDoor.P

/-! Producers: what is found, what is said of a number. -/
namespace Go.Proofs.YtckklclehofddaaDoor.P
open Go.Ax
set_option maxRecDepth 1000000
def has (id : Int) (x : Producer) : Bool := x.id == id
def findD (l : List Producer) (id : Int) : Producer := (l.find? (has id)).getD default
def findI (l : List Producer) (id : Int) : Bool := (l.find? (has id)).isSome
theorem findI_cons (x : Producer) (r : List Producer) (id : Int) : findI (x :: r) id = (x.id == id || findI r id) := by
  simp only [findI, List.find?_cons, has]
  cases h : x.id == id <;> simp
theorem findD_cons (x : Producer) (r : List Producer) (id : Int) : findD (x :: r) id = if x.id = id then x else findD r id := by
  simp only [findD, List.find?_cons, has]
  by_cases h : x.id = id
  · simp [h]
  · have h' : (x.id == id) = false := by simpa using h
    simp [h, h']
theorem idx_cons (x : Producer) (r : List Producer) (id : Int) : (x :: r).findIdx (has id) = if x.id = id then 0 else r.findIdx (has id) + 1 := by
  simp only [List.findIdx_cons, has]
  by_cases h : x.id = id
  · simp [h]
  · have h' : (x.id == id) = false := by simpa using h
    simp [h, h']
def zeroP : List AV := [.s (.int .u64 0), .s (.int .u64 0), .s (.bool false), .s (.int .u64 0)]
def fstM : List Blk := [.box 46 zeroP]
def fstS (r : Bool × Producer) : Exit × List AV × List Blk := match r.1 with
  | true => (.ret, mkT 21 [(4, .ptr 0 0 0 0), (5, .s (.bool true))], [.box 46 (encP r.2)])
  | false => (.exit 0, mkT 21 [(4, .ptr 0 0 0 0), (5, .s (.bool false))], fstM)
def fstO (id : Int) (l : List Producer) (k : Nat) : T (Bool × Producer) := .ite (findI (l.drop k) id) (.ret (true, findD (l.drop k) id)) (.ret (false, default))
def findR (l : List Producer) (id : Int) : T An := .ret (.tup [.agg (encP (findD l id)), .y (.bool (findI l id))], [], [])
def badN (id seq : Int) : Bool := id == 0 || !(decide (1 ≤ seq) && decide (seq ≤ 9223372036854775807))
def judgeV (l : List Producer) (id seq : Int) : Int :=
  if badN id seq then 4 else if !findI l id || decide ((findD l id).seq < seq) then 1 else if seq == (findD l id).seq && (findD l id).here then 2 else 3
def judgeO (l : List Producer) (id seq : Int) : Int :=
  if badN id seq then 0 else if !findI l id || decide ((findD l id).seq < seq) then 0 else if seq == (findD l id).seq && (findD l id).here then (findD l id).offset else 0
def judgeR (l : List Producer) (id seq : Int) : T An := .ret (.tup [.y (.int .i64 (judgeV l id seq)), .y (.int .u64 (judgeO l id seq))], [], [])
/-! the document's -/
def idxT (b : Bool) (id : Int) (l : List Producer) (k : Nat) : List AV := mkT 20 [(0, encPs b l), (1, .y (.int .u64 id)), (4, .s (.int .i64 0)), (5, .y (.int .i64 k))]
def idxS (r : Bool × Nat) : Exit × List AV × List Blk := match r.1 with
  | true => (.ret, mkT 20 [(4, .y (.int .i64 r.2))], [])
  | false => (.exit 0, mkT 20 [], [])
def idxO (id : Int) (l : List Producer) (k : Nat) : T (Bool × Nat) := .ite (findI (l.drop k) id) (.ret (true, k + (l.drop k).findIdx (has id))) (.ret (false, 0))
def idxZ (l : List Producer) (id : Int) : Int := if findI l id then (l.findIdx (has id) : Nat) else -1
def idxR (l : List Producer) (id : Int) : T An := .ret (.y (.int .i64 (idxZ l id)), [], [])
theorem idx_lt {l : List Producer} {id : Int} (h : findI l id = true) : l.findIdx (has id) < l.length := by
  rw [List.findIdx_lt_length]
  simpa [findI, List.find?_isSome] using h
theorem idx_at {l : List Producer} {id : Int} (h : findI l id = true) : l[l.findIdx (has id)]?.getD default = findD l id := by
  have hlt := idx_lt h
  unfold findD
  rw [List.getElem?_eq_getElem hlt]
  simp [List.find?_eq_getElem?_findIdx, hlt]
end Go.Proofs.YtckklclehofddaaDoor.P

/-! Producers: slices.Clone, IndexFunc, DeleteFunc at their type. -/
namespace Go.Proofs.YtckklclehofddaaDoor.P
open Go.Ax
set_option maxRecDepth 1000000
def clnR (l : List Producer) : T An := .ret (.own 0 4 0 l.length, [.row 46 4 l.length none (cellsOf' encP l)], [])
def ixS (r : Bool × Nat) : Exit × List AV × List Blk := match r.1 with
  | true => (.ret, mkT 19 [(4, .y (.int .i64 r.2))], [])
  | false => (.exit 0, mkT 19 [], [])
end Go.Proofs.YtckklclehofddaaDoor.P

/-! Producers: slices.DeleteFunc at their type. -/
namespace Go.Proofs.YtckklclehofddaaDoor.P
open Go.Ax
set_option maxRecDepth 1000000
def keep (x : Producer) (y : Producer) : Bool := !(y.id == x.id)
def oth (l : List Producer) (x : Producer) : List Producer := l.filter (keep x)
structure DS (l : List Producer) (x : Producer) where
  i : Nat
  j : Nat
  L : List Producer
  len : L.length = l.length
  ij : i ≤ j
  jl : j ≤ l.length
  pre : L.take i = (l.take j).filter (keep x)
  suf : L.drop j = l.drop j
theorem DS.at {l : List Producer} {x : Producer} (q : DS l x) : q.L[q.j]? = l[q.j]? := by
  have := congrArg (fun r : List Producer => r[0]?) q.suf
  simpa [List.getElem?_drop] using this
theorem take_snoc (l : List Producer) (j : Nat) (h : j < l.length) : l.take (j + 1) = l.take j ++ [l[j]?.getD default] := by
  rw [List.take_succ_eq_append_getElem h]; simp [h]
def DS.put {l : List Producer} {x : Producer} (q : DS l x) (h : q.j < l.length) (hk : ¬ (l[q.j]?.getD default).id = x.id) : DS l x where
  i := q.i + 1
  j := q.j + 1
  L := q.L.set q.i (l[q.j]?.getD default)
  len := by simp [q.len]
  ij := by have := q.ij; omega
  jl := by omega
  pre := by
    have h1 := q.ij
    have h2 := q.len
    have h3 : q.i < q.L.length := by omega
    have hk' : keep x (l[q.j]?.getD default) = true := by unfold keep; simpa using hk
    rw [take_snoc l q.j h, List.filter_append, ← q.pre, List.take_succ_eq_append_getElem (by simpa using h3), List.filter_cons_of_pos hk', List.filter_nil]
    simp [List.take_set_of_le]
  suf := by
    have h1 := q.ij
    have h2 := congrArg (fun r : List Producer => r.drop 1) q.suf
    simp only [List.drop_drop] at h2
    rw [List.drop_set_of_lt (by omega)]
    exact h2
def DS.skip {l : List Producer} {x : Producer} (q : DS l x) (h : q.j < l.length) (hk : (l[q.j]?.getD default).id = x.id) : DS l x where
  i := q.i
  j := q.j + 1
  L := q.L
  len := q.len
  ij := by have := q.ij; omega
  jl := by omega
  pre := by
    have hk' : ¬ keep x (l[q.j]?.getD default) = true := by unfold keep; simpa using hk
    rw [take_snoc l q.j h, List.filter_append, ← q.pre, List.filter_cons_of_neg hk', List.filter_nil, List.append_nil]
  suf := by
    have h2 := congrArg (fun r : List Producer => r.drop 1) q.suf
    simpa only [List.drop_drop] using h2
def delM (l : List Producer) (x : Producer) (q : DS l x) : List Blk := [.box 46 (encP x), .row 46 4 l.length none (cellsOf' encP q.L)]
def delS (l : List Producer) (x : Producer) (_ : Unit) : Exit × List AV × List Blk := (.exit 0, mkT 42 [(0, .own 1 4 0 l.length), (5, .y (.int .i64 (oth l x).length))], [.box 46 (encP x), .row 46 4 l.length none (cutRow (oth l x).length (cellsOf' encP (oth l x)))])
theorem oth_none {l : List Producer} {x : Producer} (h : findI l x.id = false) : oth l x = l := by
  unfold oth
  rw [List.filter_eq_self]
  intro a ha
  have : has x.id a = false := by
    have h2 : l.find? (has x.id) = none := by simpa [findI] using h
    exact Bool.eq_false_iff.2 (List.find?_eq_none.1 h2 a ha)
  simpa [keep, has] using this
def DS.start (l : List Producer) (x : Producer) (h : findI l x.id = true) : DS l x where
  i := l.findIdx (has x.id)
  j := l.findIdx (has x.id) + 1
  L := l
  len := rfl
  ij := by omega
  jl := idx_lt h
  pre := by
    have hlt := idx_lt h
    rw [take_snoc l _ hlt, List.filter_append, idx_at h]
    have h1 : has x.id (findD l x.id) = true := by
      rw [← idx_at h]
      have := List.findIdx_getElem (w := hlt)
      simpa [hlt] using this
    have h2 : [findD l x.id].filter (keep x) = [] := by
      simp [keep]; simpa [has] using h1
    rw [h2, List.append_nil]
    symm
    rw [List.filter_eq_self]
    intro a ha
    obtain ⟨k, hk, rfl⟩ := List.mem_iff_getElem.1 ha
    simp only [List.length_take] at hk
    have h3 := List.not_of_lt_findIdx (p := has x.id) (xs := l) (i := k) (by omega)
    rw [List.getElem_take]
    simpa [keep, has] using h3
  suf := rfl
def delR (l : List Producer) (x : Producer) : T An := .ret (.own 1 4 0 (oth l x).length, [.box 46 (encP x), .row 46 4 (oth l x).length none (cellsOf' encP (oth l x))], [1, 2, 3, 4])
def delMs (l : List Producer) (x : Producer) : List Blk := [.box 46 (encP x), .row 46 4 l.length none (cellsOf' encP l)]
end Go.Proofs.YtckklclehofddaaDoor.P

/-! Producers: slices.BinarySearchFunc at their type; put. -/
namespace Go.Proofs.YtckklclehofddaaDoor.P
open Go.Ax
set_option maxRecDepth 1000000
/-- numbers rise -/
def rising (l : List Producer) : Prop := ∀ i j, i < j → j < l.length → (l.getD i default).id < (l.getD j default).id
def below (l : List Producer) (id : Int) : Nat := (l.takeWhile (fun y => decide (y.id < id))).length
theorem below_eq {l : List Producer} {id : Int} {i : Nat} (h : i ≤ l.length) (lo : ∀ k, k < i → (l.getD k default).id < id) (hi : ∀ k, i ≤ k → k < l.length → id ≤ (l.getD k default).id) : below l id = i := by
  unfold below
  have e : l = l.take i ++ l.drop i := (List.take_append_drop i l).symm
  have h1 : ∀ a ∈ l.take i, decide (a.id < id) = true := by
    intro a ha
    obtain ⟨k, hk, rfl⟩ := List.mem_iff_getElem.1 ha
    simp only [List.length_take] at hk
    have := lo k (by omega)
    have hkl : k < l.length := by omega
    simp [hkl] at this
    simpa using this
  have h2 : (l.drop i).takeWhile (fun y => decide (y.id < id)) = [] := by
    cases hd : l.drop i with
    | nil => rfl
    | cons y r =>
      have hil : i < l.length := by
        have := congrArg List.length hd
        simp at this; omega
      have := hi i (Nat.le_refl _) hil
      rw [List.drop_eq_getElem_cons hil] at hd
      cases hd
      simp [hil] at this
      rw [List.takeWhile_cons_of_neg]
      simpa using this
  rw [e, List.takeWhile_append_of_pos h1, h2, List.append_nil, List.length_take]
  omega
theorem rising_le {l : List Producer} (h : rising l) {i j : Nat} (hij : i ≤ j) (hj : j < l.length) : (l.getD i default).id ≤ (l.getD j default).id := by
  rcases Nat.lt_or_ge i j with h1 | h1
  · exact Int.le_of_lt (h i j h1 hj)
  · obtain rfl : i = j := by omega
    exact Int.le_refl _
structure BS (l : List Producer) (x : Producer) where
  i : Nat
  j : Nat
  ij : i ≤ j
  jl : j ≤ l.length
  lo : ∀ k, k < i → (l.getD k default).id < x.id
  hi : ∀ k, j ≤ k → k < l.length → x.id ≤ (l.getD k default).id
def BS.up {l : List Producer} {x : Producer} (hr : rising l) (q : BS l x) (m : Nat) (h2 : m < q.j) (hx : (l.getD m default).id < x.id) : BS l x where
  i := m + 1
  j := q.j
  ij := by omega
  jl := q.jl
  lo := fun k hk => by
    have := q.jl
    have := rising_le hr (i := k) (j := m) (by omega) (by omega)
    omega
  hi := q.hi
def BS.down {l : List Producer} {x : Producer} (hr : rising l) (q : BS l x) (m : Nat) (h1 : q.i ≤ m) (h2 : m < q.j) (hx : x.id ≤ (l.getD m default).id) : BS l x where
  i := q.i
  j := m
  ij := h1
  jl := by have := q.jl; omega
  lo := q.lo
  hi := fun k hk hl => by
    have := rising_le hr (i := m) (j := k) hk hl
    omega
def bsM (x : Producer) : List Blk := [.box 46 (encP x)]
def BS.start (l : List Producer) (x : Producer) : BS l x := ⟨0, l.length, Nat.zero_le _, Nat.le_refl _, fun _ h => absurd h (Nat.not_lt_zero _), fun k h1 h2 => absurd h2 (by omega)⟩
def bsF (l : List Producer) (x : Producer) : Bool := decide (below l x.id < l.length) && (l.getD (below l x.id) default).id == x.id
def bsR (l : List Producer) (x : Producer) : T An := .ret (.tup [.y (.int .i64 (below l x.id)), .y (.bool (bsF l x))], [], [])
/-! put -/
theorem oth_rising {l : List Producer} (h : rising l) (x : Producer) : rising (oth l x) := by
  have key : ∀ r : List Producer, rising r ↔ r.Pairwise (fun a b => a.id < b.id) := by
    intro r
    rw [List.pairwise_iff_getElem]
    constructor
    · intro h i j hi hj hij
      have := h i j hij hj
      simpa [hi, hj] using this
    · intro h i j hij hj
      have := h i j (by omega) hj hij
      simpa [show i < r.length by omega, hj] using this
  rw [key] at h ⊢
  exact h.filter _
def putL (l : List Producer) (x : Producer) : List Producer := (oth l x).take (below (oth l x) x.id) ++ x :: (oth l x).drop (below (oth l x) x.id)
theorem putL_len (l : List Producer) (x : Producer) : (putL l x).length = (oth l x).length + 1 := by
  unfold putL
  have : below (oth l x) x.id ≤ (oth l x).length := (List.takeWhile_sublist _).length_le
  simp; omega
def putR (l : List Producer) (x : Producer) : T An := .ret (.own 0 4 0 (putL l x).length, [.row 46 4 (putL l x).length none (cellsOf' encP (putL l x))], [])
end Go.Proofs.YtckklclehofddaaDoor.P

/-! Producers: what is taken. -/
namespace Go.Proofs.YtckklclehofddaaDoor.P
open Go.Ax
set_option maxRecDepth 1000000
theorem okFrom_all {l : List Producer} : ∀ (n k : Nat), l.length - k = n → okFrom l k = true → ∀ j, k ≤ j → j < l.length → okP l j = true := by
  intro n
  induction n with
  | zero => intro k hk _ j h1 h2; omega
  | succ n ih =>
    intro k hk h j h1 h2
    rw [okFrom_step (by omega), Bool.and_eq_true] at h
    rcases Nat.lt_or_ge k j with h3 | h3
    · exact ih (k + 1) (by omega) h.2 j (by omega) h2
    · obtain rfl : j = k := by omega
      exact h.1
theorem table_rising {l : List Producer} (h : isTable l = true) : rising l := by
  unfold isTable at h
  rw [Bool.and_eq_true] at h
  have key : ∀ j, 0 < j → j < l.length → (l.getD (j - 1) default).id < (l.getD j default).id := by
    intro j h1 h2
    have := okFrom_all _ 0 rfl h.1 j (Nat.zero_le _) h2
    simp [okP] at this
    rcases this.2 with h3 | h3
    · omega
    · simpa using h3
  have : ∀ d i, i + d + 1 < l.length → (l.getD i default).id < (l.getD (i + d + 1) default).id := by
    intro d
    induction d with
    | zero => intro i hi; exact key (i + 1) (by omega) hi
    | succ d ih => intro i hi; exact Int.lt_trans (ih i (by omega)) (key (i + (d + 1) + 1) (by omega) hi)
  intro i j hij hj
  obtain ⟨d, rfl⟩ : ∃ d, j = i + d + 1 := ⟨j - i - 1, by omega⟩
  exact this d i hj
def takeE (l : List Producer) (x : Producer) : Int :=
  if !isTable l then 1 else if judgeV l x.id x.seq == 4 then 151 else if !(judgeV l x.id x.seq == 1) then 152 else if !findI l x.id && l.length == 256 then 153 else 0
def takeR (l : List Producer) (x : Producer) : T An := .ite (takeE l x == 0)
  (.ret (.tup [.own 0 4 0 (putL l x).length, .s (.int .i64 0)], [.row 46 4 (putL l x).length none (cellsOf' encP (putL l x))], []))
  (.ret (.tup [.s (.slice none 0 0), .y (.int .i64 (takeE l x))], [], []))
def mkP (id seq : Int) (here : Bool) (offset : Int) : Producer := ⟨id, seq, here, offset⟩
end Go.Proofs.YtckklclehofddaaDoor.P

/-! Producers: the document's put, Accept, Pass; alike. -/
namespace Go.Proofs.YtckklclehofddaaDoor.P
open Go.Ax
set_option maxRecDepth 1000000
/-! alike -/
def eqP (x y : Producer) : Bool := x.id == y.id && (x.seq == y.seq && (x.here == y.here && (x.offset == y.offset && true)))
theorem eqP_iff {x y : Producer} : eqP x y = true ↔ x = y := by
  cases x; cases y
  simp [eqP]
def sameFrom (a b : List Producer) (k : Nat) : Bool := (List.range' k (a.length - k)).all fun j => eqP (a.getD j default) (b.getD j default)
def sameP (a b : List Producer) : Bool := a.length == b.length && sameFrom a b 0
theorem sameFrom_end {a b : List Producer} {k : Nat} (h : a.length ≤ k) : sameFrom a b k = true := by
  unfold sameFrom
  rw [show a.length - k = 0 by omega]; rfl
theorem sameFrom_step {a b : List Producer} {k : Nat} (h : k < a.length) : sameFrom a b k = (eqP (a.getD k default) (b.getD k default) && sameFrom a b (k + 1)) := by
  unfold sameFrom
  rw [show a.length - k = (a.length - (k + 1)) + 1 by omega, List.range'_succ]; rfl
theorem sameP_iff {a b : List Producer} : sameP a b = true ↔ a = b := by
  unfold sameP sameFrom
  rw [Bool.and_eq_true, beq_iff_eq, List.all_eq_true]
  constructor
  · rintro ⟨h1, h2⟩
    refine List.ext_getElem h1 fun k h3 h4 => ?_
    have := eqP_iff.1 (h2 k (by simp; omega))
    simpa [h3, h4] using this
  · rintro rfl
    exact ⟨rfl, fun k _ => eqP_iff.2 rfl⟩
def smT (b1 b2 : Bool) (a b : List Producer) (k : Nat) : List AV := mkT 26 [(0, encPs b1 a), (1, encPs b2 b), (4, .s (.bool false)), (5, .y (.int .i64 k))]
def smS (r : Bool) : Exit × List AV × List Blk := match r with
  | true => (.exit 0, mkT 26 [], [])
  | false => (.ret, mkT 26 [(4, .s (.bool false))], [])
def smO (a b : List Producer) (k : Nat) : T Bool := .ite (sameFrom a b k) (.ret true) (.ret false)
def vcSameL (b1 : Bool) (b2 : Bool) (a : List Producer) (b : List Producer) (k : Nat) : Prop :=
  (decide ((↑k : Int) < (↑(List.length a) : Int)) = true → (true && decide ((↑k : Int) < (↑(List.length a) : Int))) = true ∧ (true && decide ((↑k : Int) < (↑(List.length b) : Int))) = true ∧ ((!((List.getD a (Int.toNat (↑k : Int)) (@default Producer instInhabitedProducer)).id == (List.getD b (Int.toNat (↑k : Int)) (@default Producer instInhabitedProducer)).id && ((List.getD a (Int.toNat (↑k : Int)) (@default Producer instInhabitedProducer)).seq == (List.getD b (Int.toNat (↑k : Int)) (@default Producer instInhabitedProducer)).seq && ((List.getD a (Int.toNat (↑k : Int)) (@default Producer instInhabitedProducer)).here == (List.getD b (Int.toNat (↑k : Int)) (@default Producer instInhabitedProducer)).here && ((List.getD a (Int.toNat (↑k : Int)) (@default Producer instInhabitedProducer)).offset == (List.getD b (Int.toNat (↑k : Int)) (@default Producer instInhabitedProducer)).offset && true))))) = true → (sameFrom a b k = true → False) ∧ (sameFrom a b k = false → (false = false ∧ True) ∧ True ∧ true = true)) ∧ ((!((List.getD a (Int.toNat (↑k : Int)) (@default Producer instInhabitedProducer)).id == (List.getD b (Int.toNat (↑k : Int)) (@default Producer instInhabitedProducer)).id && ((List.getD a (Int.toNat (↑k : Int)) (@default Producer instInhabitedProducer)).seq == (List.getD b (Int.toNat (↑k : Int)) (@default Producer instInhabitedProducer)).seq && ((List.getD a (Int.toNat (↑k : Int)) (@default Producer instInhabitedProducer)).here == (List.getD b (Int.toNat (↑k : Int)) (@default Producer instInhabitedProducer)).here && ((List.getD a (Int.toNat (↑k : Int)) (@default Producer instInhabitedProducer)).offset == (List.getD b (Int.toNat (↑k : Int)) (@default Producer instInhabitedProducer)).offset && true))))) = false → ∃ (j : Nat), List.length a - j < List.length a - k ∧ (((b1 = b1 ∧ List.length a = List.length a ∧ contLe (List.length a) (4 : Nat) (cellsOf' encP a) (cellsOf' encP a)) ∧ (b2 = b2 ∧ List.length b = List.length b ∧ contLe (List.length b) (4 : Nat) (cellsOf' encP b) (cellsOf' encP b)) ∧ false = false ∧ IntKind.wrap IntKind.i64 ((↑k : Int) + (1 : Int)) = (↑j : Int) ∧ True) ∧ True ∧ true = true) ∧ true = true ∧ (sameFrom a b j = true → (sameFrom a b k = true → true = true) ∧ (sameFrom a b k = false → true = false)) ∧ (sameFrom a b j = false → (sameFrom a b k = true → false = true) ∧ (sameFrom a b k = false → false = false)))) ∧ (decide ((↑k : Int) < (↑(List.length a) : Int)) = false → (sameFrom a b k = true → True ∧ True ∧ true = true) ∧ (sameFrom a b k = false → False))
set_option maxRecDepth 1000000 in
theorem vcSameL_eq (b1 : Bool) (b2 : Bool) (a : List Producer) (b : List Producer) (k : Nat) : (loopVC Tryd.prog (hT _) 27 4 (fun k => a.length - k) (smT b1 b2 a b) (fun _ => []) [] (smO a b) smS k) = vcSameL b1 b2 a b k := by kernel_rfl
theorem same_loop (b1 b2 : Bool) (a b : List Producer) (hl : a.length ≤ 9223372036854775806) (he : a.length = b.length) (k : Nat) : LoopOk Tryd.prog 27 4 (loopAt Tryd.prog 27 4) ⟨smT b1 b2 a b k, [], []⟩ ((smO a b k).map (lout [] smS)) := by
  refine loop_vc Tryd.mixed (fun _ => rfl) (fun k => (vcSameL_eq b1 b2 a b k).mpr ?_) k
  unfold vcSameL
  simp
  refine ⟨fun h => ?_, fun h => by simp [sameFrom_end h]⟩
  rw [sameFrom_step h]
  simp (disch := omega) only [wrap_i64]
  simp [eqP, cast_succ_eq]
  generalize a[k]?.getD default = x
  generalize b[k]?.getD default = y
  grind
def smR (a b : List Producer) : T An := .ret (.y (.bool (sameP a b)), [], [])
noncomputable def smH (b1 b2 : Bool) (a b : List Producer) : HintsT Tryd.prog := hh _ (lp1 27 4 (jobOf (smT b1 b2 a b) (fun _ => []) [] (smO a b) smS 0) noLp) noCs noOp
def vcSame (b1 : Bool) (b2 : Bool) (a : List Producer) (b : List Producer) : Prop :=
  (((↑(List.length a) : Int) != (↑(List.length b) : Int)) = true → false = sameP a b ∧ True) ∧ (((↑(List.length a) : Int) != (↑(List.length b) : Int)) = false → (((b1 = b1 ∧ List.length a = List.length a ∧ contLe (List.length a) (4 : Nat) (cellsOf' encP a) (cellsOf' encP a)) ∧ (b2 = b2 ∧ List.length b = List.length b ∧ contLe (List.length b) (4 : Nat) (cellsOf' encP b) (cellsOf' encP b)) ∧ false = false ∧ (0 : Int) = (0 : Int) ∧ True) ∧ True ∧ true = true) ∧ LoopOk Tryd.prog (27 : Nat) (4 : Nat) (loopAt Tryd.prog (27 : Nat) (4 : Nat)) { t := smT b1 b2 a b (0 : Nat), m := [], mv := [] : St } (T.map (lout [] smS) (smO a b (0 : Nat))) ∧ (sameFrom a b (0 : Nat) = true → true = sameP a b ∧ True) ∧ (sameFrom a b (0 : Nat) = false → false = sameP a b ∧ True))
set_option maxRecDepth 1000000 in
theorem vcSame_eq (b1 : Bool) (b2 : Bool) (a : List Producer) (b : List Producer) : (ctrVC Tryd.prog (smH b1 b2 a b) 27 [encPs b1 a, encPs b2 b] [] (smR a b)) = vcSame b1 b2 a b := by kernel_rfl
theorem same_c (b1 b2 : Bool) (a b : List Producer) (hl : a.length ≤ 9223372036854775806) : (smR a b).Sat (ACall' Tryd.prog 27 [encPs b1 a, encPs b2 b] []) := by
  refine ctr_vc (ht := smH b1 b2 a b) Tryd.mixed rfl ?_
  rw [vcSame_eq b1 b2 a b]
  unfold vcSame
  by_cases he : a.length = b.length
  · have := same_loop b1 b2 a b hl he 0
    simp [sameP, he, this]
  · have he' : ¬ ((a.length : Int) = b.length) := by omega
    simp [sameP, he, he']
noncomputable def sameC' (b1 b2 : Bool) (a b : List Producer) (hl : a.length ≤ 9223372036854775806) : Ctr Tryd.prog := ⟨27, [encPs b1 a, encPs b2 b], [], smR a b, same_c b1 b2 a b hl⟩
/-! the document's put -/
def stp (x : Producer) (s : Bool × List Producer) (y : Producer) : Bool × List Producer :=
  let s1 := if (decide (x.id ≤ y.id) && !s.1) = true then (true, s.2 ++ [x]) else s
  if y.id = x.id then s1 else (s1.1, s1.2 ++ [y])
def rst (l : List Producer) (x : Producer) (k : Nat) : Bool × List Producer := (l.take k).foldl (stp x) (false, [])
theorem rst_step {l : List Producer} {x : Producer} {k : Nat} (h : k < l.length) : rst l x (k + 1) = stp x (rst l x k) (l[k]?.getD default) := by
  unfold rst
  rw [take_snoc l k h, List.foldl_append]; rfl
theorem rst_end {l : List Producer} {x : Producer} {k : Nat} (h : l.length ≤ k) : rst l x k = rst l x l.length := by
  unfold rst
  rw [List.take_of_length_le h, List.take_length]
theorem rst_len (l : List Producer) (x : Producer) : ∀ k, (rst l x k).2.length ≤ k + (if (rst l x k).1 then 1 else 0) := by
  intro k
  induction k with
  | zero => simp [rst]
  | succ k ih =>
    rcases Nat.lt_or_ge k l.length with h | h
    · rw [rst_step h]
      rcases hs : rst l x k with ⟨d, o⟩
      rw [hs] at ih
      generalize l[k]?.getD default = y
      by_cases h1 : x.id ≤ y.id <;> cases d <;> by_cases h2 : y.id = x.id <;> simp [stp, h1, h2] at ih ⊢ <;> omega
    · rw [rst_end (k := k + 1) (by omega), ← rst_end h]
      omega
def rput (l : List Producer) (x : Producer) : List Producer := if (rst l x l.length).1 then (rst l x l.length).2 else (rst l x l.length).2 ++ [x]
def rpT (b : Bool) (l : List Producer) (x : Producer) (k : Nat) : List AV := mkT 52 [(0, encPs b l), (3, .ptr 0 0 0 0), (5, .own 1 4 0 (rst l x k).2.length), (6, .y (.bool (rst l x k).1)), (7, .y (.int .i64 k))]
def rpM (l : List Producer) (x : Producer) (k : Nat) : List Blk := [.box 46 (encP x), .row 46 4 (rst l x k).2.length none (cellsOf' encP (rst l x k).2)]
def rpS (l : List Producer) (x : Producer) (_ : Unit) : Exit × List AV × List Blk := (.exit 0, mkT 52 [(3, .ptr 0 0 0 0), (5, .own 1 4 0 (rst l x l.length).2.length), (6, .y (.bool (rst l x l.length).1))], rpM l x l.length)
end Go.Proofs.YtckklclehofddaaDoor.P

/-! Producers: the document's put is the program's, on tables; the document's Accept and Pass. -/
namespace Go.Proofs.YtckklclehofddaaDoor.P
open Go.Ax
set_option maxRecDepth 1000000
def rputR (l : List Producer) (x : Producer) : T An := .ret (.own 0 4 0 (rput l x).length, [.row 46 4 (rput l x).length none (cellsOf' encP (rput l x))], [])
theorem oth_cons (y : Producer) (t : List Producer) (x : Producer) : oth (y :: t) x = if y.id = x.id then oth t x else y :: oth t x := by
  by_cases h : y.id = x.id
  · rw [if_pos h]; unfold oth; rw [List.filter_cons_of_neg (by simp [keep, h])]
  · rw [if_neg h]; unfold oth; rw [List.filter_cons_of_pos (by simp [keep, h])]
theorem fold_done (x : Producer) : ∀ (l o : List Producer), l.foldl (stp x) (true, o) = (true, o ++ oth l x) := by
  intro l
  induction l with
  | nil => intro o; simp [oth]
  | cons y t ih =>
    intro o
    by_cases h : y.id = x.id
    · simp [stp, h, ih, oth_cons]
    · simp [stp, h, ih, oth_cons]
theorem putL_cons_lt {y : Producer} {t : List Producer} {x : Producer} (h : y.id < x.id) : putL (y :: t) x = y :: putL t x := by
  have h' : ¬ y.id = x.id := by omega
  simp [putL, oth_cons, below, h, h']
theorem putL_ge {y : Producer} {t : List Producer} {x : Producer} (h : x.id ≤ y.id) (ht : ∀ z ∈ t, y.id < z.id) : putL (y :: t) x = x :: oth (y :: t) x := by
  have : below (oth (y :: t) x) x.id = 0 := by
    unfold below
    rw [List.length_eq_zero_iff]
    cases hd : oth (y :: t) x with
    | nil => rfl
    | cons z r =>
      have hz : z ∈ oth (y :: t) x := by rw [hd]; exact List.mem_cons_self
      have hz' : z ∈ y :: t := (List.mem_filter.1 hz).1
      have hlt : ¬ z.id < x.id := by
        rcases List.mem_cons.1 hz' with h1 | h1
        · rw [h1]; omega
        · have := ht z h1; omega
      rw [List.takeWhile_cons_of_neg]
      simpa using hlt
  rw [putL, this]; rfl
theorem fold_put (x : Producer) : ∀ (l o : List Producer), l.Pairwise (fun a b => a.id < b.id) → (if (l.foldl (stp x) (false, o)).1 then (l.foldl (stp x) (false, o)).2 else (l.foldl (stp x) (false, o)).2 ++ [x]) = o ++ putL l x := by
  intro l
  induction l with
  | nil => intro o _; simp [putL, oth, below]
  | cons y t ih =>
    intro o hp
    rw [List.pairwise_cons] at hp
    by_cases h : x.id ≤ y.id
    · rw [putL_ge h hp.1]
      by_cases h2 : y.id = x.id
      · simp [stp, h2, fold_done, oth_cons]
      · simp [stp, h, h2, fold_done, oth_cons]
    · have h2 : ¬ y.id = x.id := by omega
      have := ih (o ++ [y]) hp.2
      rw [putL_cons_lt (by omega)]
      simp only [List.foldl_cons, stp, h, h2, decide_false, Bool.false_and, Bool.false_eq_true, if_false]
      rw [this]; simp
theorem rising_pw (r : List Producer) : rising r ↔ r.Pairwise (fun a b => a.id < b.id) := by
  rw [List.pairwise_iff_getElem]
  constructor
  · intro h i j hi hj hij
    have := h i j hij hj
    simpa [hi, hj] using this
  · intro h i j hij hj
    have := h i j (by omega) hj hij
    simpa [show i < r.length by omega, hj] using this
theorem rput_putL {l : List Producer} {x : Producer} (h : rising l) : rput l x = putL l x := by
  have := fold_put x l [] ((rising_pw l).1 h)
  simpa [rput, rst] using this
end Go.Proofs.YtckklclehofddaaDoor.P

/-! Producers: Move. -/
namespace Go.Proofs.YtckklclehofddaaDoor.P
open Go.Ax
set_option maxRecDepth 1000000
def encI (x : Int) : List AV := [.y (.int .u64 x)]
def encU (b : Bool) (l : List Int) : AV := .ys b 1 l.length (cellsOf' encI l)
def mvOk (x : Producer) (to : List Int) : Bool := x.here && (decide (1 < to.length) && (decide (x.offset ≤ (to.length : Int) - 2) && decide (to.getD x.offset.toNat default < to.getD (x.offset.toNat + 1) default)))
def mvP (to : List Int) (x : Producer) : Producer := if mvOk x to then ⟨x.id, x.seq, true, to.getD x.offset.toNat default⟩ else ⟨x.id, x.seq, false, 0⟩
def moveL (l : List Producer) (to : List Int) : List Producer := l.map (mvP to)
def mvM (l : List Producer) (to : List Int) (k : Nat) : List Blk := [.row 46 4 (l.take k).length none (cellsOf' encP (moveL (l.take k) to))]
def mvT (b1 b2 : Bool) (l : List Producer) (to : List Int) (k : Nat) : List AV := mkT 64 [(1, encU b2 to), (5, .own 0 4 0 (l.take k).length), (9, encPs b1 l), (10, .y (.int .i64 l.length)), (11, .y (.int .i64 k))]
def mvS (b2 : Bool) (l : List Producer) (to : List Int) (_ : Unit) : Exit × List AV × List Blk := (.exit 0, mkT 64 [(1, encU b2 to), (5, .own 0 4 0 l.length)], [.row 46 4 l.length none (cellsOf' encP (moveL l to))])
def vcMvL (b1 : Bool) (b2 : Bool) (l : List Producer) (to : List Int) (k : Nat) : Prop :=
  (decide ((↑k : Int) < (↑(List.length l) : Int)) = true → (true && decide ((↑k : Int) < (↑(List.length l) : Int))) = true ∧ ((List.getD l (Int.toNat (↑k : Int)) (@default Producer instInhabitedProducer)).here = true → (decide ((1 : Int) < IntKind.wrap IntKind.u64 (↑(List.length to) : Int)) = true → (decide ((List.getD l (Int.toNat (↑k : Int)) (@default Producer instInhabitedProducer)).offset ≤ IntKind.wrap IntKind.u64 (IntKind.wrap IntKind.i64 ((↑(List.length to) : Int) - (2 : Int)))) = true → (decide ((0 : Int) ≤ IntKind.wrap IntKind.u64 ((List.getD l (Int.toNat (↑k : Int)) (@default Producer instInhabitedProducer)).offset + (1 : Int))) && decide (IntKind.wrap IntKind.u64 ((List.getD l (Int.toNat (↑k : Int)) (@default Producer instInhabitedProducer)).offset + (1 : Int)) < (↑(List.length to) : Int))) = true ∧ (decide ((0 : Int) ≤ (List.getD l (Int.toNat (↑k : Int)) (@default Producer instInhabitedProducer)).offset) && decide ((List.getD l (Int.toNat (↑k : Int)) (@default Producer instInhabitedProducer)).offset < (↑(List.length to) : Int))) = true ∧ (decide (List.getD to (Int.toNat (List.getD l (Int.toNat (↑k : Int)) (@default Producer instInhabitedProducer)).offset) (0 : Int) < List.getD to (Int.toNat (IntKind.wrap IntKind.u64 ((List.getD l (Int.toNat (↑k : Int)) (@default Producer instInhabitedProducer)).offset + (1 : Int)))) (0 : Int)) = true → (decide ((0 : Int) ≤ (List.getD l (Int.toNat (↑k : Int)) (@default Producer instInhabitedProducer)).offset) && decide ((List.getD l (Int.toNat (↑k : Int)) (@default Producer instInhabitedProducer)).offset < (↑(List.length to) : Int))) = true ∧ (decide (List.length (List.take k l) = List.length (List.take k l)) && decide (List.length (List.take k l) + (1 : Nat) ≤ (9223372036854775807 : Nat)) && decide ((List.length (List.take k l) + (1 : Nat)) * (32 : Nat) ≤ (140737488355328 : Nat))) = true ∧ ∃ (j : Nat), List.length l - j < List.length l - k ∧ (((b2 = b2 ∧ List.length to = List.length to ∧ contLe (List.length to) (1 : Nat) (cellsOf' encI to) (cellsOf' encI to)) ∧ ((0 : Nat) = (0 : Nat) ∧ List.length (List.take k l) + (1 : Nat) = List.length (List.take j l)) ∧ (b1 = b1 ∧ List.length l = List.length l ∧ contLe (List.length l) (4 : Nat) (cellsOf' encP l) (cellsOf' encP l)) ∧ (↑(List.length l) : Int) = (↑(List.length l) : Int) ∧ IntKind.wrap IntKind.i64 ((↑k : Int) + (1 : Int)) = (↑j : Int) ∧ True) ∧ ((List.length (List.take k l) + (1 : Nat) = List.length (List.take j l) ∧ contLe (List.length (List.take k l) + (1 : Nat)) (4 : Nat) (appRow (List.length (List.take k l)) (cellsOf' encP (moveL (List.take k l) to)) fun (k_1 j : Nat) => Ax.get [AV.y (Value.int IntKind.u64 (List.getD l (Int.toNat (↑k : Int)) (@default Producer instInhabitedProducer)).id), AV.y (Value.int IntKind.u64 (List.getD l (Int.toNat (↑k : Int)) (@default Producer instInhabitedProducer)).seq), AV.s (Value.bool true), AV.y (Value.int IntKind.u64 (List.getD to (Int.toNat (List.getD l (Int.toNat (↑k : Int)) (@default Producer instInhabitedProducer)).offset) (0 : Int)))] (k_1 * (4 : Nat) + j)) (cellsOf' encP (moveL (List.take j l) to))) ∧ True) ∧ true = true) ∧ true = true ∧ () = ()) ∧ (decide (List.getD to (Int.toNat (List.getD l (Int.toNat (↑k : Int)) (@default Producer instInhabitedProducer)).offset) (0 : Int) < List.getD to (Int.toNat (IntKind.wrap IntKind.u64 ((List.getD l (Int.toNat (↑k : Int)) (@default Producer instInhabitedProducer)).offset + (1 : Int)))) (0 : Int)) = false → (decide (List.length (List.take k l) = List.length (List.take k l)) && decide (List.length (List.take k l) + (1 : Nat) ≤ (9223372036854775807 : Nat)) && decide ((List.length (List.take k l) + (1 : Nat)) * (32 : Nat) ≤ (140737488355328 : Nat))) = true ∧ ∃ (j : Nat), List.length l - j < List.length l - k ∧ (((b2 = b2 ∧ List.length to = List.length to ∧ contLe (List.length to) (1 : Nat) (cellsOf' encI to) (cellsOf' encI to)) ∧ ((0 : Nat) = (0 : Nat) ∧ List.length (List.take k l) + (1 : Nat) = List.length (List.take j l)) ∧ (b1 = b1 ∧ List.length l = List.length l ∧ contLe (List.length l) (4 : Nat) (cellsOf' encP l) (cellsOf' encP l)) ∧ (↑(List.length l) : Int) = (↑(List.length l) : Int) ∧ IntKind.wrap IntKind.i64 ((↑k : Int) + (1 : Int)) = (↑j : Int) ∧ True) ∧ ((List.length (List.take k l) + (1 : Nat) = List.length (List.take j l) ∧ contLe (List.length (List.take k l) + (1 : Nat)) (4 : Nat) (appRow (List.length (List.take k l)) (cellsOf' encP (moveL (List.take k l) to)) fun (k_1 j : Nat) => Ax.get [AV.y (Value.int IntKind.u64 (List.getD l (Int.toNat (↑k : Int)) (@default Producer instInhabitedProducer)).id), AV.y (Value.int IntKind.u64 (List.getD l (Int.toNat (↑k : Int)) (@default Producer instInhabitedProducer)).seq), AV.s (Value.bool false), AV.s (Value.int IntKind.u64 (0 : Int))] (k_1 * (4 : Nat) + j)) (cellsOf' encP (moveL (List.take j l) to))) ∧ True) ∧ true = true) ∧ true = true ∧ () = ())) ∧ (decide ((List.getD l (Int.toNat (↑k : Int)) (@default Producer instInhabitedProducer)).offset ≤ IntKind.wrap IntKind.u64 (IntKind.wrap IntKind.i64 ((↑(List.length to) : Int) - (2 : Int)))) = false → (decide (List.length (List.take k l) = List.length (List.take k l)) && decide (List.length (List.take k l) + (1 : Nat) ≤ (9223372036854775807 : Nat)) && decide ((List.length (List.take k l) + (1 : Nat)) * (32 : Nat) ≤ (140737488355328 : Nat))) = true ∧ ∃ (j : Nat), List.length l - j < List.length l - k ∧ (((b2 = b2 ∧ List.length to = List.length to ∧ contLe (List.length to) (1 : Nat) (cellsOf' encI to) (cellsOf' encI to)) ∧ ((0 : Nat) = (0 : Nat) ∧ List.length (List.take k l) + (1 : Nat) = List.length (List.take j l)) ∧ (b1 = b1 ∧ List.length l = List.length l ∧ contLe (List.length l) (4 : Nat) (cellsOf' encP l) (cellsOf' encP l)) ∧ (↑(List.length l) : Int) = (↑(List.length l) : Int) ∧ IntKind.wrap IntKind.i64 ((↑k : Int) + (1 : Int)) = (↑j : Int) ∧ True) ∧ ((List.length (List.take k l) + (1 : Nat) = List.length (List.take j l) ∧ contLe (List.length (List.take k l) + (1 : Nat)) (4 : Nat) (appRow (List.length (List.take k l)) (cellsOf' encP (moveL (List.take k l) to)) fun (k_1 j : Nat) => Ax.get [AV.y (Value.int IntKind.u64 (List.getD l (Int.toNat (↑k : Int)) (@default Producer instInhabitedProducer)).id), AV.y (Value.int IntKind.u64 (List.getD l (Int.toNat (↑k : Int)) (@default Producer instInhabitedProducer)).seq), AV.s (Value.bool false), AV.s (Value.int IntKind.u64 (0 : Int))] (k_1 * (4 : Nat) + j)) (cellsOf' encP (moveL (List.take j l) to))) ∧ True) ∧ true = true) ∧ true = true ∧ () = ())) ∧ (decide ((1 : Int) < IntKind.wrap IntKind.u64 (↑(List.length to) : Int)) = false → (decide (List.length (List.take k l) = List.length (List.take k l)) && decide (List.length (List.take k l) + (1 : Nat) ≤ (9223372036854775807 : Nat)) && decide ((List.length (List.take k l) + (1 : Nat)) * (32 : Nat) ≤ (140737488355328 : Nat))) = true ∧ ∃ (j : Nat), List.length l - j < List.length l - k ∧ (((b2 = b2 ∧ List.length to = List.length to ∧ contLe (List.length to) (1 : Nat) (cellsOf' encI to) (cellsOf' encI to)) ∧ ((0 : Nat) = (0 : Nat) ∧ List.length (List.take k l) + (1 : Nat) = List.length (List.take j l)) ∧ (b1 = b1 ∧ List.length l = List.length l ∧ contLe (List.length l) (4 : Nat) (cellsOf' encP l) (cellsOf' encP l)) ∧ (↑(List.length l) : Int) = (↑(List.length l) : Int) ∧ IntKind.wrap IntKind.i64 ((↑k : Int) + (1 : Int)) = (↑j : Int) ∧ True) ∧ ((List.length (List.take k l) + (1 : Nat) = List.length (List.take j l) ∧ contLe (List.length (List.take k l) + (1 : Nat)) (4 : Nat) (appRow (List.length (List.take k l)) (cellsOf' encP (moveL (List.take k l) to)) fun (k_1 j : Nat) => Ax.get [AV.y (Value.int IntKind.u64 (List.getD l (Int.toNat (↑k : Int)) (@default Producer instInhabitedProducer)).id), AV.y (Value.int IntKind.u64 (List.getD l (Int.toNat (↑k : Int)) (@default Producer instInhabitedProducer)).seq), AV.s (Value.bool false), AV.s (Value.int IntKind.u64 (0 : Int))] (k_1 * (4 : Nat) + j)) (cellsOf' encP (moveL (List.take j l) to))) ∧ True) ∧ true = true) ∧ true = true ∧ () = ())) ∧ ((List.getD l (Int.toNat (↑k : Int)) (@default Producer instInhabitedProducer)).here = false → (decide (List.length (List.take k l) = List.length (List.take k l)) && decide (List.length (List.take k l) + (1 : Nat) ≤ (9223372036854775807 : Nat)) && decide ((List.length (List.take k l) + (1 : Nat)) * (32 : Nat) ≤ (140737488355328 : Nat))) = true ∧ ∃ (j : Nat), List.length l - j < List.length l - k ∧ (((b2 = b2 ∧ List.length to = List.length to ∧ contLe (List.length to) (1 : Nat) (cellsOf' encI to) (cellsOf' encI to)) ∧ ((0 : Nat) = (0 : Nat) ∧ List.length (List.take k l) + (1 : Nat) = List.length (List.take j l)) ∧ (b1 = b1 ∧ List.length l = List.length l ∧ contLe (List.length l) (4 : Nat) (cellsOf' encP l) (cellsOf' encP l)) ∧ (↑(List.length l) : Int) = (↑(List.length l) : Int) ∧ IntKind.wrap IntKind.i64 ((↑k : Int) + (1 : Int)) = (↑j : Int) ∧ True) ∧ ((List.length (List.take k l) + (1 : Nat) = List.length (List.take j l) ∧ contLe (List.length (List.take k l) + (1 : Nat)) (4 : Nat) (appRow (List.length (List.take k l)) (cellsOf' encP (moveL (List.take k l) to)) fun (k_1 j : Nat) => Ax.get [AV.y (Value.int IntKind.u64 (List.getD l (Int.toNat (↑k : Int)) (@default Producer instInhabitedProducer)).id), AV.y (Value.int IntKind.u64 (List.getD l (Int.toNat (↑k : Int)) (@default Producer instInhabitedProducer)).seq), AV.s (Value.bool false), AV.s (Value.int IntKind.u64 (0 : Int))] (k_1 * (4 : Nat) + j)) (cellsOf' encP (moveL (List.take j l) to))) ∧ True) ∧ true = true) ∧ true = true ∧ () = ())) ∧ (decide ((↑k : Int) < (↑(List.length l) : Int)) = false → ((b2 = b2 ∧ List.length to = List.length to ∧ contLe (List.length to) (1 : Nat) (cellsOf' encI to) (cellsOf' encI to)) ∧ ((0 : Nat) = (0 : Nat) ∧ List.length (List.take k l) = List.length l) ∧ True) ∧ ((List.length (List.take k l) = List.length l ∧ contLe (List.length (List.take k l)) (4 : Nat) (cellsOf' encP (moveL (List.take k l) to)) (cellsOf' encP (moveL l to))) ∧ True) ∧ true = true)
set_option maxRecDepth 1000000 in
theorem vcMvL_eq (b1 : Bool) (b2 : Bool) (l : List Producer) (to : List Int) (k : Nat) : (loopVC Tryd.prog (hT _) 21 3 (fun k => l.length - k) (mvT b1 b2 l to) (mvM l to) [0, 1, 2, 3, 4] (fun _ => .ret ()) (mvS b2 l to) k) = vcMvL b1 b2 l to k := by kernel_rfl
theorem mv_loop (b1 b2 : Bool) (l : List Producer) (to : List Int) (hl : l.length * 32 ≤ 140737488355200) (ht : to.length ≤ 9223372036854775806) (ho : ∀ x ∈ l, 0 ≤ x.offset ∧ x.offset < 18446744073709551616) (k : Nat) (hk : k ≤ l.length) : LoopOk Tryd.prog 21 3 (loopAt Tryd.prog 21 3) ⟨mvT b1 b2 l to k, mvM l to k, []⟩ (T.map (lout [0, 1, 2, 3, 4] (mvS b2 l to)) (.ret ())) := by
  refine loop_vc (o := fun _ => .ret ()) Tryd.mixed (fun _ => rfl) (fun k => (vcMvL_eq b1 b2 l to k).mpr ?_) k
  unfold vcMvL
  simp
  refine ⟨fun h => ⟨h, ?_⟩, fun h => ?_⟩
  · have hy : 0 ≤ (l[k]?.getD default).offset ∧ (l[k]?.getD default).offset < 18446744073709551616 := by
      have := ho l[k] (List.getElem_mem h)
      simpa [h] using this
    have hm : min k l.length = k := by omega
    have hst : moveL (l.take (k + 1)) to = moveL (l.take k) to ++ [mvP to (l[k]?.getD default)] := by rw [take_snoc l k h]; simp [moveL]
    have hlen : (moveL (l.take k) to).length = k := by simp [moveL, hm]
    have hw := wrap_i64 (n := (k : Int) + 1) (by omega) (by omega)
    rw [hw]
    generalize l[k]?.getD default = y at *
    rw [hm]
    have fin : ∀ e : List AV, (∀ j, j < 4 → le0 (Ax.get e j) (Ax.get (encP (mvP to y)) j)) → (k ≤ 9223372036854775806 ∧ (k + 1) * 32 ≤ 140737488355328) ∧ ∃ j, l.length - j < l.length - k ∧ (k + 1 = min j l.length ∧ (k : Int) + 1 = (j : Int)) ∧ k + 1 = min j l.length ∧ contLe (k + 1) 4 (appRow k (cellsOf' encP (moveL (List.take k l) to)) fun k_1 j => Ax.get e (k_1 * 4 + j)) (cellsOf' encP (moveL (List.take j l) to)) := by
      intro e he
      refine ⟨⟨by omega, by omega⟩, k + 1, by omega, ⟨by omega, by omega⟩, by omega, ?_⟩
      rw [hst]
      exact app_le (contLe_refl _ _ _) hlen.symm he
    have f0 : mvOk y to = false → _ := fun hm => fin [.y (.int .u64 y.id), .y (.int .u64 y.seq), .s (.bool false), .s (.int .u64 0)] fun j hj => by
      match j, hj with
      | 0, _ => simp [mvP, hm, encP]
      | 1, _ => simp [mvP, hm, encP]
      | 2, _ => simp [mvP, hm, encP]
      | 3, _ => simp [mvP, hm, encP]
    have f1 : mvOk y to = true → _ := fun hm => fin [.y (.int .u64 y.id), .y (.int .u64 y.seq), .s (.bool true), .y (.int .u64 (to[y.offset.toNat]?.getD 0))] fun j hj => by
      match j, hj with
      | 0, _ => simp [mvP, hm, encP]
      | 1, _ => simp [mvP, hm, encP]
      | 2, _ => simp [mvP, hm, encP]
      | 3, _ => simp [mvP, hm, encP]
    have hu : IntKind.u64.wrap (to.length : Int) = to.length := wrap_u64 (by omega) (by omega)
    rw [hu]
    refine ⟨fun hh => ⟨fun h1 => ?_, fun h1 => f0 ?_⟩, fun hh => f0 ?_⟩
    · have hs2 : IntKind.u64.wrap (IntKind.i64.wrap ((to.length : Int) - 2)) = (to.length : Int) - 2 := by
        rw [wrap_i64 (by omega) (by omega), wrap_u64 (by omega) (by omega)]
      rw [hs2]
      refine ⟨fun h2 => ?_, fun h2 => f0 ?_⟩
      · have hs3 : IntKind.u64.wrap (y.offset + 1) = y.offset + 1 := wrap_u64 (by omega) (by omega)
        have hs4 : (y.offset + 1).toNat = y.offset.toNat + 1 := by omega
        rw [hs3, hs4]
        refine ⟨⟨by omega, by omega⟩, ⟨by omega, by omega⟩, fun h3 => ⟨⟨by omega, by omega⟩, f1 ?_⟩, fun h3 => f0 ?_⟩
        · simp [mvOk, hh]
          exact ⟨by omega, h2, h3⟩
        · simp [mvOk]
          intro _ _ _
          exact h3
      · simp [mvOk]
        intro _ _ h3
        omega
    · simp [mvOk]
      intro _ h3
      omega
    · simp [mvOk, hh]
  · rw [List.take_of_length_le h]
    simp [moveL]
    omega
noncomputable def mvH (b1 b2 : Bool) (l : List Producer) (to : List Int) : HintsT Tryd.prog :=
  hh _ (lp1 21 3 (jobOf (mvT b1 b2 l to) (mvM l to) [0, 1, 2, 3, 4] (fun _ => .ret ()) (mvS b2 l to) 0) noLp) noCs (op1 21 1 0 (.row 46 4) noOp)
def rowR (r : List Producer) : T An := .ret (.own 0 4 0 r.length, [.row 46 4 r.length none (cellsOf' encP r)], [])
def vcMv (b1 : Bool) (b2 : Bool) (l : List Producer) (to : List Int) : Prop :=
  (((b2 = b2 ∧ List.length to = List.length to ∧ contLe (List.length to) (1 : Nat) (cellsOf' encI to) (cellsOf' encI to)) ∧ ((0 : Nat) = (0 : Nat) ∧ (0 : Nat) = (0 : Nat)) ∧ (b1 = b1 ∧ List.length l = List.length l ∧ contLe (List.length l) (4 : Nat) (cellsOf' encP l) (cellsOf' encP l)) ∧ (↑(List.length l) : Int) = (↑(List.length l) : Int) ∧ (0 : Int) = (0 : Int) ∧ True) ∧ (((0 : Nat) = (0 : Nat) ∧ contLe (0 : Nat) (4 : Nat) (fun (x x_1 : Nat) => AV.junk) (cellsOf' encP [])) ∧ True) ∧ true = true) ∧ LoopOk Tryd.prog (21 : Nat) (3 : Nat) (loopAt Tryd.prog (21 : Nat) (3 : Nat)) { t := mvT b1 b2 l to (0 : Nat), m := mvM l to (0 : Nat), mv := [] : St } (T.map (lout [(0 : Nat), (1 : Nat), (2 : Nat), (3 : Nat), (4 : Nat)] (mvS b2 l to)) ((fun (x : Nat) => T.ret ()) (0 : Nat))) ∧ ((0 : Nat) = (0 : Nat) ∧ List.length l = List.length (moveL l to)) ∧ (List.length l = List.length (moveL l to) ∧ contLe (List.length l) (4 : Nat) (cellsOf' encP (moveL l to)) (cellsOf' encP (moveL l to))) ∧ True
set_option maxRecDepth 1000000 in
theorem vcMv_eq (b1 : Bool) (b2 : Bool) (l : List Producer) (to : List Int) : (ctrVC Tryd.prog (mvH b1 b2 l to) 21 [encPs b1 l, encU b2 to] [] (rowR (moveL l to))) = vcMv b1 b2 l to := by kernel_rfl
theorem move_c (b1 b2 : Bool) (l : List Producer) (to : List Int) (hl : l.length * 32 ≤ 140737488355200) (ht : to.length ≤ 9223372036854775806) (ho : ∀ x ∈ l, 0 ≤ x.offset ∧ x.offset < 18446744073709551616) : (rowR (moveL l to)).Sat (ACall' Tryd.prog 21 [encPs b1 l, encU b2 to] []) := by
  refine ctr_vc (ht := mvH b1 b2 l to) Tryd.mixed rfl ?_
  rw [vcMv_eq b1 b2 l to]
  unfold vcMv
  have hL := mv_loop b1 b2 l to hl ht ho 0 (Nat.zero_le _)
  simp [hL, moveL]
end Go.Proofs.YtckklclehofddaaDoor.P

/-! Producers: the document's Move; later. -/
namespace Go.Proofs.YtckklclehofddaaDoor.P
open Go.Ax
set_option maxRecDepth 1000000
def oneR (x : Producer) : T An := .ret (.agg (encP x), [], [])
def vcMd (b : Bool) (x : Producer) (to : List Int) : Prop :=
  (x.here = true → (decide ((0 : Int) < (↑(List.length to) : Int)) = true → (decide (x.offset < IntKind.wrap IntKind.u64 (IntKind.wrap IntKind.i64 ((↑(List.length to) : Int) - (1 : Int)))) = true → (decide ((0 : Int) ≤ IntKind.wrap IntKind.i64 (IntKind.wrap IntKind.i64 x.offset + (1 : Int))) && decide (IntKind.wrap IntKind.i64 (IntKind.wrap IntKind.i64 x.offset + (1 : Int)) < (↑(List.length to) : Int))) = true ∧ (decide ((0 : Int) ≤ IntKind.wrap IntKind.i64 x.offset) && decide (IntKind.wrap IntKind.i64 x.offset < (↑(List.length to) : Int))) = true ∧ (decide (List.getD to (Int.toNat (IntKind.wrap IntKind.i64 x.offset)) (0 : Int) < List.getD to (Int.toNat (IntKind.wrap IntKind.i64 (IntKind.wrap IntKind.i64 x.offset + (1 : Int)))) (0 : Int)) = true → (decide ((0 : Int) ≤ IntKind.wrap IntKind.i64 x.offset) && decide (IntKind.wrap IntKind.i64 x.offset < (↑(List.length to) : Int))) = true ∧ (x.id = (mvP to x).id ∧ x.seq = (mvP to x).seq ∧ true = (mvP to x).here ∧ List.getD to (Int.toNat (IntKind.wrap IntKind.i64 x.offset)) (0 : Int) = (mvP to x).offset ∧ True) ∧ True) ∧ (decide (List.getD to (Int.toNat (IntKind.wrap IntKind.i64 x.offset)) (0 : Int) < List.getD to (Int.toNat (IntKind.wrap IntKind.i64 (IntKind.wrap IntKind.i64 x.offset + (1 : Int)))) (0 : Int)) = false → (x.id = (mvP to x).id ∧ x.seq = (mvP to x).seq ∧ false = (mvP to x).here ∧ (0 : Int) = (mvP to x).offset ∧ True) ∧ True)) ∧ (decide (x.offset < IntKind.wrap IntKind.u64 (IntKind.wrap IntKind.i64 ((↑(List.length to) : Int) - (1 : Int)))) = false → (x.id = (mvP to x).id ∧ x.seq = (mvP to x).seq ∧ false = (mvP to x).here ∧ (0 : Int) = (mvP to x).offset ∧ True) ∧ True)) ∧ (decide ((0 : Int) < (↑(List.length to) : Int)) = false → (x.id = (mvP to x).id ∧ x.seq = (mvP to x).seq ∧ false = (mvP to x).here ∧ (0 : Int) = (mvP to x).offset ∧ True) ∧ True)) ∧ (x.here = false → (x.id = (mvP to x).id ∧ x.seq = (mvP to x).seq ∧ false = (mvP to x).here ∧ (0 : Int) = (mvP to x).offset ∧ True) ∧ True)
set_option maxRecDepth 1000000 in
theorem vcMd_eq (b : Bool) (x : Producer) (to : List Int) : (ctrVC Tryd.prog (hT _) 58 [.agg (encP x), encU b to] [] (oneR (mvP to x))) = vcMd b x to := by kernel_rfl
theorem moved_c (b : Bool) (y : Producer) (to : List Int) (ht : to.length ≤ 9223372036854775806) (ho : 0 ≤ y.offset ∧ y.offset < 18446744073709551616) : (oneR (mvP to y)).Sat (ACall' Tryd.prog 58 [.agg (encP y), encU b to] []) := by
  refine ctr_vc (ht := hT _) Tryd.mixed rfl ?_
  rw [vcMd_eq b y to]
  unfold vcMd
  simp [encP]
  have h0 : mvOk y to = false → y.id = (mvP to y).id ∧ y.seq = (mvP to y).seq ∧ (mvP to y).here = false ∧ 0 = (mvP to y).offset := fun h => by simp [mvP, h]
  refine ⟨fun hh => ⟨fun h1 => ?_, fun h1 => h0 ?_⟩, fun hh => h0 ?_⟩
  · have hs2 : IntKind.u64.wrap (IntKind.i64.wrap ((to.length : Int) - 1)) = (to.length : Int) - 1 := by
      rw [wrap_i64 (by omega) (by omega), wrap_u64 (by omega) (by omega)]
    rw [hs2]
    refine ⟨fun h2 => ?_, fun h2 => h0 ?_⟩
    · have hs3 : IntKind.i64.wrap y.offset = y.offset := wrap_i64 (by omega) (by omega)
      have hs5 : IntKind.i64.wrap (y.offset + 1) = y.offset + 1 := wrap_i64 (by omega) (by omega)
      have hs4 : (y.offset + 1).toNat = y.offset.toNat + 1 := by omega
      rw [hs3, hs5, hs4]
      refine ⟨⟨by omega, by omega⟩, ⟨by omega, by omega⟩, fun h3 => ⟨⟨by omega, by omega⟩, ?_⟩, fun h3 => h0 ?_⟩
      · have : mvOk y to = true := by
          simp [mvOk, hh]
          exact ⟨by omega, by omega, h3⟩
        simp [mvP, this]
      · simp [mvOk]
        intro _ _ _
        exact h3
    · simp [mvOk]
      intro _ h3 h4
      omega
  · simp [mvOk, h1]
  · simp [mvOk, hh]
noncomputable def movedN (b : Bool) (x : Producer) (to : List Int) : Ctr Tryd.prog := ⟨58, [.agg (encP x), encU b to], [], .need (to.length ≤ 9223372036854775806 ∧ 0 ≤ x.offset ∧ x.offset < 18446744073709551616) (oneR (mvP to x)), T.Sat.need fun h => moved_c b x to h.1 h.2⟩
def rmT (b1 b2 : Bool) (l : List Producer) (to : List Int) (k : Nat) : List AV := mkT 23 [(0, encPs b1 l), (1, encU b2 to), (5, .own 0 4 0 (l.take k).length), (6, .y (.int .i64 k))]
def rmS (b1 b2 : Bool) (l : List Producer) (to : List Int) (_ : Unit) : Exit × List AV × List Blk := (.exit 0, mkT 23 [(0, encPs b1 l), (1, encU b2 to), (5, .own 0 4 0 l.length)], [.row 46 4 l.length none (cellsOf' encP (moveL l to))])
noncomputable def rmH (b2 : Bool) (l : List Producer) (to : List Int) (k : Nat) : HintsT Tryd.prog := hh _ noLp (cs1 44 5 6 (movedN b2 (l.getD k default) to) noCs) noOp
def vcRmL (b1 : Bool) (b2 : Bool) (l : List Producer) (to : List Int) (k : Nat) : Prop :=
  (decide ((↑k : Int) < (↑(List.length l) : Int)) = true → (true && decide ((↑k : Int) < (↑(List.length l) : Int))) = true ∧ (((List.getD l (Int.toNat (↑k : Int)) (@default Producer instInhabitedProducer)).id = (List.getD l k (@default Producer instInhabitedProducer)).id ∧ (List.getD l (Int.toNat (↑k : Int)) (@default Producer instInhabitedProducer)).seq = (List.getD l k (@default Producer instInhabitedProducer)).seq ∧ (List.getD l (Int.toNat (↑k : Int)) (@default Producer instInhabitedProducer)).here = (List.getD l k (@default Producer instInhabitedProducer)).here ∧ (List.getD l (Int.toNat (↑k : Int)) (@default Producer instInhabitedProducer)).offset = (List.getD l k (@default Producer instInhabitedProducer)).offset ∧ True) ∧ (b2 = b2 ∧ List.length to = List.length to ∧ contLe (List.length to) (1 : Nat) (cellsOf' encI to) (cellsOf' encI to)) ∧ True) ∧ True ∧ (List.length to ≤ (9223372036854775806 : Nat) ∧ (0 : Int) ≤ (List.getD l k (@default Producer instInhabitedProducer)).offset ∧ (List.getD l k (@default Producer instInhabitedProducer)).offset < (18446744073709551616 : Int)) ∧ (decide (List.length (List.take k l) = List.length (List.take k l)) && decide (List.length (List.take k l) + (1 : Nat) ≤ (9223372036854775807 : Nat)) && decide ((List.length (List.take k l) + (1 : Nat)) * (32 : Nat) ≤ (140737488355328 : Nat))) = true ∧ ∃ (j : Nat), List.length l - j < List.length l - k ∧ (((b1 = b1 ∧ List.length l = List.length l ∧ contLe (List.length l) (4 : Nat) (cellsOf' encP l) (cellsOf' encP l)) ∧ (b2 = b2 ∧ List.length to = List.length to ∧ contLe (List.length to) (1 : Nat) (cellsOf' encI to) (cellsOf' encI to)) ∧ ((0 : Nat) = (0 : Nat) ∧ List.length (List.take k l) + (1 : Nat) = List.length (List.take j l)) ∧ IntKind.wrap IntKind.i64 ((↑k : Int) + (1 : Int)) = (↑j : Int) ∧ True) ∧ ((List.length (List.take k l) + (1 : Nat) = List.length (List.take j l) ∧ contLe (List.length (List.take k l) + (1 : Nat)) (4 : Nat) (appRow (List.length (List.take k l)) (cellsOf' encP (moveL (List.take k l) to)) fun (k_1 j : Nat) => Ax.get [AV.y (Value.int IntKind.u64 (mvP to (List.getD l k (@default Producer instInhabitedProducer))).id), AV.y (Value.int IntKind.u64 (mvP to (List.getD l k (@default Producer instInhabitedProducer))).seq), AV.y (Value.bool (mvP to (List.getD l k (@default Producer instInhabitedProducer))).here), AV.y (Value.int IntKind.u64 (mvP to (List.getD l k (@default Producer instInhabitedProducer))).offset)] (k_1 * (4 : Nat) + j)) (cellsOf' encP (moveL (List.take j l) to))) ∧ True) ∧ true = true) ∧ true = true ∧ () = ()) ∧ (decide ((↑k : Int) < (↑(List.length l) : Int)) = false → ((b1 = b1 ∧ List.length l = List.length l ∧ contLe (List.length l) (4 : Nat) (cellsOf' encP l) (cellsOf' encP l)) ∧ (b2 = b2 ∧ List.length to = List.length to ∧ contLe (List.length to) (1 : Nat) (cellsOf' encI to) (cellsOf' encI to)) ∧ ((0 : Nat) = (0 : Nat) ∧ List.length (List.take k l) = List.length l) ∧ True) ∧ ((List.length (List.take k l) = List.length l ∧ contLe (List.length (List.take k l)) (4 : Nat) (cellsOf' encP (moveL (List.take k l) to)) (cellsOf' encP (moveL l to))) ∧ True) ∧ true = true)
set_option maxRecDepth 1000000 in
theorem vcRmL_eq (b1 : Bool) (b2 : Bool) (l : List Producer) (to : List Int) (k : Nat) : (loopVC Tryd.prog (rmH b2 l to k) 44 3 (fun k => l.length - k) (rmT b1 b2 l to) (mvM l to) [0, 1, 2, 3, 4] (fun _ => .ret ()) (rmS b1 b2 l to) k) = vcRmL b1 b2 l to k := by kernel_rfl
theorem rm_loop (b1 b2 : Bool) (l : List Producer) (to : List Int) (hl : l.length * 32 ≤ 140737488355200) (ht : to.length ≤ 9223372036854775806) (ho : ∀ x ∈ l, 0 ≤ x.offset ∧ x.offset < 18446744073709551616) (k : Nat) : LoopOk Tryd.prog 44 3 (loopAt Tryd.prog 44 3) ⟨rmT b1 b2 l to k, mvM l to k, []⟩ (T.map (lout [0, 1, 2, 3, 4] (rmS b1 b2 l to)) (.ret ())) := by
  refine loop_vcH (o := fun _ => .ret ()) Tryd.mixed (fun _ => rfl) (fun k => (vcRmL_eq b1 b2 l to k).mpr ?_) k
  unfold vcRmL
  simp
  refine ⟨fun h => ⟨h, ?_⟩, fun h => ?_⟩
  · have hy : 0 ≤ (l[k]?.getD default).offset ∧ (l[k]?.getD default).offset < 18446744073709551616 := by
      have := ho l[k] (List.getElem_mem h)
      simpa [h] using this
    have hm : min k l.length = k := by omega
    have hst : moveL (l.take (k + 1)) to = moveL (l.take k) to ++ [mvP to (l[k]?.getD default)] := by rw [take_snoc l k h]; simp [moveL]
    have hlen : (moveL (l.take k) to).length = k := by simp [moveL, hm]
    have hw := wrap_i64 (n := (k : Int) + 1) (by omega) (by omega)
    rw [hw]
    generalize l[k]?.getD default = y at *
    rw [hm]
    refine ⟨⟨ht, hy⟩, ⟨by omega, by omega⟩, k + 1, by omega, ⟨by omega, by omega⟩, by omega, ?_⟩
    rw [hst]
    refine app_le (contLe_refl _ _ _) hlen.symm fun j hj => ?_
    match j, hj with
    | 0, _ => simp [encP]
    | 1, _ => simp [encP]
    | 2, _ => simp [encP]
    | 3, _ => simp [encP]
  · rw [List.take_of_length_le h]
    simp [moveL]
    omega
def lat (x y : Producer) : Bool := decide (y.seq < x.seq) || (x.seq == y.seq && (x.here && !y.here))
def boolR (b : Bool) : T An := .ret (.y (.bool b), [], [])
noncomputable def rmvH (b1 b2 : Bool) (l : List Producer) (to : List Int) : HintsT Tryd.prog :=
  hh _ (lp1 44 3 (jobOf (rmT b1 b2 l to) (mvM l to) [0, 1, 2, 3, 4] (fun _ => .ret ()) (rmS b1 b2 l to) 0) noLp) noCs (op1 44 1 0 (.row 46 4) noOp)
def vcRmv (b1 : Bool) (b2 : Bool) (l : List Producer) (to : List Int) : Prop :=
  (((b1 = b1 ∧ List.length l = List.length l ∧ contLe (List.length l) (4 : Nat) (cellsOf' encP l) (cellsOf' encP l)) ∧ (b2 = b2 ∧ List.length to = List.length to ∧ contLe (List.length to) (1 : Nat) (cellsOf' encI to) (cellsOf' encI to)) ∧ ((0 : Nat) = (0 : Nat) ∧ (0 : Nat) = (0 : Nat)) ∧ (0 : Int) = (0 : Int) ∧ True) ∧ (((0 : Nat) = (0 : Nat) ∧ contLe (0 : Nat) (4 : Nat) (fun (x x_1 : Nat) => AV.junk) (cellsOf' encP [])) ∧ True) ∧ true = true) ∧ LoopOk Tryd.prog (44 : Nat) (3 : Nat) (loopAt Tryd.prog (44 : Nat) (3 : Nat)) { t := rmT b1 b2 l to (0 : Nat), m := mvM l to (0 : Nat), mv := [] : St } (T.map (lout [(0 : Nat), (1 : Nat), (2 : Nat), (3 : Nat), (4 : Nat)] (rmS b1 b2 l to)) ((fun (x : Nat) => T.ret ()) (0 : Nat))) ∧ ((0 : Nat) = (0 : Nat) ∧ List.length l = List.length (moveL l to)) ∧ (List.length l = List.length (moveL l to) ∧ contLe (List.length l) (4 : Nat) (cellsOf' encP (moveL l to)) (cellsOf' encP (moveL l to))) ∧ True
set_option maxRecDepth 1000000 in
theorem vcRmv_eq (b1 : Bool) (b2 : Bool) (l : List Producer) (to : List Int) : (ctrVC Tryd.prog (rmvH b1 b2 l to) 44 [encPs b1 l, encU b2 to] [] (rowR (moveL l to))) = vcRmv b1 b2 l to := by kernel_rfl
theorem rmove_c (b1 b2 : Bool) (l : List Producer) (to : List Int) (hl : l.length * 32 ≤ 140737488355200) (ht : to.length ≤ 9223372036854775806) (ho : ∀ x ∈ l, 0 ≤ x.offset ∧ x.offset < 18446744073709551616) : (rowR (moveL l to)).Sat (ACall' Tryd.prog 44 [encPs b1 l, encU b2 to] []) := by
  refine ctr_vc (ht := rmvH b1 b2 l to) Tryd.mixed rfl ?_
  rw [vcRmv_eq b1 b2 l to]
  unfold vcRmv
  have hL := rm_loop b1 b2 l to hl ht ho 0
  simp [hL, moveL]
end Go.Proofs.YtckklclehofddaaDoor.P
