import Derived.Test.YtnbhdjadlbhknaaGreatDoorW1
import Derived.Test.YtnbhdjadlbhknaaGreatDoorW2
set_option linter.unusedVariables false
set_option linter.unusedSimpArgs false
set_option linter.unusedSectionVars false
/-! Producers: Both. -/
namespace Go.Proofs.YtnbhdjadlbhknaaGreatDoor.P
open Go.Ax
set_option maxRecDepth 1000000
def bst (s : List Producer) (x : Producer) : List Producer := if !findI s x.id || lat x (findD s x.id) then putL s x else s
def both (s m : List Producer) (k : Nat) : List Producer := (m.take k).foldl bst s
theorem mem_putL {l : List Producer} {x z : Producer} (h : z ∈ putL l x) : z = x ∨ z ∈ l := by
  unfold putL at h
  rw [List.mem_append, List.mem_cons] at h
  rcases h with h | h | h
  · exact Or.inr (List.mem_filter.1 (List.mem_of_mem_take h)).1
  · exact Or.inl h
  · exact Or.inr (List.mem_filter.1 (List.mem_of_mem_drop h)).1
theorem putL_pw (x : Producer) : ∀ l : List Producer, l.Pairwise (fun a b => a.id < b.id) → (putL l x).Pairwise (fun a b => a.id < b.id) := by
  intro l
  induction l with
  | nil => intro _; simp [putL, oth, below]
  | cons y t ih =>
    intro h
    have hp := List.pairwise_cons.1 h
    by_cases h1 : x.id ≤ y.id
    · rw [putL_ge h1 hp.1, List.pairwise_cons]
      refine ⟨fun z hz => ?_, h.filter _⟩
      have hz' := List.mem_filter.1 hz
      have h2 : ¬ z.id = x.id := by simpa [keep] using hz'.2
      rcases List.mem_cons.1 hz'.1 with h3 | h3
      · rw [h3] at h2 ⊢; omega
      · have := hp.1 z h3; omega
    · rw [putL_cons_lt (by omega), List.pairwise_cons]
      refine ⟨fun z hz => ?_, ih hp.2⟩
      rcases mem_putL hz with h3 | h3
      · rw [h3]; omega
      · exact hp.1 z h3
theorem putL_rising {l : List Producer} {x : Producer} (h : rising l) : rising (putL l x) := (rising_pw _).2 (putL_pw x l ((rising_pw l).1 h))
def rowE (r : List Producer) (e : Int) : T An := .ite (e == 0)
  (.ret (.tup [.own 0 4 0 r.length, .s (.int .i64 0)], [.row 80 4 r.length none (cellsOf' encP r)], []))
  (.ret (.tup [.s (.slice none 0 0), .y (.int .i64 e)], [], []))
noncomputable def tabN (b : Bool) (l : List Producer) : Ctr Tryz.prog := ⟨45, [encPs b l], [], .need (l.length ≤ 9223372036854775806) (tabR l), T.Sat.need fun h => table_c b l h⟩
/-! the document's -/
end Go.Proofs.YtnbhdjadlbhknaaGreatDoor.P

/-! Shards' states: may one be? the conditions. -/
namespace Go.Proofs.YtnbhdjadlbhknaaGreatDoor
open Go.Ax
set_option maxRecDepth 1000000
structure Part where
  rng : Rng
  epoch : Int
  frozen : Int
  recs : List Rec
  prods : List P.Producer
  cons : List Con
instance : Inhabited Part := ⟨⟨default, 0, 0, [], [], []⟩⟩
def encPt (b : Bool) (p : Part) : List AV := [.y (.string p.rng.lo), .y (.string p.rng.hi), .y (.int .u64 p.epoch), .y (.int .u64 p.frozen), encRs b p.recs, P.encPs b p.prods, encCs b p.cons]
/-! what is known of each producer -/
abbrev Kn := (Int → Bool) × (Int → Int)
abbrev Kn.put (s : Kn) (a b : Int) : Kn := (updHas s.1 a, updC s.2 a b)
abbrev Kn.sel (s : Kn) (a : Int) : Int := selI (s.1 a) (s.2 a)
def kn0 : Kn := (fun _ => false, fun _ => 0)
def knP (l : List P.Producer) : Kn := l.foldl (fun s x => s.put x.id x.seq) kn0
def knR (l : List Rec) : Kn := l.foldl (fun s x => s.put x.prod x.seq) kn0
theorem knP_step {l : List P.Producer} {k : Nat} (h : k < l.length) : knP (l.take (k + 1)) = (knP (l.take k)).put (l.getD k default).id (l.getD k default).seq := by
  unfold knP
  rw [List.take_add_one, List.foldl_append, List.getElem?_eq_getElem h]
  simp [List.getElem?_eq_getElem h]
theorem knR_step {l : List Rec} {k : Nat} (h : k < l.length) : knR (l.take (k + 1)) = (knR (l.take k)).put (l.getD k default).prod (l.getD k default).seq := by
  unfold knR
  rw [List.take_add_one, List.foldl_append, List.getElem?_eq_getElem h]
  simp [List.getElem?_eq_getElem h]
def mapB (s : Kn) : Blk := .mi .u64 .u64 s.1 s.2
def orM1 (b : Bool) (p : Part) (s : Kn) : List Blk := [.box 30 (encPt b p), mapB s]
def orT1 (b : Bool) (p : Part) (k : Nat) : List AV := mkT 61 [(1, .ptr 0 0 0 0), (3, .mref 1), (11, P.encPs b p.prods), (12, .y (.int .i64 p.prods.length)), (13, .y (.int .i64 k))]
def orS1 (b : Bool) (p : Part) (_ : Unit) : Exit × List AV × List Blk := (.exit 0, mkT 61 [(1, .ptr 0 0 0 0), (3, .mref 1)], orM1 b p (knP p.prods))
def jX9 : List Nat := [0, 1, 2, 3, 4, 5, 6, 7, 8, 9]
def vcOr1 (b : Bool) (p : Part) (k : Nat) : Prop :=
  (decide ((↑k : Int) < (↑(List.length p.prods) : Int)) = true → (true && decide ((↑k : Int) < (↑(List.length p.prods) : Int))) = true ∧ ∃ (j : Nat), List.length p.prods - j < List.length p.prods - k ∧ ((((0 : Nat) = (0 : Nat) ∧ (0 : Nat) = (0 : Nat)) ∧ True ∧ (b = b ∧ List.length p.prods = List.length p.prods ∧ contLe (List.length p.prods) (4 : Nat) (cellsOf' P.encP p.prods) (cellsOf' P.encP p.prods)) ∧ (↑(List.length p.prods) : Int) = (↑(List.length p.prods) : Int) ∧ IntKind.wrap IntKind.i64 ((↑k : Int) + (1 : Int)) = (↑j : Int) ∧ True) ∧ ((p.rng.lo = p.rng.lo ∧ p.rng.hi = p.rng.hi ∧ p.epoch = p.epoch ∧ p.frozen = p.frozen ∧ (b = b ∧ List.length p.recs = List.length p.recs ∧ contLe (List.length p.recs) (5 : Nat) (cellsOf' encR p.recs) (cellsOf' encR p.recs)) ∧ (b = b ∧ List.length p.prods = List.length p.prods ∧ contLe (List.length p.prods) (4 : Nat) (cellsOf' P.encP p.prods) (cellsOf' P.encP p.prods)) ∧ (b = b ∧ List.length p.cons = List.length p.cons ∧ contLe (List.length p.cons) (2 : Nat) (cellsOf' encC p.cons) (cellsOf' encC p.cons)) ∧ True) ∧ (IntKind.u64 = IntKind.u64 ∧ IntKind.u64 = IntKind.u64 ∧ ∀ (x : Int), updHas (knP (List.take k p.prods)).fst (List.getD p.prods (Int.toNat (↑k : Int)) (@default P.Producer P.instInhabitedProducer)).id x = (knP (List.take j p.prods)).fst x ∧ (updHas (knP (List.take k p.prods)).fst (List.getD p.prods (Int.toNat (↑k : Int)) (@default P.Producer P.instInhabitedProducer)).id x = true → updC (knP (List.take k p.prods)).snd (List.getD p.prods (Int.toNat (↑k : Int)) (@default P.Producer P.instInhabitedProducer)).id (List.getD p.prods (Int.toNat (↑k : Int)) (@default P.Producer P.instInhabitedProducer)).seq x = (knP (List.take j p.prods)).snd x)) ∧ True) ∧ true = true) ∧ true = true ∧ () = ()) ∧ (decide ((↑k : Int) < (↑(List.length p.prods) : Int)) = false → (((0 : Nat) = (0 : Nat) ∧ (0 : Nat) = (0 : Nat)) ∧ True ∧ True) ∧ ((p.rng.lo = p.rng.lo ∧ p.rng.hi = p.rng.hi ∧ p.epoch = p.epoch ∧ p.frozen = p.frozen ∧ (b = b ∧ List.length p.recs = List.length p.recs ∧ contLe (List.length p.recs) (5 : Nat) (cellsOf' encR p.recs) (cellsOf' encR p.recs)) ∧ (b = b ∧ List.length p.prods = List.length p.prods ∧ contLe (List.length p.prods) (4 : Nat) (cellsOf' P.encP p.prods) (cellsOf' P.encP p.prods)) ∧ (b = b ∧ List.length p.cons = List.length p.cons ∧ contLe (List.length p.cons) (2 : Nat) (cellsOf' encC p.cons) (cellsOf' encC p.cons)) ∧ True) ∧ (IntKind.u64 = IntKind.u64 ∧ IntKind.u64 = IntKind.u64 ∧ ∀ (x : Int), (knP (List.take k p.prods)).fst x = (knP p.prods).fst x ∧ ((knP (List.take k p.prods)).fst x = true → (knP (List.take k p.prods)).snd x = (knP p.prods).snd x)) ∧ True) ∧ true = true)
set_option maxRecDepth 1000000 in
theorem vcOr1_eq (b : Bool) (p : Part) (k : Nat) : (loopVC Tryz.prog (hT _) 47 3 (fun k => p.prods.length - k) (orT1 b p) (fun k => orM1 b p (knP (p.prods.take k))) jX9 (fun _ => .ret ()) (orS1 b p) k) = vcOr1 b p k := by kernel_rfl
def orM2 (b : Bool) (p : Part) (k : Nat) : List Blk := [.box 30 (encPt b p), mapB (knP p.prods), mapB (knR (p.recs.take k))]
def orT2 (b : Bool) (p : Part) (k : Nat) : List AV := mkT 61 [(1, .ptr 0 0 0 0), (3, .mref 1), (6, .mref 2), (25, encRs b p.recs), (26, .y (.int .i64 p.recs.length)), (27, .y (.int .i64 k))]
def orS2 (r : Bool) : Exit × List AV × List Blk := match r with
  | true => (.exit 2, mkT 61 [], [])
  | false => (.ret, mkT 61 [(2, .s (.bool false))], [])
def okO (p : Part) (k : Nat) : Bool :=
  let x := p.recs.getD k default
  hasK p.rng x.key && (!decide (x.seq ≤ (knR (p.recs.take k)).sel x.prod) && !decide ((knP p.prods).sel x.prod < x.seq))
def orFrom (p : Part) (k : Nat) : Bool := (List.range' k (p.recs.length - k)).all fun j => okO p j
theorem orFrom_end {p : Part} {k : Nat} (h : p.recs.length ≤ k) : orFrom p k = true := by
  unfold orFrom
  rw [show p.recs.length - k = 0 by omega]; rfl
theorem orFrom_step {p : Part} {k : Nat} (h : k < p.recs.length) : orFrom p k = (okO p k && orFrom p (k + 1)) := by
  unfold orFrom
  rw [show p.recs.length - k = (p.recs.length - (k + 1)) + 1 by omega, List.range'_succ]; rfl
def orO (p : Part) (k : Nat) : T Bool := .ite (orFrom p k) (.ret true) (.ret false)
noncomputable def orH2 (p : Part) (k : Nat) : HintsT Tryz.prog := hh _ noLp (cs1 47 11 4 (hasC p.rng (p.recs.getD k default).key) noCs) noOp
def vcOr2 (b : Bool) (p : Part) (k : Nat) : Prop :=
  (decide ((↑k : Int) < (↑(List.length p.recs) : Int)) = true → (true && decide ((↑k : Int) < (↑(List.length p.recs) : Int))) = true ∧ ((p.rng.lo = p.rng.lo ∧ p.rng.hi = p.rng.hi ∧ True) ∧ (List.getD p.recs (Int.toNat (↑k : Int)) (@default Rec instInhabitedRec)).key = (List.getD p.recs k (@default Rec instInhabitedRec)).key ∧ True) ∧ True ∧ ((!hasK p.rng (List.getD p.recs k (@default Rec instInhabitedRec)).key) = true → (orFrom p k = true → False) ∧ (orFrom p k = false → (false = false ∧ True) ∧ True ∧ true = true)) ∧ ((!hasK p.rng (List.getD p.recs k (@default Rec instInhabitedRec)).key) = false → (decide ((List.getD p.recs (Int.toNat (↑k : Int)) (@default Rec instInhabitedRec)).seq ≤ selI ((knR (List.take k p.recs)).fst (List.getD p.recs (Int.toNat (↑k : Int)) (@default Rec instInhabitedRec)).prod) ((knR (List.take k p.recs)).snd (List.getD p.recs (Int.toNat (↑k : Int)) (@default Rec instInhabitedRec)).prod)) = true → (orFrom p k = true → False) ∧ (orFrom p k = false → (false = false ∧ True) ∧ True ∧ true = true)) ∧ (decide ((List.getD p.recs (Int.toNat (↑k : Int)) (@default Rec instInhabitedRec)).seq ≤ selI ((knR (List.take k p.recs)).fst (List.getD p.recs (Int.toNat (↑k : Int)) (@default Rec instInhabitedRec)).prod) ((knR (List.take k p.recs)).snd (List.getD p.recs (Int.toNat (↑k : Int)) (@default Rec instInhabitedRec)).prod)) = false → (decide (selI ((knP p.prods).fst (List.getD p.recs (Int.toNat (↑k : Int)) (@default Rec instInhabitedRec)).prod) ((knP p.prods).snd (List.getD p.recs (Int.toNat (↑k : Int)) (@default Rec instInhabitedRec)).prod) < (List.getD p.recs (Int.toNat (↑k : Int)) (@default Rec instInhabitedRec)).seq) = true → (orFrom p k = true → False) ∧ (orFrom p k = false → (false = false ∧ True) ∧ True ∧ true = true)) ∧ (decide (selI ((knP p.prods).fst (List.getD p.recs (Int.toNat (↑k : Int)) (@default Rec instInhabitedRec)).prod) ((knP p.prods).snd (List.getD p.recs (Int.toNat (↑k : Int)) (@default Rec instInhabitedRec)).prod) < (List.getD p.recs (Int.toNat (↑k : Int)) (@default Rec instInhabitedRec)).seq) = false → ∃ (j : Nat), List.length p.recs - j < List.length p.recs - k ∧ ((((0 : Nat) = (0 : Nat) ∧ (0 : Nat) = (0 : Nat)) ∧ True ∧ True ∧ (b = b ∧ List.length p.recs = List.length p.recs ∧ contLe (List.length p.recs) (5 : Nat) (cellsOf' encR p.recs) (cellsOf' encR p.recs)) ∧ (↑(List.length p.recs) : Int) = (↑(List.length p.recs) : Int) ∧ IntKind.wrap IntKind.i64 ((↑k : Int) + (1 : Int)) = (↑j : Int) ∧ True) ∧ ((p.rng.lo = p.rng.lo ∧ p.rng.hi = p.rng.hi ∧ p.epoch = p.epoch ∧ p.frozen = p.frozen ∧ (b = b ∧ List.length p.recs = List.length p.recs ∧ contLe (List.length p.recs) (5 : Nat) (cellsOf' encR p.recs) (cellsOf' encR p.recs)) ∧ (b = b ∧ List.length p.prods = List.length p.prods ∧ contLe (List.length p.prods) (4 : Nat) (cellsOf' P.encP p.prods) (cellsOf' P.encP p.prods)) ∧ (b = b ∧ List.length p.cons = List.length p.cons ∧ contLe (List.length p.cons) (2 : Nat) (cellsOf' encC p.cons) (cellsOf' encC p.cons)) ∧ True) ∧ (IntKind.u64 = IntKind.u64 ∧ IntKind.u64 = IntKind.u64 ∧ ∀ (x : Int), (knP p.prods).fst x = (knP p.prods).fst x ∧ ((knP p.prods).fst x = true → (knP p.prods).snd x = (knP p.prods).snd x)) ∧ (IntKind.u64 = IntKind.u64 ∧ IntKind.u64 = IntKind.u64 ∧ ∀ (x : Int), updHas (knR (List.take k p.recs)).fst (List.getD p.recs (Int.toNat (↑k : Int)) (@default Rec instInhabitedRec)).prod x = (knR (List.take j p.recs)).fst x ∧ (updHas (knR (List.take k p.recs)).fst (List.getD p.recs (Int.toNat (↑k : Int)) (@default Rec instInhabitedRec)).prod x = true → updC (knR (List.take k p.recs)).snd (List.getD p.recs (Int.toNat (↑k : Int)) (@default Rec instInhabitedRec)).prod (List.getD p.recs (Int.toNat (↑k : Int)) (@default Rec instInhabitedRec)).seq x = (knR (List.take j p.recs)).snd x)) ∧ True) ∧ true = true) ∧ true = true ∧ (orFrom p j = true → (orFrom p k = true → true = true) ∧ (orFrom p k = false → true = false)) ∧ (orFrom p j = false → (orFrom p k = true → false = true) ∧ (orFrom p k = false → false = false)))))) ∧ (decide ((↑k : Int) < (↑(List.length p.recs) : Int)) = false → (orFrom p k = true → True ∧ True ∧ true = true) ∧ (orFrom p k = false → False))
set_option maxRecDepth 1000000 in
theorem vcOr2_eq (b : Bool) (p : Part) (k : Nat) : (loopVC Tryz.prog (orH2 p k) 47 9 (fun k => p.recs.length - k) (orT2 b p) (orM2 b p) jX9 (orO p) orS2 k) = vcOr2 b p k := by kernel_rfl
noncomputable def orH (b : Bool) (p : Part) : HintsT Tryz.prog := hh _ (lp1 47 3 (jobOf (orT1 b p) (fun k => orM1 b p (knP (p.prods.take k))) jX9 (fun _ => .ret ()) (orS1 b p) 0) (lp1 47 9 (jobOf (orT2 b p) (orM2 b p) jX9 (orO p) orS2 0) noLp)) noCs noOp
def vcOr (b : Bool) (p : Part) : Prop :=
  ((((0 : Nat) = (0 : Nat) ∧ (0 : Nat) = (0 : Nat)) ∧ True ∧ (b = b ∧ List.length p.prods = List.length p.prods ∧ contLe (List.length p.prods) (4 : Nat) (cellsOf' P.encP p.prods) (cellsOf' P.encP p.prods)) ∧ (↑(List.length p.prods) : Int) = (↑(List.length p.prods) : Int) ∧ (0 : Int) = (0 : Int) ∧ True) ∧ ((p.rng.lo = p.rng.lo ∧ p.rng.hi = p.rng.hi ∧ p.epoch = p.epoch ∧ p.frozen = p.frozen ∧ (b = b ∧ List.length p.recs = List.length p.recs ∧ contLe (List.length p.recs) (5 : Nat) (cellsOf' encR p.recs) (cellsOf' encR p.recs)) ∧ (b = b ∧ List.length p.prods = List.length p.prods ∧ contLe (List.length p.prods) (4 : Nat) (cellsOf' P.encP p.prods) (cellsOf' P.encP p.prods)) ∧ (b = b ∧ List.length p.cons = List.length p.cons ∧ contLe (List.length p.cons) (2 : Nat) (cellsOf' encC p.cons) (cellsOf' encC p.cons)) ∧ True) ∧ (∀ (x : Int), false = false) ∧ True) ∧ true = true) ∧ LoopOk Tryz.prog (47 : Nat) (3 : Nat) (loopAt Tryz.prog (47 : Nat) (3 : Nat)) { t := orT1 b p (0 : Nat), m := orM1 b p (knP (List.take (0 : Nat) p.prods)), mv := [] : St } (T.map (lout jX9 (orS1 b p)) ((fun (x : Nat) => T.ret ()) (0 : Nat))) ∧ ((((0 : Nat) = (0 : Nat) ∧ (0 : Nat) = (0 : Nat)) ∧ True ∧ True ∧ (b = b ∧ List.length p.recs = List.length p.recs ∧ contLe (List.length p.recs) (5 : Nat) (cellsOf' encR p.recs) (cellsOf' encR p.recs)) ∧ (↑(List.length p.recs) : Int) = (↑(List.length p.recs) : Int) ∧ (0 : Int) = (0 : Int) ∧ True) ∧ ((p.rng.lo = p.rng.lo ∧ p.rng.hi = p.rng.hi ∧ p.epoch = p.epoch ∧ p.frozen = p.frozen ∧ (b = b ∧ List.length p.recs = List.length p.recs ∧ contLe (List.length p.recs) (5 : Nat) (cellsOf' encR p.recs) (cellsOf' encR p.recs)) ∧ (b = b ∧ List.length p.prods = List.length p.prods ∧ contLe (List.length p.prods) (4 : Nat) (cellsOf' P.encP p.prods) (cellsOf' P.encP p.prods)) ∧ (b = b ∧ List.length p.cons = List.length p.cons ∧ contLe (List.length p.cons) (2 : Nat) (cellsOf' encC p.cons) (cellsOf' encC p.cons)) ∧ True) ∧ (IntKind.u64 = IntKind.u64 ∧ IntKind.u64 = IntKind.u64 ∧ ∀ (x : Int), (knP p.prods).fst x = (knP p.prods).fst x ∧ ((knP p.prods).fst x = true → (knP p.prods).snd x = (knP p.prods).snd x)) ∧ (∀ (x : Int), false = false) ∧ True) ∧ true = true) ∧ LoopOk Tryz.prog (47 : Nat) (9 : Nat) (loopAt Tryz.prog (47 : Nat) (9 : Nat)) { t := orT2 b p (0 : Nat), m := orM2 b p (0 : Nat), mv := [] : St } (T.map (lout jX9 orS2) (orO p (0 : Nat))) ∧ (orFrom p (0 : Nat) = true → true = orFrom p (0 : Nat) ∧ True) ∧ (orFrom p (0 : Nat) = false → false = orFrom p (0 : Nat) ∧ True)
set_option maxRecDepth 1000000 in
theorem vcOr_eq (b : Bool) (p : Part) : (ctrVC Tryz.prog (orH b p) 47 [.agg (encPt b p)] [] (boolR (orFrom p 0))) = vcOr b p := by kernel_rfl
end Go.Proofs.YtnbhdjadlbhknaaGreatDoor

/-! Shards' states: do records stand as their producers' numbers rise? the contract. -/
namespace Go.Proofs.YtnbhdjadlbhknaaGreatDoor
open Go.Ax
set_option maxRecDepth 1000000
theorem or1_loop (b : Bool) (p : Part) (hl : p.prods.length ≤ 9223372036854775806) (k : Nat) : LoopOk Tryz.prog 47 3 (loopAt Tryz.prog 47 3) ⟨orT1 b p k, orM1 b p (knP (p.prods.take k)), []⟩ (T.map (lout jX9 (orS1 b p)) (.ret ())) := by
  refine loop_vc (o := fun _ => .ret ()) (stT := fun k => orT1 b p k) (stM := fun k => orM1 b p (knP (p.prods.take k))) Tryz.mixed (fun _ => rfl) (fun k => (vcOr1_eq b p k).mpr ?_) k
  unfold vcOr1
  by_cases h : k < p.prods.length
  · have hw : IntKind.i64.wrap ((k : Int) + 1) = ((k + 1 : Nat) : Int) := by rw [wrap_i64 (by omega) (by omega)]; omega
    have hs := knP_step h
    have hz : decide ((k : Int) < p.prods.length) = true := by simp; omega
    rw [Int.toNat_natCast]
    simp only [hz]
    generalize p.prods.getD k default = x at *
    generalize knP (p.prods.take k) = s at *
    simp
    refine Exists.intro (k + 1) ?_
    rw [hs]
    refine ⟨by omega, hw, fun y => ⟨rfl, fun _ => rfl⟩⟩
  · have hz : decide ((k : Int) < p.prods.length) = false := by simp; omega
    rw [List.take_of_length_le (by omega)]
    simp [hz]
    exact fun e => absurd e h
theorem or2_loop (b : Bool) (p : Part) (hl : p.recs.length ≤ 9223372036854775806) (k : Nat) : LoopOk Tryz.prog 47 9 (loopAt Tryz.prog 47 9) ⟨orT2 b p k, orM2 b p k, []⟩ ((orO p k).map (lout jX9 orS2)) := by
  refine loop_vcH (o := orO p) (stT := orT2 b p) (stM := orM2 b p) Tryz.mixed (fun _ => rfl) (fun k => (vcOr2_eq b p k).mpr ?_) k
  unfold vcOr2
  by_cases h : k < p.recs.length
  · have hw : IntKind.i64.wrap ((k : Int) + 1) = ((k + 1 : Nat) : Int) := by rw [wrap_i64 (by omega) (by omega)]; omega
    have hs := knR_step h
    have hf := orFrom_step h
    have hz : decide ((k : Int) < p.recs.length) = true := by simp; omega
    have ho : okO p k = (hasK p.rng (p.recs.getD k default).key && (!decide ((p.recs.getD k default).seq ≤ (knR (p.recs.take k)).sel (p.recs.getD k default).prod) && !decide ((knP p.prods).sel (p.recs.getD k default).prod < (p.recs.getD k default).seq))) := rfl
    rw [Int.toNat_natCast]
    simp only [hz, hf, ho]
    generalize p.recs.getD k default = x at *
    generalize knR (p.recs.take k) = s at *
    cases h1 : hasK p.rng x.key
    · simp
    · by_cases h2 : x.seq ≤ s.sel x.prod
      · simp [h2]
      · by_cases h3 : (knP p.prods).sel x.prod < x.seq
        · simp [h2, h3]
        · simp [h2, h3]
          refine Exists.intro (k + 1) ?_
          rw [hs]
          refine ⟨by omega, ⟨hw, fun y => ⟨rfl, fun _ => rfl⟩⟩, ?_⟩
          cases orFrom p (k + 1) <;> simp
  · have hz : decide ((k : Int) < p.recs.length) = false := by simp; omega
    simp only [hz, orFrom_end (p := p) (k := k) (by omega)]
    simp
theorem or_c (b : Bool) (p : Part) (h1 : p.prods.length ≤ 9223372036854775806) (h2 : p.recs.length ≤ 9223372036854775806) : (boolR (orFrom p 0)).Sat (ACall' Tryz.prog 47 [.agg (encPt b p)] []) := by
  refine ctr_vc (ht := orH b p) Tryz.mixed rfl ?_
  rw [vcOr_eq b p]
  unfold vcOr
  have l1 := or1_loop b p h1 0
  have l2 := or2_loop b p h2 0
  rw [List.take_zero] at l1
  simp [l1, l2]
noncomputable def orC (b : Bool) (p : Part) : Ctr Tryz.prog := ⟨47, [.agg (encPt b p)], [], .need (p.prods.length ≤ 9223372036854775806 ∧ p.recs.length ≤ 9223372036854775806) (boolR (orFrom p 0)), T.Sat.need fun h => or_c b p h.1 h.2⟩
end Go.Proofs.YtnbhdjadlbhknaaGreatDoor

/-! Shards' states: producers without their record, consumers ahead. -/
namespace Go.Proofs.YtnbhdjadlbhknaaGreatDoor
open Go.Ax
set_option maxRecDepth 1000000
def lostB (p : Part) (x : P.Producer) : Bool := x.here && (decide ((p.recs.length : Int) ≤ x.offset) || ((p.recs.getD x.offset.toNat default).prod != x.id || (p.recs.getD x.offset.toNat default).seq != x.seq))
def lostE (b : Bool) (p : Part) : List AV := [.ip false 1 (get [.y (.int .u64 (IntKind.u64.wrap p.recs.length))]), .ip false 7 (get (encPt b p))]
def vcLost (b : Bool) (p : Part) (x : P.Producer) : Prop :=
  (x.here = true → (decide (IntKind.wrap IntKind.u64 (↑(List.length p.recs) : Int) ≤ x.offset) = true → true = lostB p x ∧ True) ∧ (decide (IntKind.wrap IntKind.u64 (↑(List.length p.recs) : Int) ≤ x.offset) = false → (decide ((0 : Int) ≤ x.offset) && decide (x.offset < (↑(List.length p.recs) : Int))) = true ∧ (((List.getD p.recs (Int.toNat x.offset) (@default Rec instInhabitedRec)).prod != x.id) = true → true = lostB p x ∧ True) ∧ (((List.getD p.recs (Int.toNat x.offset) (@default Rec instInhabitedRec)).prod != x.id) = false → (decide ((0 : Int) ≤ x.offset) && decide (x.offset < (↑(List.length p.recs) : Int))) = true ∧ ((List.getD p.recs (Int.toNat x.offset) (@default Rec instInhabitedRec)).seq != x.seq) = lostB p x ∧ True))) ∧ (x.here = false → false = lostB p x ∧ True)
set_option maxRecDepth 1000000 in
theorem vcLost_eq (b : Bool) (p : Part) (x : P.Producer) : (ctrVC Tryz.prog (hT _) 42 ([.agg (P.encP x)] ++ lostE b p) [] (boolR (lostB p x))) = vcLost b p x := by kernel_rfl
def aheadB (n : Nat) (x : Con) : Bool := decide ((n : Int) < x.off)
def aheadE (n : Nat) : List AV := [.ip false 1 (get [.y (.int .u64 (IntKind.u64.wrap n))])]
def vcAhead (n : Nat) (x : Con) : Prop :=
  decide (IntKind.wrap IntKind.u64 (↑n : Int) < x.off) = aheadB n x ∧ True
set_option maxRecDepth 1000000 in
theorem vcAhead_eq (n : Nat) (x : Con) : (ctrVC Tryz.prog (hT _) 43 ([.agg (encC x)] ++ aheadE n) [] (boolR (aheadB n x))) = vcAhead n x := by kernel_rfl
theorem lost_c (b : Bool) (p : Part) (x : P.Producer) (h1 : p.recs.length ≤ 9223372036854775806) (h2 : 0 ≤ x.offset) : (boolR (lostB p x)).Sat (ACall' Tryz.prog 42 ([.agg (P.encP x)] ++ lostE b p) []) := by
  refine ctr_vc (ht := hT _) Tryz.mixed rfl ?_
  rw [vcLost_eq b p x]
  unfold vcLost
  have hw : IntKind.u64.wrap (p.recs.length : Int) = p.recs.length := wrap_u64 (by omega) (by omega)
  simp only [hw]
  unfold lostB
  generalize p.recs.getD x.offset.toNat default = y
  cases hh : x.here
  · simp
  · by_cases h3 : (p.recs.length : Int) ≤ x.offset
    · simp [h3]
    · have h4 : x.offset < p.recs.length := by omega
      by_cases h5 : y.prod = x.id <;> by_cases h6 : y.seq = x.seq <;> simp [h3, h4, h2, h5, h6]
theorem ahead_c (n : Nat) (x : Con) (h1 : n ≤ 9223372036854775806) : (boolR (aheadB n x)).Sat (ACall' Tryz.prog 43 ([.agg (encC x)] ++ aheadE n) []) := by
  refine ctr_vc (ht := hT _) Tryz.mixed rfl ?_
  rw [vcAhead_eq n x]
  unfold vcAhead
  have hw : IntKind.u64.wrap (n : Int) = n := wrap_u64 (by omega) (by omega)
  simp [hw, aheadB]
/-! slices.IndexFunc, ContainsFunc over gazette/api.Producer by partfsm.Check$1 -/
def loFn (b : Bool) (p : Part) : AV := .fn (.func 42) [] (lostE b p)
def loAny (b : Bool) (p : Part) (l : List P.Producer) : Bool := l.any (lostB p)
theorem loAny_nil (b : Bool) (p : Part) : loAny b p [] = false := rfl
theorem loAny_cons (b : Bool) (p : Part) (y : P.Producer) (l : List P.Producer) : loAny b p (y :: l) = (lostB p y || loAny b p l) := rfl
noncomputable def loC (b : Bool) (p : Part) (x : P.Producer) : Ctr Tryz.prog := ⟨42, [.agg (P.encP x)] ++ (lostE b p), [], .need (p.recs.length ≤ 9223372036854775806 ∧ 0 ≤ x.offset) (boolR (lostB p x)), T.Sat.need fun h => lost_c b p x h.1 h.2⟩
def loT (b : Bool) (p : Part) (bb : Bool) (l : List P.Producer) (k : Nat) : List AV := mkT 19 [(0, .ys bb 4 l.length (cellsOf' P.encP l)), (1, loFn b p), (4, .s (.int .i64 0)), (7, .y (.int .i64 l.length)), (8, .y (.int .i64 k))]
def loS (r : Bool × Nat) : Exit × List AV × List Blk := match r.1 with
  | true => (.ret, mkT 19 [(4, .y (.int .i64 r.2))], [])
  | false => (.exit 0, mkT 19 [], [])
def loO (b : Bool) (p : Part) (l : List P.Producer) (k : Nat) : T (Bool × Nat) := .ite (loAny b p (l.drop k)) (.ret (true, k + (l.drop k).findIdx (lostB p))) (.ret (false, 0))
noncomputable def loHL (b : Bool) (p : Part) (l : List P.Producer) (k : Nat) : HintsT Tryz.prog := hh _ noLp (cs1 116 4 5 (loC b p (l.getD k default)) noCs) noOp
def vcloL (b : Bool) (p : Part) (bb : Bool) (l : List P.Producer) (k : Nat) : Prop :=
  (decide ((↑k : Int) < (↑(List.length l) : Int)) = true → (true && decide ((↑k : Int) < (↑(List.length l) : Int))) = true ∧ (((List.getD l (Int.toNat (↑k : Int)) (@default P.Producer P.instInhabitedProducer)).id = (List.getD l k (@default P.Producer P.instInhabitedProducer)).id ∧ (List.getD l (Int.toNat (↑k : Int)) (@default P.Producer P.instInhabitedProducer)).seq = (List.getD l k (@default P.Producer P.instInhabitedProducer)).seq ∧ (List.getD l (Int.toNat (↑k : Int)) (@default P.Producer P.instInhabitedProducer)).here = (List.getD l k (@default P.Producer P.instInhabitedProducer)).here ∧ (List.getD l (Int.toNat (↑k : Int)) (@default P.Producer P.instInhabitedProducer)).offset = (List.getD l k (@default P.Producer P.instInhabitedProducer)).offset ∧ True) ∧ (false = false ∧ (1 : Nat) ≤ (1 : Nat) ∧ cellLe (1 : Nat) (Ax.get [AV.y (Value.int IntKind.u64 (IntKind.wrap IntKind.u64 (↑(List.length p.recs) : Int)))]) (Ax.get [AV.y (Value.int IntKind.u64 (IntKind.wrap IntKind.u64 (↑(List.length p.recs) : Int)))])) ∧ (false = false ∧ (7 : Nat) ≤ (7 : Nat) ∧ cellLe (7 : Nat) (Ax.get [AV.y (Value.string p.rng.lo), AV.y (Value.string p.rng.hi), AV.y (Value.int IntKind.u64 p.epoch), AV.y (Value.int IntKind.u64 p.frozen), AV.ys b (5 : Nat) (List.length p.recs) (cellsOf' encR p.recs), AV.ys b (4 : Nat) (List.length p.prods) (cellsOf' P.encP p.prods), AV.ys b (2 : Nat) (List.length p.cons) (cellsOf' encC p.cons)]) (Ax.get [AV.y (Value.string p.rng.lo), AV.y (Value.string p.rng.hi), AV.y (Value.int IntKind.u64 p.epoch), AV.y (Value.int IntKind.u64 p.frozen), AV.ys b (5 : Nat) (List.length p.recs) (cellsOf' encR p.recs), AV.ys b (4 : Nat) (List.length p.prods) (cellsOf' P.encP p.prods), AV.ys b (2 : Nat) (List.length p.cons) (cellsOf' encC p.cons)])) ∧ True) ∧ True ∧ (List.length p.recs ≤ (9223372036854775806 : Nat) ∧ (0 : Int) ≤ (List.getD l k (@default P.Producer P.instInhabitedProducer)).offset) ∧ (lostB p (List.getD l k (@default P.Producer P.instInhabitedProducer)) = true → (loAny b p (List.drop k l) = true → ((↑k : Int) = (↑(k + List.findIdx (lostB p) (List.drop k l)) : Int) ∧ True) ∧ True ∧ true = true) ∧ (loAny b p (List.drop k l) = false → False)) ∧ (lostB p (List.getD l k (@default P.Producer P.instInhabitedProducer)) = false → ∃ (j : Nat), List.length l - j < List.length l - k ∧ (((bb = bb ∧ List.length l = List.length l ∧ contLe (List.length l) (4 : Nat) (cellsOf' P.encP l) (cellsOf' P.encP l)) ∧ (True ∧ (false = false ∧ (1 : Nat) ≤ (1 : Nat) ∧ cellLe (1 : Nat) (Ax.get [AV.y (Value.int IntKind.u64 (IntKind.wrap IntKind.u64 (↑(List.length p.recs) : Int)))]) (Ax.get [AV.y (Value.int IntKind.u64 (IntKind.wrap IntKind.u64 (↑(List.length p.recs) : Int)))])) ∧ (false = false ∧ (7 : Nat) ≤ (7 : Nat) ∧ cellLe (7 : Nat) (Ax.get [AV.y (Value.string p.rng.lo), AV.y (Value.string p.rng.hi), AV.y (Value.int IntKind.u64 p.epoch), AV.y (Value.int IntKind.u64 p.frozen), AV.ys b (5 : Nat) (List.length p.recs) (cellsOf' encR p.recs), AV.ys b (4 : Nat) (List.length p.prods) (cellsOf' P.encP p.prods), AV.ys b (2 : Nat) (List.length p.cons) (cellsOf' encC p.cons)]) (Ax.get [AV.y (Value.string p.rng.lo), AV.y (Value.string p.rng.hi), AV.y (Value.int IntKind.u64 p.epoch), AV.y (Value.int IntKind.u64 p.frozen), AV.ys b (5 : Nat) (List.length p.recs) (cellsOf' encR p.recs), AV.ys b (4 : Nat) (List.length p.prods) (cellsOf' P.encP p.prods), AV.ys b (2 : Nat) (List.length p.cons) (cellsOf' encC p.cons)])) ∧ True) ∧ (0 : Int) = (0 : Int) ∧ (↑(List.length l) : Int) = (↑(List.length l) : Int) ∧ IntKind.wrap IntKind.i64 ((↑k : Int) + (1 : Int)) = (↑j : Int) ∧ True) ∧ True ∧ true = true) ∧ true = true ∧ (loAny b p (List.drop j l) = true → (loAny b p (List.drop k l) = true → (true, j + List.findIdx (lostB p) (List.drop j l)) = (true, k + List.findIdx (lostB p) (List.drop k l))) ∧ (loAny b p (List.drop k l) = false → (true, j + List.findIdx (lostB p) (List.drop j l)) = (false, (0 : Nat)))) ∧ (loAny b p (List.drop j l) = false → (loAny b p (List.drop k l) = true → (false, (0 : Nat)) = (true, k + List.findIdx (lostB p) (List.drop k l))) ∧ (loAny b p (List.drop k l) = false → (false, (0 : Nat)) = (false, (0 : Nat)))))) ∧ (decide ((↑k : Int) < (↑(List.length l) : Int)) = false → (loAny b p (List.drop k l) = true → False) ∧ (loAny b p (List.drop k l) = false → True ∧ True ∧ true = true))
set_option maxRecDepth 1000000 in
theorem vcloL_eq (b : Bool) (p : Part) (bb : Bool) (l : List P.Producer) (k : Nat) : (loopVC Tryz.prog (loHL b p l k) 116 2 (fun k => l.length - k) (loT b p bb l) (fun _ => []) [0] (loO b p l) loS k) = vcloL b p bb l k := by kernel_rfl
theorem lo_loop (b : Bool) (p : Part) (bb : Bool) (l : List P.Producer) (hl : l.length ≤ 9223372036854775806) (hn : ∀ k, k < l.length → (p.recs.length ≤ 9223372036854775806 ∧ 0 ≤ (l.getD k default).offset)) (k : Nat) : LoopOk Tryz.prog 116 2 (loopAt Tryz.prog 116 2) ⟨loT b p bb l k, [], []⟩ ((loO b p l k).map (lout [0] loS)) := by
  refine loop_vcH (ht := fun k => loHL b p l k) Tryz.mixed (fun _ => rfl) (fun k => (vcloL_eq b p bb l k).mpr ?_) k
  unfold vcloL
  by_cases h : k < l.length
  · have hw : IntKind.i64.wrap ((k : Int) + 1) = ((k + 1 : Nat) : Int) := by rw [wrap_i64 (by omega) (by omega)]; omega
    have hz : decide ((k : Int) < l.length) = true := by simp; omega
    have hd : l.drop k = l.getD k default :: l.drop (k + 1) := by rw [drop_cons h]; simp
    have hk := hn k h
    rw [Int.toNat_natCast]
    simp only [hz, hd, loAny_cons, List.findIdx_cons]
    generalize l.getD k default = y at *
    cases hp : lostB p y
    · simp [hw, hk]
      exact ⟨k + 1, by omega, by omega, by grind⟩
    · simp [hk]
  · have hz : decide ((k : Int) < l.length) = false := by simp; omega
    simp only [hz, drop_end (Nat.le_of_not_lt h), loAny_nil]
    simp
noncomputable def loH (b : Bool) (p : Part) (bb : Bool) (l : List P.Producer) : HintsT Tryz.prog := hh _ (lp1 116 2 (jobOf (loT b p bb l) (fun _ => []) [0] (loO b p l) loS 0) noLp) noCs noOp
def vcloF (b : Bool) (p : Part) (bb : Bool) (l : List P.Producer) : Prop :=
  (((bb = bb ∧ List.length l = List.length l ∧ contLe (List.length l) (4 : Nat) (cellsOf' P.encP l) (cellsOf' P.encP l)) ∧ (True ∧ (false = false ∧ (1 : Nat) ≤ (1 : Nat) ∧ cellLe (1 : Nat) (Ax.get [AV.y (Value.int IntKind.u64 (IntKind.wrap IntKind.u64 (↑(List.length p.recs) : Int)))]) (Ax.get [AV.y (Value.int IntKind.u64 (IntKind.wrap IntKind.u64 (↑(List.length p.recs) : Int)))])) ∧ (false = false ∧ (7 : Nat) ≤ (7 : Nat) ∧ cellLe (7 : Nat) (Ax.get [AV.y (Value.string p.rng.lo), AV.y (Value.string p.rng.hi), AV.y (Value.int IntKind.u64 p.epoch), AV.y (Value.int IntKind.u64 p.frozen), AV.ys b (5 : Nat) (List.length p.recs) (cellsOf' encR p.recs), AV.ys b (4 : Nat) (List.length p.prods) (cellsOf' P.encP p.prods), AV.ys b (2 : Nat) (List.length p.cons) (cellsOf' encC p.cons)]) (Ax.get [AV.y (Value.string p.rng.lo), AV.y (Value.string p.rng.hi), AV.y (Value.int IntKind.u64 p.epoch), AV.y (Value.int IntKind.u64 p.frozen), AV.ys b (5 : Nat) (List.length p.recs) (cellsOf' encR p.recs), AV.ys b (4 : Nat) (List.length p.prods) (cellsOf' P.encP p.prods), AV.ys b (2 : Nat) (List.length p.cons) (cellsOf' encC p.cons)])) ∧ True) ∧ (0 : Int) = (0 : Int) ∧ (↑(List.length l) : Int) = (↑(List.length l) : Int) ∧ (0 : Int) = (0 : Int) ∧ True) ∧ True ∧ true = true) ∧ LoopOk Tryz.prog (116 : Nat) (2 : Nat) (loopAt Tryz.prog (116 : Nat) (2 : Nat)) { t := loT b p bb l (0 : Nat), m := [], mv := [] : St } (T.map (lout [(0 : Nat)] loS) (loO b p l (0 : Nat))) ∧ (loAny b p (List.drop (0 : Nat) l) = true → true = loAny b p l ∧ True) ∧ (loAny b p (List.drop (0 : Nat) l) = false → false = loAny b p l ∧ True)
set_option maxRecDepth 1000000 in
theorem vcloF_eq (b : Bool) (p : Part) (bb : Bool) (l : List P.Producer) : (ctrVC Tryz.prog (loH b p bb l) 48 [.ys bb 4 l.length (cellsOf' P.encP l), loFn b p] [] (boolR (loAny b p l))) = vcloF b p bb l := by kernel_rfl
theorem lo_has (b : Bool) (p : Part) (bb : Bool) (l : List P.Producer) (hl : l.length ≤ 9223372036854775806) (hn : ∀ k, k < l.length → (p.recs.length ≤ 9223372036854775806 ∧ 0 ≤ (l.getD k default).offset)) : (boolR (loAny b p l)).Sat (ACall' Tryz.prog 48 [.ys bb 4 l.length (cellsOf' P.encP l), loFn b p] []) := by
  refine ctr_vc (ht := loH b p bb l) Tryz.mixed rfl ?_
  rw [vcloF_eq b p bb l]
  unfold vcloF
  have := lo_loop b p bb l hl hn 0
  simp [this]
noncomputable def loHas (b : Bool) (p : Part) (bb : Bool) (l : List P.Producer) : Ctr Tryz.prog := ⟨48, [.ys bb 4 l.length (cellsOf' P.encP l), loFn b p], [], .need (l.length ≤ 9223372036854775806 ∧ ∀ k, k < l.length → (p.recs.length ≤ 9223372036854775806 ∧ 0 ≤ (l.getD k default).offset)) (boolR (loAny b p l)), T.Sat.need fun h => lo_has b p bb l h.1 h.2⟩
/-! slices.IndexFunc, ContainsFunc over gazette/api.Consumer by partfsm.Check$2 -/
def ahFn (m : Nat) : AV := .fn (.func 43) [] (aheadE m)
def ahAny (m : Nat) (l : List Con) : Bool := l.any (aheadB m)
theorem ahAny_nil (m : Nat) : ahAny m [] = false := rfl
theorem ahAny_cons (m : Nat) (y : Con) (l : List Con) : ahAny m (y :: l) = (aheadB m y || ahAny m l) := rfl
noncomputable def ahC (m : Nat) (x : Con) : Ctr Tryz.prog := ⟨43, [.agg (encC x)] ++ (aheadE m), [], .need (m ≤ 9223372036854775806) (boolR (aheadB m x)), T.Sat.need fun h => ahead_c m x h⟩
def ahT (m : Nat) (bb : Bool) (l : List Con) (k : Nat) : List AV := mkT 19 [(0, .ys bb 2 l.length (cellsOf' encC l)), (1, ahFn m), (4, .s (.int .i64 0)), (7, .y (.int .i64 l.length)), (8, .y (.int .i64 k))]
def ahS (r : Bool × Nat) : Exit × List AV × List Blk := match r.1 with
  | true => (.ret, mkT 19 [(4, .y (.int .i64 r.2))], [])
  | false => (.exit 0, mkT 19 [], [])
def ahO (m : Nat) (l : List Con) (k : Nat) : T (Bool × Nat) := .ite (ahAny m (l.drop k)) (.ret (true, k + (l.drop k).findIdx (aheadB m))) (.ret (false, 0))
noncomputable def ahHL (m : Nat) (l : List Con) (k : Nat) : HintsT Tryz.prog := hh _ noLp (cs1 117 4 5 (ahC m (l.getD k default)) noCs) noOp
def vcahL (m : Nat) (bb : Bool) (l : List Con) (k : Nat) : Prop :=
  (decide ((↑k : Int) < (↑(List.length l) : Int)) = true → (true && decide ((↑k : Int) < (↑(List.length l) : Int))) = true ∧ (((List.getD l (Int.toNat (↑k : Int)) (@default Con instInhabitedCon)).name = (List.getD l k (@default Con instInhabitedCon)).name ∧ (List.getD l (Int.toNat (↑k : Int)) (@default Con instInhabitedCon)).off = (List.getD l k (@default Con instInhabitedCon)).off ∧ True) ∧ (false = false ∧ (1 : Nat) ≤ (1 : Nat) ∧ cellLe (1 : Nat) (Ax.get [AV.y (Value.int IntKind.u64 (IntKind.wrap IntKind.u64 (↑m : Int)))]) (Ax.get [AV.y (Value.int IntKind.u64 (IntKind.wrap IntKind.u64 (↑m : Int)))])) ∧ True) ∧ True ∧ m ≤ (9223372036854775806 : Nat) ∧ (aheadB m (List.getD l k (@default Con instInhabitedCon)) = true → (ahAny m (List.drop k l) = true → ((↑k : Int) = (↑(k + List.findIdx (aheadB m) (List.drop k l)) : Int) ∧ True) ∧ True ∧ true = true) ∧ (ahAny m (List.drop k l) = false → False)) ∧ (aheadB m (List.getD l k (@default Con instInhabitedCon)) = false → ∃ (j : Nat), List.length l - j < List.length l - k ∧ (((bb = bb ∧ List.length l = List.length l ∧ contLe (List.length l) (2 : Nat) (cellsOf' encC l) (cellsOf' encC l)) ∧ (True ∧ (false = false ∧ (1 : Nat) ≤ (1 : Nat) ∧ cellLe (1 : Nat) (Ax.get [AV.y (Value.int IntKind.u64 (IntKind.wrap IntKind.u64 (↑m : Int)))]) (Ax.get [AV.y (Value.int IntKind.u64 (IntKind.wrap IntKind.u64 (↑m : Int)))])) ∧ True) ∧ (0 : Int) = (0 : Int) ∧ (↑(List.length l) : Int) = (↑(List.length l) : Int) ∧ IntKind.wrap IntKind.i64 ((↑k : Int) + (1 : Int)) = (↑j : Int) ∧ True) ∧ True ∧ true = true) ∧ true = true ∧ (ahAny m (List.drop j l) = true → (ahAny m (List.drop k l) = true → (true, j + List.findIdx (aheadB m) (List.drop j l)) = (true, k + List.findIdx (aheadB m) (List.drop k l))) ∧ (ahAny m (List.drop k l) = false → (true, j + List.findIdx (aheadB m) (List.drop j l)) = (false, (0 : Nat)))) ∧ (ahAny m (List.drop j l) = false → (ahAny m (List.drop k l) = true → (false, (0 : Nat)) = (true, k + List.findIdx (aheadB m) (List.drop k l))) ∧ (ahAny m (List.drop k l) = false → (false, (0 : Nat)) = (false, (0 : Nat)))))) ∧ (decide ((↑k : Int) < (↑(List.length l) : Int)) = false → (ahAny m (List.drop k l) = true → False) ∧ (ahAny m (List.drop k l) = false → True ∧ True ∧ true = true))
set_option maxRecDepth 1000000 in
theorem vcahL_eq (m : Nat) (bb : Bool) (l : List Con) (k : Nat) : (loopVC Tryz.prog (ahHL m l k) 117 2 (fun k => l.length - k) (ahT m bb l) (fun _ => []) [0] (ahO m l) ahS k) = vcahL m bb l k := by kernel_rfl
theorem ah_loop (m : Nat) (bb : Bool) (l : List Con) (hl : l.length ≤ 9223372036854775806) (hn : ∀ k, k < l.length → (m ≤ 9223372036854775806)) (k : Nat) : LoopOk Tryz.prog 117 2 (loopAt Tryz.prog 117 2) ⟨ahT m bb l k, [], []⟩ ((ahO m l k).map (lout [0] ahS)) := by
  refine loop_vcH (ht := fun k => ahHL m l k) Tryz.mixed (fun _ => rfl) (fun k => (vcahL_eq m bb l k).mpr ?_) k
  unfold vcahL
  by_cases h : k < l.length
  · have hw : IntKind.i64.wrap ((k : Int) + 1) = ((k + 1 : Nat) : Int) := by rw [wrap_i64 (by omega) (by omega)]; omega
    have hz : decide ((k : Int) < l.length) = true := by simp; omega
    have hd : l.drop k = l.getD k default :: l.drop (k + 1) := by rw [drop_cons h]; simp
    have hk := hn k h
    rw [Int.toNat_natCast]
    simp only [hz, hd, ahAny_cons, List.findIdx_cons]
    generalize l.getD k default = y at *
    cases hp : aheadB m y
    · simp [hw, hk]
      exact ⟨k + 1, by omega, by omega, by grind⟩
    · simp [hk]
  · have hz : decide ((k : Int) < l.length) = false := by simp; omega
    simp only [hz, drop_end (Nat.le_of_not_lt h), ahAny_nil]
    simp
noncomputable def ahH (m : Nat) (bb : Bool) (l : List Con) : HintsT Tryz.prog := hh _ (lp1 117 2 (jobOf (ahT m bb l) (fun _ => []) [0] (ahO m l) ahS 0) noLp) noCs noOp
def vcahF (m : Nat) (bb : Bool) (l : List Con) : Prop :=
  (((bb = bb ∧ List.length l = List.length l ∧ contLe (List.length l) (2 : Nat) (cellsOf' encC l) (cellsOf' encC l)) ∧ (True ∧ (false = false ∧ (1 : Nat) ≤ (1 : Nat) ∧ cellLe (1 : Nat) (Ax.get [AV.y (Value.int IntKind.u64 (IntKind.wrap IntKind.u64 (↑m : Int)))]) (Ax.get [AV.y (Value.int IntKind.u64 (IntKind.wrap IntKind.u64 (↑m : Int)))])) ∧ True) ∧ (0 : Int) = (0 : Int) ∧ (↑(List.length l) : Int) = (↑(List.length l) : Int) ∧ (0 : Int) = (0 : Int) ∧ True) ∧ True ∧ true = true) ∧ LoopOk Tryz.prog (117 : Nat) (2 : Nat) (loopAt Tryz.prog (117 : Nat) (2 : Nat)) { t := ahT m bb l (0 : Nat), m := [], mv := [] : St } (T.map (lout [(0 : Nat)] ahS) (ahO m l (0 : Nat))) ∧ (ahAny m (List.drop (0 : Nat) l) = true → true = ahAny m l ∧ True) ∧ (ahAny m (List.drop (0 : Nat) l) = false → false = ahAny m l ∧ True)
set_option maxRecDepth 1000000 in
theorem vcahF_eq (m : Nat) (bb : Bool) (l : List Con) : (ctrVC Tryz.prog (ahH m bb l) 49 [.ys bb 2 l.length (cellsOf' encC l), ahFn m] [] (boolR (ahAny m l))) = vcahF m bb l := by kernel_rfl
theorem ah_has (m : Nat) (bb : Bool) (l : List Con) (hl : l.length ≤ 9223372036854775806) (hn : ∀ k, k < l.length → (m ≤ 9223372036854775806)) : (boolR (ahAny m l)).Sat (ACall' Tryz.prog 49 [.ys bb 2 l.length (cellsOf' encC l), ahFn m] []) := by
  refine ctr_vc (ht := ahH m bb l) Tryz.mixed rfl ?_
  rw [vcahF_eq m bb l]
  unfold vcahF
  have := ah_loop m bb l hl hn 0
  simp [this]
noncomputable def ahHas (m : Nat) (bb : Bool) (l : List Con) : Ctr Tryz.prog := ⟨49, [.ys bb 2 l.length (cellsOf' encC l), ahFn m], [], .need (l.length ≤ 9223372036854775806 ∧ ∀ k, k < l.length → (m ≤ 9223372036854775806)) (boolR (ahAny m l)), T.Sat.need fun h => ah_has m bb l h.1 h.2⟩
end Go.Proofs.YtnbhdjadlbhknaaGreatDoor

/-! Shards' states: may one be? -/
namespace Go.Proofs.YtnbhdjadlbhknaaGreatDoor
open Go.Ax
set_option maxRecDepth 1000000
def partOk (p : Part) : Bool := (chkK p.rng == 0) && (!(p.epoch == 0) && (isLog p.recs && (P.isTable p.prods && (isCons p.cons && (orFrom p 0 && (!p.prods.any (lostB p) && !p.cons.any (aheadB p.recs.length)))))))
def errR (b : Bool) (e : Int) : T An := .ite b (.ret (.s (.int .i64 0), [], [])) (.ret (.s (.int .i64 e), [], []))
noncomputable def pcH (b : Bool) (p : Part) : HintsT Tryz.prog := hh _ noLp
  (cs1 14 4 2 (chkC p.rng) (cs1 14 6 2 (lgC b p.recs) (cs1 14 7 2 (P.tabN b p.prods) (cs1 14 8 2 (coC b p.cons)
  (cs1 14 10 1 (orC b p) (cs1 14 11 3 (loHas b p b p.prods) (cs1 14 12 3 (ahHas p.recs.length b p.cons) noCs))))))) noOp
def vcPc (b : Bool) (p : Part) : Prop :=
  ((p.rng.lo = p.rng.lo ∧ p.rng.hi = p.rng.hi ∧ True) ∧ True) ∧ True ∧ ((chkK p.rng != (0 : Int)) = true → (partOk p = true → (165 : Int) = (0 : Int) ∧ True) ∧ (partOk p = false → (165 : Int) = (165 : Int) ∧ True)) ∧ ((chkK p.rng != (0 : Int)) = false → ((p.epoch == (0 : Int)) = true → (partOk p = true → (165 : Int) = (0 : Int) ∧ True) ∧ (partOk p = false → (165 : Int) = (165 : Int) ∧ True)) ∧ ((p.epoch == (0 : Int)) = false → ((b = b ∧ List.length p.recs = List.length p.recs ∧ contLe (List.length p.recs) (5 : Nat) (cellsOf' encR p.recs) (cellsOf' encR p.recs)) ∧ True) ∧ True ∧ List.length p.recs ≤ (9223372036854775806 : Nat) ∧ ((!isLog p.recs) = true → (partOk p = true → (165 : Int) = (0 : Int) ∧ True) ∧ (partOk p = false → (165 : Int) = (165 : Int) ∧ True)) ∧ ((!isLog p.recs) = false → ((b = b ∧ List.length p.prods = List.length p.prods ∧ contLe (List.length p.prods) (4 : Nat) (cellsOf' P.encP p.prods) (cellsOf' P.encP p.prods)) ∧ True) ∧ True ∧ List.length p.prods ≤ (9223372036854775806 : Nat) ∧ ((!P.isTable p.prods) = true → (partOk p = true → (165 : Int) = (0 : Int) ∧ True) ∧ (partOk p = false → (165 : Int) = (165 : Int) ∧ True)) ∧ ((!P.isTable p.prods) = false → ((b = b ∧ List.length p.cons = List.length p.cons ∧ contLe (List.length p.cons) (2 : Nat) (cellsOf' encC p.cons) (cellsOf' encC p.cons)) ∧ True) ∧ True ∧ List.length p.cons ≤ (9223372036854775806 : Nat) ∧ ((!isCons p.cons) = true → (partOk p = true → (165 : Int) = (0 : Int) ∧ True) ∧ (partOk p = false → (165 : Int) = (165 : Int) ∧ True)) ∧ ((!isCons p.cons) = false → ((p.rng.lo = p.rng.lo ∧ p.rng.hi = p.rng.hi ∧ p.epoch = p.epoch ∧ p.frozen = p.frozen ∧ (b = b ∧ List.length p.recs = List.length p.recs ∧ contLe (List.length p.recs) (5 : Nat) (cellsOf' encR p.recs) (cellsOf' encR p.recs)) ∧ (b = b ∧ List.length p.prods = List.length p.prods ∧ contLe (List.length p.prods) (4 : Nat) (cellsOf' P.encP p.prods) (cellsOf' P.encP p.prods)) ∧ (b = b ∧ List.length p.cons = List.length p.cons ∧ contLe (List.length p.cons) (2 : Nat) (cellsOf' encC p.cons) (cellsOf' encC p.cons)) ∧ True) ∧ True) ∧ True ∧ (List.length p.prods ≤ (9223372036854775806 : Nat) ∧ List.length p.recs ≤ (9223372036854775806 : Nat)) ∧ ((!orFrom p (0 : Nat)) = true → (partOk p = true → (165 : Int) = (0 : Int) ∧ True) ∧ (partOk p = false → (165 : Int) = (165 : Int) ∧ True)) ∧ ((!orFrom p (0 : Nat)) = false → ((b = b ∧ List.length p.prods = List.length p.prods ∧ contLe (List.length p.prods) (4 : Nat) (cellsOf' P.encP p.prods) (cellsOf' P.encP p.prods)) ∧ (True ∧ (false = false ∧ (1 : Nat) ≤ (1 : Nat) ∧ cellLe (1 : Nat) (fun (j : Nat) => Ax.get [AV.y (Value.int IntKind.u64 (IntKind.wrap IntKind.u64 (↑(List.length p.recs) : Int)))] ((0 : Nat) + j)) (Ax.get [AV.y (Value.int IntKind.u64 (IntKind.wrap IntKind.u64 (↑(List.length p.recs) : Int)))])) ∧ (false = false ∧ (7 : Nat) ≤ (7 : Nat) ∧ cellLe (7 : Nat) (fun (j : Nat) => Ax.get [AV.y (Value.string p.rng.lo), AV.y (Value.string p.rng.hi), AV.y (Value.int IntKind.u64 p.epoch), AV.y (Value.int IntKind.u64 p.frozen), AV.ys b (5 : Nat) (List.length p.recs) (cellsOf' encR p.recs), AV.ys b (4 : Nat) (List.length p.prods) (cellsOf' P.encP p.prods), AV.ys b (2 : Nat) (List.length p.cons) (cellsOf' encC p.cons)] ((0 : Nat) + j)) (Ax.get [AV.y (Value.string p.rng.lo), AV.y (Value.string p.rng.hi), AV.y (Value.int IntKind.u64 p.epoch), AV.y (Value.int IntKind.u64 p.frozen), AV.ys b (5 : Nat) (List.length p.recs) (cellsOf' encR p.recs), AV.ys b (4 : Nat) (List.length p.prods) (cellsOf' P.encP p.prods), AV.ys b (2 : Nat) (List.length p.cons) (cellsOf' encC p.cons)])) ∧ True) ∧ True) ∧ True ∧ (List.length p.prods ≤ (9223372036854775806 : Nat) ∧ ∀ (k : Nat), k < List.length p.prods → List.length p.recs ≤ (9223372036854775806 : Nat) ∧ (0 : Int) ≤ (List.getD p.prods k (@default P.Producer P.instInhabitedProducer)).offset) ∧ true = true ∧ True ∧ (loAny b p p.prods = true → (partOk p = true → (165 : Int) = (0 : Int) ∧ True) ∧ (partOk p = false → (165 : Int) = (165 : Int) ∧ True)) ∧ (loAny b p p.prods = false → ((b = b ∧ List.length p.cons = List.length p.cons ∧ contLe (List.length p.cons) (2 : Nat) (cellsOf' encC p.cons) (cellsOf' encC p.cons)) ∧ (True ∧ (false = false ∧ (1 : Nat) ≤ (1 : Nat) ∧ cellLe (1 : Nat) (fun (j : Nat) => Ax.get [AV.y (Value.int IntKind.u64 (IntKind.wrap IntKind.u64 (↑(List.length p.recs) : Int)))] ((0 : Nat) + j)) (Ax.get [AV.y (Value.int IntKind.u64 (IntKind.wrap IntKind.u64 (↑(List.length p.recs) : Int)))])) ∧ True) ∧ True) ∧ True ∧ (List.length p.cons ≤ (9223372036854775806 : Nat) ∧ ∀ (k : Nat), k < List.length p.cons → List.length p.recs ≤ (9223372036854775806 : Nat)) ∧ true = true ∧ True ∧ (ahAny (List.length p.recs) p.cons = true → (partOk p = true → (165 : Int) = (0 : Int) ∧ True) ∧ (partOk p = false → (165 : Int) = (165 : Int) ∧ True)) ∧ (ahAny (List.length p.recs) p.cons = false → (partOk p = true → (0 : Int) = (0 : Int) ∧ True) ∧ (partOk p = false → (0 : Int) = (165 : Int) ∧ True)))))))))
set_option maxRecDepth 1000000 in
theorem vcPc_eq (b : Bool) (p : Part) : (ctrVC Tryz.prog (pcH b p) 14 [.agg (encPt b p)] [] (errR (partOk p) 165)) = vcPc b p := by kernel_rfl
structure PartIn (p : Part) : Prop where
  rl : p.recs.length ≤ 4611686018427387903
  pl : p.prods.length ≤ 4611686018427387903
  cl : p.cons.length ≤ 4611686018427387903
  po : ∀ k, k < p.prods.length → 0 ≤ (p.prods.getD k default).offset
theorem pc_c (b : Bool) (p : Part) (h : PartIn p) : (errR (partOk p) 165).Sat (ACall' Tryz.prog 14 [.agg (encPt b p)] []) := by
  refine ctr_vc (ht := pcH b p) Tryz.mixed rfl ?_
  rw [vcPc_eq b p]
  unfold vcPc
  obtain ⟨h1, h2, h3, h4⟩ := h
  have e1 : loAny b p p.prods = p.prods.any (lostB p) := rfl
  have e2 : ahAny p.recs.length p.cons = p.cons.any (aheadB p.recs.length) := rfl
  have hw : IntKind.u64.wrap (p.recs.length : Int) = p.recs.length := wrap_u64 (by omega) (by omega)
  simp only [e1, e2, hw]
  unfold partOk
  have g1 : p.recs.length ≤ 9223372036854775806 := by omega
  have g2 : p.prods.length ≤ 9223372036854775806 := by omega
  have g3 : p.cons.length ≤ 9223372036854775806 := by omega
  generalize orFrom p 0 = a1
  generalize p.prods.any (lostB p) = a2
  generalize p.cons.any (aheadB p.recs.length) = a3
  generalize isLog p.recs = a4
  generalize P.isTable p.prods = a5
  generalize isCons p.cons = a6
  by_cases c1 : chkK p.rng = 0 <;> by_cases c2 : p.epoch = 0 <;> cases a1 <;> cases a2 <;> cases a3 <;> cases a4 <;> cases a5 <;> cases a6 <;> simp [c1, c2, g1, g2, g3] <;> exact h4
noncomputable def pcC (b : Bool) (p : Part) : Ctr Tryz.prog := ⟨14, [.agg (encPt b p)], [], .need (PartIn p) (errR (partOk p) 165), T.Sat.need fun h => pc_c b p h⟩
end Go.Proofs.YtnbhdjadlbhknaaGreatDoor

/-! Shards' states: commands; logs in new memory, appended, fetched; a state in new memory: the conditions. -/
namespace Go.Proofs.YtnbhdjadlbhknaaGreatDoor.R
open Go.Ax
set_option maxRecDepth 1000000
structure Cmd where
  kind : Int
  epoch : Int
  prod : Int
  seq : Int
  key : ByteArray
  val : List Int
  off : Int
  most : Int
  name : ByteArray
  plan : Int
instance : Inhabited Cmd := ⟨⟨0, 0, 0, 0, ByteArray.empty, [], 0, 0, ByteArray.empty, 0⟩⟩
structure Res where
  err : Int
  off : Int
  old : Bool
  recs : List Rec
instance : Inhabited Res := ⟨⟨0, 0, false, []⟩⟩
def encCm (c : Cmd) : List AV := [.y (.int .i64 c.kind), .y (.int .u64 c.epoch), .y (.int .u64 c.prod), .y (.int .u64 c.seq), .y (.string c.key), encBs true c.val, .y (.int .u64 c.off), .y (.int .i64 c.most), .y (.string c.name), .y (.int .u64 c.plan)]
def encX (x : Res) : List AV := [.y (.int .i64 x.err), .y (.int .u64 x.off), .y (.bool x.old), encRs true x.recs]
/-- records that are numbered by unsigned 63 bits, not too many -/
structure OwOk (l : List Rec) : Prop where
  n : l.length ≤ 4096
  o : ∀ k, k < l.length → 0 ≤ (l.getD k default).off ∧ (l.getD k default).off ≤ 9223372036854775807
  v : ∀ k, k < l.length → (l.getD k default).val.length ≤ 140737488355328
def owT (b : Bool) (l : List Rec) (k : Nat) : List AV := mkT 26 [(3, .own 0 5 0 (l.take k).length), (10, encRs b l), (11, .y (.int .i64 l.length)), (12, .y (.int .i64 k))]
def owM (l : List Rec) (k : Nat) : List Blk := [rowR (l.take k)]
def owS (l : List Rec) (_ : Unit) : Exit × List AV × List Blk := (.exit 0, mkT 26 [(3, .own 0 5 0 l.length)], [rowR l])
noncomputable def owH (l : List Rec) (k : Nat) : HintsT Tryz.prog := hh _ noLp (cs1 141 5 5 (ownC (l.getD k default) (IntKind.i64.wrap (l.getD k default).off)) noCs) noOp
def vcOwL (b : Bool) (l : List Rec) (k : Nat) : Prop :=
  (decide ((↑k : Int) < (↑(List.length l) : Int)) = true → (true && decide ((↑k : Int) < (↑(List.length l) : Int))) = true ∧ (((List.getD l (Int.toNat (↑k : Int)) (@default Rec instInhabitedRec)).off = (List.getD l k (@default Rec instInhabitedRec)).off ∧ (List.getD l (Int.toNat (↑k : Int)) (@default Rec instInhabitedRec)).key = (List.getD l k (@default Rec instInhabitedRec)).key ∧ (true = true ∧ List.length (List.getD l (Int.toNat (↑k : Int)) (@default Rec instInhabitedRec)).val = List.length (List.getD l k (@default Rec instInhabitedRec)).val ∧ contLe (List.length (List.getD l (Int.toNat (↑k : Int)) (@default Rec instInhabitedRec)).val) (1 : Nat) (cellsOf' encB (List.getD l (Int.toNat (↑k : Int)) (@default Rec instInhabitedRec)).val) (cellsOf' encB (List.getD l k (@default Rec instInhabitedRec)).val)) ∧ (List.getD l (Int.toNat (↑k : Int)) (@default Rec instInhabitedRec)).prod = (List.getD l k (@default Rec instInhabitedRec)).prod ∧ (List.getD l (Int.toNat (↑k : Int)) (@default Rec instInhabitedRec)).seq = (List.getD l k (@default Rec instInhabitedRec)).seq ∧ True) ∧ IntKind.wrap IntKind.i64 (List.getD l (Int.toNat (↑k : Int)) (@default Rec instInhabitedRec)).off = IntKind.wrap IntKind.i64 (List.getD l k (@default Rec instInhabitedRec)).off ∧ True) ∧ True ∧ List.length (List.getD l k (@default Rec instInhabitedRec)).val ≤ (140737488355328 : Nat) ∧ (decide (List.length (List.take k l) = List.length (List.take k l)) && decide (List.length (List.take k l) + (1 : Nat) ≤ (9223372036854775807 : Nat)) && decide ((List.length (List.take k l) + (1 : Nat)) * (64 : Nat) ≤ (140737488355328 : Nat))) = true ∧ ∃ (j : Nat), List.length l - j < List.length l - k ∧ ((((0 : Nat) = (0 : Nat) ∧ List.length (List.take k l) + (1 : Nat) = List.length (List.take j l)) ∧ (b = b ∧ List.length l = List.length l ∧ contLe (List.length l) (5 : Nat) (cellsOf' encR l) (cellsOf' encR l)) ∧ (↑(List.length l) : Int) = (↑(List.length l) : Int) ∧ IntKind.wrap IntKind.i64 ((↑k : Int) + (1 : Int)) = (↑j : Int) ∧ True) ∧ ((List.length (List.take k l) + (1 : Nat) = List.length (List.take j l) ∧ contLe (List.length (List.take k l) + (1 : Nat)) (5 : Nat) (appRow (List.length (List.take k l)) (cellsOf' encR (List.take k l)) fun (k_1 j : Nat) => Ax.get [AV.y (Value.int IntKind.u64 (IntKind.wrap IntKind.u64 (IntKind.wrap IntKind.i64 (List.getD l k (@default Rec instInhabitedRec)).off))), AV.y (Value.string (List.getD l k (@default Rec instInhabitedRec)).key), AV.ys true (1 : Nat) (List.length (List.getD l k (@default Rec instInhabitedRec)).val) (cellsOf' encB (List.getD l k (@default Rec instInhabitedRec)).val), AV.y (Value.int IntKind.u64 (List.getD l k (@default Rec instInhabitedRec)).prod), AV.y (Value.int IntKind.u64 (List.getD l k (@default Rec instInhabitedRec)).seq)] (k_1 * (5 : Nat) + j)) (cellsOf' encR (List.take j l))) ∧ True) ∧ true = true) ∧ true = true ∧ () = ()) ∧ (decide ((↑k : Int) < (↑(List.length l) : Int)) = false → (((0 : Nat) = (0 : Nat) ∧ List.length (List.take k l) = List.length l) ∧ True) ∧ ((List.length (List.take k l) = List.length l ∧ contLe (List.length (List.take k l)) (5 : Nat) (cellsOf' encR (List.take k l)) (cellsOf' encR l)) ∧ True) ∧ true = true)
set_option maxRecDepth 1000000 in
theorem vcOwL_eq (b : Bool) (l : List Rec) (k : Nat) : (loopVC Tryz.prog (owH l k) 141 3 (fun k => l.length - k) (owT b l) (owM l) [0, 1, 2, 3, 4] (fun _ => .ret ()) (owS l) k) = vcOwL b l k := by kernel_rfl
def owR (l : List Rec) : T An := .ret (.own 0 5 0 l.length, [rowR l], [])
noncomputable def owdH (b : Bool) (l : List Rec) : HintsT Tryz.prog := hh _ (lp1 141 3 (jobOf (owT b l) (owM l) [0, 1, 2, 3, 4] (fun _ => .ret ()) (owS l) 0) noLp) noCs noOp
def vcOwd (b : Bool) (l : List Rec) : Prop :=
  (0 : Int) ≤ (0 : Int) ∧ (0 : Int) ≤ IntKind.wrap IntKind.i64 ((↑(List.length l) : Int) + (1 : Int)) ∧ (64 : Int) * IntKind.wrap IntKind.i64 ((↑(List.length l) : Int) + (1 : Int)) ≤ (281474976710656 : Int) ∧ IntKind.wrap IntKind.i64 ((↑(List.length l) : Int) + (1 : Int)) ≤ (9223372036854775807 : Int) ∧ ((((0 : Nat) = (0 : Nat) ∧ (0 : Nat) = (0 : Nat)) ∧ (b = b ∧ List.length l = List.length l ∧ contLe (List.length l) (5 : Nat) (cellsOf' encR l) (cellsOf' encR l)) ∧ (↑(List.length l) : Int) = (↑(List.length l) : Int) ∧ (0 : Int) = (0 : Int) ∧ True) ∧ (((0 : Nat) = (0 : Nat) ∧ contLe (0 : Nat) (5 : Nat) (fun (x j : Nat) => Ax.get [AV.s (Value.int IntKind.u64 (0 : Int)), AV.s (Value.string { data := #[] : ByteArray }), AV.s (Value.slice none (0 : Nat) (0 : Nat)), AV.s (Value.int IntKind.u64 (0 : Int)), AV.s (Value.int IntKind.u64 (0 : Int))] j) (cellsOf' encR [])) ∧ True) ∧ true = true) ∧ LoopOk Tryz.prog (141 : Nat) (3 : Nat) (loopAt Tryz.prog (141 : Nat) (3 : Nat)) { t := owT b l (0 : Nat), m := owM l (0 : Nat), mv := [] : St } (T.map (lout [(0 : Nat), (1 : Nat), (2 : Nat), (3 : Nat), (4 : Nat)] (owS l)) ((fun (x : Nat) => T.ret ()) (0 : Nat))) ∧ ((0 : Nat) = (0 : Nat) ∧ List.length l = List.length l) ∧ (List.length l = List.length l ∧ contLe (List.length l) (5 : Nat) (cellsOf' encR l) (cellsOf' encR l)) ∧ True
set_option maxRecDepth 1000000 in
theorem vcOwd_eq (b : Bool) (l : List Rec) : (ctrVC Tryz.prog (owdH b l) 141 [encRs b l] [] (owR l)) = vcOwd b l := by kernel_rfl
end Go.Proofs.YtnbhdjadlbhknaaGreatDoor.R

/-! Shards' states: logs in new memory; appended, fetched: the conditions. -/
namespace Go.Proofs.YtnbhdjadlbhknaaGreatDoor.R
open Go.Ax
set_option maxRecDepth 1000000
theorem app_rec (l : List Rec) (y : Rec) : contLe (l.length + 1) 5 (appRow l.length (cellsOf' encR l) fun k j => Ax.get [AV.y (Value.int IntKind.u64 y.off), AV.y (Value.string y.key), AV.ys true 1 y.val.length (cellsOf' encB y.val), AV.y (Value.int IntKind.u64 y.prod), AV.y (Value.int IntKind.u64 y.seq)] (k * 5 + j)) (cellsOf' encR (l ++ [y])) := app1_le rfl fun _ _ => le0_refl _
theorem ow_loop (b : Bool) (l : List Rec) (h : OwOk l) (k : Nat) : LoopOk Tryz.prog 141 3 (loopAt Tryz.prog 141 3) ⟨owT b l k, owM l k, []⟩ (T.map (lout [0, 1, 2, 3, 4] (owS l)) (.ret ())) := by
  refine loop_vcH (o := fun _ => .ret ()) (ht := owH l) (stT := owT b l) (stM := owM l) Tryz.mixed (fun _ => rfl) (fun k => (vcOwL_eq b l k).mpr ?_) k
  unfold vcOwL
  have hn := h.n
  by_cases hk : k < l.length
  · have hz : decide ((k : Int) < l.length) = true := by simp; omega
    obtain ⟨o1, o2⟩ := h.o k hk
    have hv := h.v k hk
    have hw : IntKind.i64.wrap ((k : Int) + 1) = ((k + 1 : Nat) : Int) := by rw [wrap_i64 (by omega) (by omega)]; omega
    have w1 : IntKind.i64.wrap (l.getD k default).off = (l.getD k default).off := wrap_i64 (by omega) (by omega)
    have w2 : IntKind.u64.wrap (l.getD k default).off = (l.getD k default).off := wrap_u64 (by omega) (by omega)
    have ht := take_one hk
    have hl : (l.take k).length = k := by simp; omega
    rw [Int.toNat_natCast]
    simp only [hz, hw, w1, w2]
    have e0 : (l.getD k default).to (l.getD k default).off = l.getD k default := rfl
    generalize l.getD k default = x at *

    simp
    have hm : min k l.length = k := by omega
    rw [hm]
    refine ⟨by omega, ⟨by omega, by omega⟩, k + 1, by omega, ⟨by omega, by omega⟩, by omega, ?_⟩
    rw [ht]
    have := app_rec (l.take k) x
    rw [hl] at this
    exact this
  · have hz : decide ((k : Int) < l.length) = false := by simp; omega
    have e1 : l.take k = l := List.take_of_length_le (by omega)
    simp only [hz]
    simp [e1]
theorem owd_c (b : Bool) (l : List Rec) (h : OwOk l) : (owR l).Sat (ACall' Tryz.prog 141 [encRs b l] []) := by
  refine ctr_vc (ht := owdH b l) Tryz.mixed rfl ?_
  rw [vcOwd_eq b l]
  unfold vcOwd
  have hn := h.n
  have lp := ow_loop b l h 0
  have hw : IntKind.i64.wrap ((l.length : Int) + 1) = ((l.length + 1 : Nat) : Int) := by rw [wrap_i64 (by omega) (by omega)]; omega
  rw [hw]
  simp [lp]
  omega
noncomputable def owdC (b : Bool) (l : List Rec) : Ctr Tryz.prog := ⟨141, [encRs b l], [], .need (OwOk l) (owR l), T.Sat.need fun h => owd_c b l h⟩
/-! appended, fetched -/
def appE (l : List Rec) (x : Rec) : Int := if !isLog l then 1 else if 32 < x.key.size then 131 else if 256 < x.val.length then 144 else if l.length = 4096 then 143 else 0
def appL (l : List Rec) (x : Rec) : List Rec := l ++ [x.to (IntKind.u64.wrap (l.length : Nat))]
def apT (l : List Rec) (x : Rec) : T An := .ite (appE l x == 0) (.ret (.tup [.own 0 5 0 (appL l x).length, .y (.int .u64 l.length), .s (.int .i64 0)], [rowR (appL l x)], [])) (.ret (.tup [.s (.slice none 0 0), .y (.int .u64 0), .y (.int .i64 (appE l x))], [], []))
noncomputable def apH (b : Bool) (l : List Rec) (x : Rec) : HintsT Tryz.prog := hh _ noLp (cs1 134 1 1 (lgC b l) (cs1 134 9 1 (owdC b l) (cs1 134 9 5 (ownC x l.length) noCs))) noOp
def vcAp (b : Bool) (l : List Rec) (x : Rec) : Prop :=
  ((b = b ∧ List.length l = List.length l ∧ contLe (List.length l) (5 : Nat) (cellsOf' encR l) (cellsOf' encR l)) ∧ True) ∧ True ∧ List.length l ≤ (9223372036854775806 : Nat) ∧ ((!isLog l) = true → ((appE l x == (0 : Int)) = true → (False ∧ (0 : Int) = (↑(List.length l) : Int) ∧ (1 : Int) = (0 : Int) ∧ True) ∧ False) ∧ ((appE l x == (0 : Int)) = false → (True ∧ (0 : Int) = (0 : Int) ∧ (1 : Int) = appE l x ∧ True) ∧ True)) ∧ ((!isLog l) = false → (decide ((32 : Int) < (↑(ByteArray.size x.key) : Int)) = true → ((appE l x == (0 : Int)) = true → (False ∧ (0 : Int) = (↑(List.length l) : Int) ∧ (131 : Int) = (0 : Int) ∧ True) ∧ False) ∧ ((appE l x == (0 : Int)) = false → (True ∧ (0 : Int) = (0 : Int) ∧ (131 : Int) = appE l x ∧ True) ∧ True)) ∧ (decide ((32 : Int) < (↑(ByteArray.size x.key) : Int)) = false → (decide ((256 : Int) < (↑(List.length x.val) : Int)) = true → ((appE l x == (0 : Int)) = true → (False ∧ (0 : Int) = (↑(List.length l) : Int) ∧ (144 : Int) = (0 : Int) ∧ True) ∧ False) ∧ ((appE l x == (0 : Int)) = false → (True ∧ (0 : Int) = (0 : Int) ∧ (144 : Int) = appE l x ∧ True) ∧ True)) ∧ (decide ((256 : Int) < (↑(List.length x.val) : Int)) = false → (((↑(List.length l) : Int) == (4096 : Int)) = true → ((appE l x == (0 : Int)) = true → (False ∧ (0 : Int) = (↑(List.length l) : Int) ∧ (143 : Int) = (0 : Int) ∧ True) ∧ False) ∧ ((appE l x == (0 : Int)) = false → (True ∧ (0 : Int) = (0 : Int) ∧ (143 : Int) = appE l x ∧ True) ∧ True)) ∧ (((↑(List.length l) : Int) == (4096 : Int)) = false → ((b = b ∧ List.length l = List.length l ∧ contLe (List.length l) (5 : Nat) (cellsOf' encR l) (cellsOf' encR l)) ∧ True) ∧ True ∧ OwOk l ∧ ((x.off = x.off ∧ x.key = x.key ∧ (true = true ∧ List.length x.val = List.length x.val ∧ contLe (List.length x.val) (1 : Nat) (cellsOf' encB x.val) (cellsOf' encB x.val)) ∧ x.prod = x.prod ∧ x.seq = x.seq ∧ True) ∧ (↑(List.length l) : Int) = (↑(List.length l) : Int) ∧ True) ∧ True ∧ List.length x.val ≤ (140737488355328 : Nat) ∧ (decide (List.length l = List.length l) && decide (List.length l + (1 : Nat) ≤ (9223372036854775807 : Nat)) && decide ((List.length l + (1 : Nat)) * (64 : Nat) ≤ (140737488355328 : Nat))) = true ∧ ((appE l x == (0 : Int)) = true → (((0 : Nat) = (0 : Nat) ∧ List.length l + (1 : Nat) = List.length (appL l x)) ∧ IntKind.wrap IntKind.u64 (↑(List.length l) : Int) = (↑(List.length l) : Int) ∧ (0 : Int) = (0 : Int) ∧ True) ∧ (List.length l + (1 : Nat) = List.length (appL l x) ∧ contLe (List.length l + (1 : Nat)) (5 : Nat) (appRow (List.length l) (cellsOf' encR l) fun (k j : Nat) => Ax.get [AV.y (Value.int IntKind.u64 (IntKind.wrap IntKind.u64 (↑(List.length l) : Int))), AV.y (Value.string x.key), AV.ys true (1 : Nat) (List.length x.val) (cellsOf' encB x.val), AV.y (Value.int IntKind.u64 x.prod), AV.y (Value.int IntKind.u64 x.seq)] (k * (5 : Nat) + j)) (cellsOf' encR (appL l x))) ∧ True) ∧ ((appE l x == (0 : Int)) = false → False)))))
set_option maxRecDepth 1000000 in
theorem vcAp_eq (b : Bool) (l : List Rec) (x : Rec) : (ctrVC Tryz.prog (apH b l x) 134 [encRs b l, .agg (encR x)] [] (apT l x)) = vcAp b l x := by kernel_rfl
def fetN (n : Nat) (o m : Int) : Int := if ((n - o.toNat : Nat) : Int) < (if (64 : Int) < (if (0 : Int) > m then (0 : Int) else m) then (64 : Int) else if (0 : Int) > m then (0 : Int) else m) then ((n - o.toNat : Nat) : Int) else (if (64 : Int) < (if (0 : Int) > m then (0 : Int) else m) then (64 : Int) else if (0 : Int) > m then (0 : Int) else m)
theorem fet_b (n : Nat) (o m : Int) : 0 ≤ fetN n o m ∧ fetN n o m ≤ (n - o.toNat : Nat) ∧ fetN n o m ≤ 64 := by
  unfold fetN
  split <;> split <;> split <;> omega
def fetL (l : List Rec) (o m : Int) : List Rec := (l.drop o.toNat).take (fetN l.length o m).toNat
def feE (l : List Rec) (o : Int) : Int := if !isLog l then 1 else if (l.length : Int) < o then 141 else 0
def feT (l : List Rec) (o m : Int) : T An := .ite (feE l o == 0) (.ret (.tup [.own 0 5 0 (fetL l o m).length, .s (.int .i64 0)], [rowR (fetL l o m)], [])) (.ret (.tup [.s (.slice none 0 0), .y (.int .i64 (feE l o))], [], []))
noncomputable def feH (b : Bool) (l : List Rec) (o m : Int) : HintsT Tryz.prog := hh _ noLp (cs1 109 1 1 (lgC b l) (cs1 109 6 7 (owdC b (fetL l o m)) noCs)) noOp
def vcFe (b : Bool) (l : List Rec) (o : Int) (m : Int) : Prop :=
  ((b = b ∧ List.length l = List.length l ∧ contLe (List.length l) (5 : Nat) (cellsOf' encR l) (cellsOf' encR l)) ∧ True) ∧ True ∧ List.length l ≤ (9223372036854775806 : Nat) ∧ ((!isLog l) = true → ((feE l o == (0 : Int)) = true → (False ∧ (1 : Int) = (0 : Int) ∧ True) ∧ False) ∧ ((feE l o == (0 : Int)) = false → (True ∧ (1 : Int) = feE l o ∧ True) ∧ True)) ∧ ((!isLog l) = false → (decide (IntKind.wrap IntKind.u64 (↑(List.length l) : Int) < o) = true → ((feE l o == (0 : Int)) = true → (False ∧ (141 : Int) = (0 : Int) ∧ True) ∧ False) ∧ ((feE l o == (0 : Int)) = false → (True ∧ (141 : Int) = feE l o ∧ True) ∧ True)) ∧ (decide (IntKind.wrap IntKind.u64 (↑(List.length l) : Int) < o) = false → (decide ((0 : Int) ≤ o) && decide (o ≤ (↑(List.length l) : Int)) && decide ((↑(List.length l) : Int) ≤ (↑(List.length l) : Int))) = true ∧ (true && decide ((0 : Int) ≤ if (↑(Int.toNat (↑(List.length l) : Int) - Int.toNat o) : Int) < if (64 : Int) < if (0 : Int) > m then (0 : Int) else m then (64 : Int) else if (0 : Int) > m then (0 : Int) else m then (↑(Int.toNat (↑(List.length l) : Int) - Int.toNat o) : Int) else if (64 : Int) < if (0 : Int) > m then (0 : Int) else m then (64 : Int) else if (0 : Int) > m then (0 : Int) else m) && decide ((if (↑(Int.toNat (↑(List.length l) : Int) - Int.toNat o) : Int) < if (64 : Int) < if (0 : Int) > m then (0 : Int) else m then (64 : Int) else if (0 : Int) > m then (0 : Int) else m then (↑(Int.toNat (↑(List.length l) : Int) - Int.toNat o) : Int) else if (64 : Int) < if (0 : Int) > m then (0 : Int) else m then (64 : Int) else if (0 : Int) > m then (0 : Int) else m) ≤ (↑(Int.toNat (↑(List.length l) : Int) - Int.toNat o) : Int))) = true ∧ ((b = b ∧ Int.toNat (if (↑(Int.toNat (↑(List.length l) : Int) - Int.toNat o) : Int) < if (64 : Int) < if (0 : Int) > m then (0 : Int) else m then (64 : Int) else if (0 : Int) > m then (0 : Int) else m then (↑(Int.toNat (↑(List.length l) : Int) - Int.toNat o) : Int) else if (64 : Int) < if (0 : Int) > m then (0 : Int) else m then (64 : Int) else if (0 : Int) > m then (0 : Int) else m) - (0 : Nat) = List.length (fetL l o m) ∧ contLe (Int.toNat (if (↑(Int.toNat (↑(List.length l) : Int) - Int.toNat o) : Int) < if (64 : Int) < if (0 : Int) > m then (0 : Int) else m then (64 : Int) else if (0 : Int) > m then (0 : Int) else m then (↑(Int.toNat (↑(List.length l) : Int) - Int.toNat o) : Int) else if (64 : Int) < if (0 : Int) > m then (0 : Int) else m then (64 : Int) else if (0 : Int) > m then (0 : Int) else m) - (0 : Nat)) (5 : Nat) (fun (k : Nat) => cellsOf' encR l (Int.toNat o + ((0 : Nat) + k))) (cellsOf' encR (fetL l o m))) ∧ True) ∧ True ∧ OwOk (fetL l o m) ∧ ((feE l o == (0 : Int)) = true → (((0 : Nat) = (0 : Nat) ∧ List.length (fetL l o m) = List.length (fetL l o m)) ∧ (0 : Int) = (0 : Int) ∧ True) ∧ (List.length (fetL l o m) = List.length (fetL l o m) ∧ contLe (List.length (fetL l o m)) (5 : Nat) (cellsOf' encR (fetL l o m)) (cellsOf' encR (fetL l o m))) ∧ True) ∧ ((feE l o == (0 : Int)) = false → False)))
set_option maxRecDepth 1000000 in
theorem vcFe_eq (b : Bool) (l : List Rec) (o : Int) (m : Int) : (ctrVC Tryz.prog (feH b l o m) 109 [encRs b l, .y (.int .u64 o), .y (.int .i64 m)] [] (feT l o m)) = vcFe b l o m := by kernel_rfl
end Go.Proofs.YtnbhdjadlbhknaaGreatDoor.R

/-! Shards' states: logs appended, fetched; a state in new memory, a command that is well formed: the conditions. -/
namespace Go.Proofs.YtnbhdjadlbhknaaGreatDoor.R
open Go.Ax
set_option maxRecDepth 1000000
theorem log_ow {l : List Rec} (h : isLog l = true) : OwOk l := by
  have h1 := log_len h
  refine ⟨h1, fun k hk => ?_, fun k hk => ?_⟩
  · simp only [isLog, Bool.and_eq_true] at h
    have h2 := h.1
    unfold logFrom at h2
    rw [List.all_eq_true] at h2
    have h3 := h2 k (by simp; omega)
    simp only [okR, Bool.and_eq_true] at h3
    have h4 := h3.1
    simp at h4
    rw [wrap_u64 (by omega) (by omega)] at h4
    simp
    omega
  · have := log_val h hk
    omega
theorem ow_sub {l : List Rec} (h : OwOk l) (a b : Nat) : OwOk ((l.drop a).take b) := by
  have h1 := h.n
  have e : ∀ k, k < ((l.drop a).take b).length → ((l.drop a).take b).getD k default = l.getD (a + k) default ∧ a + k < l.length := fun k hk => by
    simp at hk
    have h3 : a + k < l.length := by omega
    refine ⟨?_, h3⟩
    have h4 : k < b := by omega
    simp [List.getElem?_take, h3, h4]
  refine ⟨by simp; omega, fun k hk => ?_, fun k hk => ?_⟩
  · obtain ⟨e1, e2⟩ := e k hk
    rw [e1]; exact h.o _ e2
  · obtain ⟨e1, e2⟩ := e k hk
    rw [e1]; exact h.v _ e2
theorem ap_c (b : Bool) (l : List Rec) (x : Rec) (hl : l.length ≤ 9223372036854775806) : (apT l x).Sat (ACall' Tryz.prog 134 [encRs b l, .agg (encR x)] []) := by
  refine ctr_vc (ht := apH b l x) Tryz.mixed rfl ?_
  rw [vcAp_eq b l x]
  unfold vcAp
  cases h1 : isLog l
  · simp [appE, h1, hl]
  · have hn := log_len h1
    have ho := log_ow h1
    by_cases h2 : 32 < x.key.size
    · have h2' : (32 : Int) < x.key.size := by omega
      simp [appE, h1, hl, h2, h2']
    · have h2' : ¬ (32 : Int) < x.key.size := by omega
      by_cases h3 : 256 < x.val.length
      · have h3' : (256 : Int) < x.val.length := by omega
        simp [appE, h1, hl, h2, h2', h3, h3']
      · have h3' : ¬ (256 : Int) < x.val.length := by omega
        by_cases h4 : l.length = 4096
        · have h4' : (l.length : Int) = 4096 := by omega
          simp [appE, h1, hl, h2, h2', h3, h3', h4]
        · have h4' : ¬ (l.length : Int) = 4096 := by omega
          have hw : IntKind.u64.wrap (l.length : Int) = l.length := wrap_u64 (by omega) (by omega)
          have ha := app_rec l (x.to (IntKind.u64.wrap (l.length : Nat)))
          simp [appE, h1, hl, h2, h2', h3, h3', h4, h4', ho, hw, appL]
          rw [hw] at ha
          exact ⟨by omega, by omega, ha⟩
theorem fe_c (b : Bool) (l : List Rec) (o m : Int) (hl : l.length ≤ 9223372036854775806) (h0 : 0 ≤ o) : (feT l o m).Sat (ACall' Tryz.prog 109 [encRs b l, .y (.int .u64 o), .y (.int .i64 m)] []) := by
  refine ctr_vc (ht := feH b l o m) Tryz.mixed rfl ?_
  rw [vcFe_eq b l o m]
  unfold vcFe
  cases h1 : isLog l
  · simp [feE, h1, hl]
  · have hn := log_len h1
    have ho := log_ow h1
    have hw : IntKind.u64.wrap (l.length : Int) = l.length := wrap_u64 (by omega) (by omega)
    rw [hw]
    by_cases h2 : (l.length : Int) < o
    · simp [feE, h1, hl, h2]
    · have h2' : o ≤ (l.length : Int) := by omega
      have hs := ow_sub ho o.toNat (fetN l.length o m).toNat
      obtain ⟨b1, b2, b3⟩ := fet_b l.length o m
      have hL : (fetL l o m).length = (fetN l.length o m).toNat := by
        unfold fetL
        simp
        omega
      have hc : contLe (fetN l.length o m).toNat 5 (fun k => cellsOf' encR l (o.toNat + (0 + k))) (cellsOf' encR (fetL l o m)) := by
        intro k hk j hj
        unfold fetL cellsOf'
        simp [List.getElem?_take, hk]
      rw [Int.toNat_natCast]
      have e1 : (if ((l.length - o.toNat : Nat) : Int) < (if (64 : Int) < (if (0 : Int) > m then (0 : Int) else m) then (64 : Int) else if (0 : Int) > m then (0 : Int) else m) then ((l.length - o.toNat : Nat) : Int) else (if (64 : Int) < (if (0 : Int) > m then (0 : Int) else m) then (64 : Int) else if (0 : Int) > m then (0 : Int) else m)) = fetN l.length o m := rfl
      rw [e1]
      have hs2 : OwOk (fetL l o m) := hs
      clear hs
      generalize fetL l o m = z at *
      generalize fetN l.length o m = n at *
      simp only [Nat.sub_zero, hL]
      have t1 : decide (0 ≤ n) = true := by simp; omega
      have t2 : decide (n ≤ ((l.length - o.toNat : Nat) : Int)) = true := by simp; omega
      simp only [t1, t2, hc, hs2, hL]
      simp [feE, h1, hl, h2, h2', h0]
noncomputable def apC (l : List Rec) (x : Rec) (b : Bool) : Ctr Tryz.prog := ⟨134, [encRs b l, .agg (encR x)], [], .need (l.length ≤ 9223372036854775806) (apT l x), T.Sat.need fun h => ap_c b l x h⟩
noncomputable def feC (b : Bool) (l : List Rec) (o m : Int) : Ctr Tryz.prog := ⟨109, [encRs b l, .y (.int .u64 o), .y (.int .i64 m)], [], .need (l.length ≤ 9223372036854775806 ∧ 0 ≤ o) (feT l o m), T.Sat.need fun h => fe_c b l o m h.1 h.2⟩
end Go.Proofs.YtnbhdjadlbhknaaGreatDoor.R

/-! Shards' states: a state in new memory; a command that is well formed: the conditions. -/
namespace Go.Proofs.YtnbhdjadlbhknaaGreatDoor.R
open Go.Ax
set_option maxRecDepth 1000000
noncomputable def pclC (b : Bool) (l : List P.Producer) : Ctr Tryz.prog := ⟨101, [P.encPs b l], [], .need (l.length * 32 ≤ 140737488355328) (P.clnR l), T.Sat.need fun h => P.clone_c b l h⟩
noncomputable def cclC (b : Bool) (l : List Con) : Ctr Tryz.prog := ⟨102, [encCs b l], [], .need (l.length * 24 ≤ 140737488355328) (ccR l), T.Sat.need fun h => cc_c b l h⟩
def poT (b : Bool) (p : Part) (k : Nat) : List AV := mkT 37 [(1, .ptr 0 0 0 0), (2, .ptr 1 0 0 0), (3, .own 2 5 0 (p.recs.take k).length), (11, encRs b p.recs), (12, .y (.int .i64 p.recs.length)), (13, .y (.int .i64 k))]
def poM (b : Bool) (p : Part) (k : Nat) : List Blk := [.box 30 (encPt b p), .box 30 (encPt true default), rowR (p.recs.take k)]
def poS (b : Bool) (p : Part) (_ : Unit) : Exit × List AV × List Blk := (.exit 0, mkT 37 [(1, .ptr 0 0 0 0), (2, .ptr 1 0 0 0), (3, .own 2 5 0 p.recs.length)], [.box 30 (encPt b p), .box 30 (encPt true default), rowR p.recs])
noncomputable def poH (p : Part) (k : Nat) : HintsT Tryz.prog := withSh (hh _ noLp (cs1 39 5 2 (clnC true (p.recs.getD k default).val.length (cellsOf' encB (p.recs.getD k default).val)) noCs) noOp) (sh1 39 6 1 779 noSh)
def vcPoL (b : Bool) (p : Part) (k : Nat) : Prop :=
  (decide ((↑k : Int) < (↑(List.length p.recs) : Int)) = true → (true && decide ((↑k : Int) < (↑(List.length p.recs) : Int))) = true ∧ ((true = true ∧ List.length (List.getD p.recs (Int.toNat (↑k : Int)) (@default Rec instInhabitedRec)).val = List.length (List.getD p.recs k (@default Rec instInhabitedRec)).val ∧ contLe (List.length (List.getD p.recs (Int.toNat (↑k : Int)) (@default Rec instInhabitedRec)).val) (1 : Nat) (cellsOf' encB (List.getD p.recs (Int.toNat (↑k : Int)) (@default Rec instInhabitedRec)).val) (cellsOf' encB (List.getD p.recs k (@default Rec instInhabitedRec)).val)) ∧ True) ∧ True ∧ List.length (List.getD p.recs k (@default Rec instInhabitedRec)).val ≤ (140737488355328 : Nat) ∧ (∀ (k_1 : Nat), k_1 < List.length (List.getD p.recs k (@default Rec instInhabitedRec)).val → ∀ (j : Nat), j < (1 : Nat) → tagT (cellsOf' encB (List.getD p.recs k (@default Rec instInhabitedRec)).val k_1 j) = true) ∧ (decide (List.length (List.take k p.recs) = List.length (List.take k p.recs)) && decide (List.length (List.take k p.recs) + (1 : Nat) ≤ (9223372036854775807 : Nat)) && decide ((List.length (List.take k p.recs) + (1 : Nat)) * (64 : Nat) ≤ (140737488355328 : Nat))) = true ∧ ∃ (j : Nat), List.length p.recs - j < List.length p.recs - k ∧ ((((0 : Nat) = (0 : Nat) ∧ (0 : Nat) = (0 : Nat)) ∧ ((0 : Nat) = (0 : Nat) ∧ (0 : Nat) = (0 : Nat)) ∧ ((0 : Nat) = (0 : Nat) ∧ List.length (List.take k p.recs) + (1 : Nat) = List.length (List.take j p.recs)) ∧ (b = b ∧ List.length p.recs = List.length p.recs ∧ contLe (List.length p.recs) (5 : Nat) (cellsOf' encR p.recs) (cellsOf' encR p.recs)) ∧ (↑(List.length p.recs) : Int) = (↑(List.length p.recs) : Int) ∧ IntKind.wrap IntKind.i64 ((↑k : Int) + (1 : Int)) = (↑j : Int) ∧ True) ∧ ((p.rng.lo = p.rng.lo ∧ p.rng.hi = p.rng.hi ∧ p.epoch = p.epoch ∧ p.frozen = p.frozen ∧ (b = b ∧ List.length p.recs = List.length p.recs ∧ contLe (List.length p.recs) (5 : Nat) (cellsOf' encR p.recs) (cellsOf' encR p.recs)) ∧ (b = b ∧ List.length p.prods = List.length p.prods ∧ contLe (List.length p.prods) (4 : Nat) (cellsOf' P.encP p.prods) (cellsOf' P.encP p.prods)) ∧ (b = b ∧ List.length p.cons = List.length p.cons ∧ contLe (List.length p.cons) (2 : Nat) (cellsOf' encC p.cons) (cellsOf' encC p.cons)) ∧ True) ∧ (ByteArray.empty = ByteArray.empty ∧ ByteArray.empty = ByteArray.empty ∧ (0 : Int) = (0 : Int) ∧ (0 : Int) = (0 : Int) ∧ (true = true ∧ (0 : Nat) = (0 : Nat) ∧ contLe (0 : Nat) (5 : Nat) (cellsOf' encR []) (cellsOf' encR [])) ∧ (true = true ∧ (0 : Nat) = (0 : Nat) ∧ contLe (0 : Nat) (4 : Nat) (cellsOf' P.encP []) (cellsOf' P.encP [])) ∧ (true = true ∧ (0 : Nat) = (0 : Nat) ∧ contLe (0 : Nat) (2 : Nat) (cellsOf' encC []) (cellsOf' encC [])) ∧ True) ∧ (List.length (List.take k p.recs) + (1 : Nat) = List.length (List.take j p.recs) ∧ contLe (List.length (List.take k p.recs) + (1 : Nat)) (5 : Nat) (appRow (List.length (List.take k p.recs)) (cellsOf' encR (List.take k p.recs)) fun (k_1 j : Nat) => Ax.get [AV.y (Value.int IntKind.u64 (List.getD p.recs (Int.toNat (↑k : Int)) (@default Rec instInhabitedRec)).off), AV.y (Value.string (List.getD p.recs (Int.toNat (↑k : Int)) (@default Rec instInhabitedRec)).key), AV.ys true (1 : Nat) (List.length (List.getD p.recs k (@default Rec instInhabitedRec)).val) (Ax.rowAt (0 : Nat) (cellsOf' encB (List.getD p.recs k (@default Rec instInhabitedRec)).val)), AV.y (Value.int IntKind.u64 (List.getD p.recs (Int.toNat (↑k : Int)) (@default Rec instInhabitedRec)).prod), AV.y (Value.int IntKind.u64 (List.getD p.recs (Int.toNat (↑k : Int)) (@default Rec instInhabitedRec)).seq)] (k_1 * (5 : Nat) + j)) (cellsOf' encR (List.take j p.recs))) ∧ True) ∧ true = true) ∧ true = true ∧ () = ()) ∧ (decide ((↑k : Int) < (↑(List.length p.recs) : Int)) = false → (((0 : Nat) = (0 : Nat) ∧ (0 : Nat) = (0 : Nat)) ∧ ((0 : Nat) = (0 : Nat) ∧ (0 : Nat) = (0 : Nat)) ∧ ((0 : Nat) = (0 : Nat) ∧ List.length (List.take k p.recs) = List.length p.recs) ∧ True) ∧ ((p.rng.lo = p.rng.lo ∧ p.rng.hi = p.rng.hi ∧ p.epoch = p.epoch ∧ p.frozen = p.frozen ∧ (b = b ∧ List.length p.recs = List.length p.recs ∧ contLe (List.length p.recs) (5 : Nat) (cellsOf' encR p.recs) (cellsOf' encR p.recs)) ∧ (b = b ∧ List.length p.prods = List.length p.prods ∧ contLe (List.length p.prods) (4 : Nat) (cellsOf' P.encP p.prods) (cellsOf' P.encP p.prods)) ∧ (b = b ∧ List.length p.cons = List.length p.cons ∧ contLe (List.length p.cons) (2 : Nat) (cellsOf' encC p.cons) (cellsOf' encC p.cons)) ∧ True) ∧ (ByteArray.empty = ByteArray.empty ∧ ByteArray.empty = ByteArray.empty ∧ (0 : Int) = (0 : Int) ∧ (0 : Int) = (0 : Int) ∧ (true = true ∧ (0 : Nat) = (0 : Nat) ∧ contLe (0 : Nat) (5 : Nat) (cellsOf' encR []) (cellsOf' encR [])) ∧ (true = true ∧ (0 : Nat) = (0 : Nat) ∧ contLe (0 : Nat) (4 : Nat) (cellsOf' P.encP []) (cellsOf' P.encP [])) ∧ (true = true ∧ (0 : Nat) = (0 : Nat) ∧ contLe (0 : Nat) (2 : Nat) (cellsOf' encC []) (cellsOf' encC [])) ∧ True) ∧ (List.length (List.take k p.recs) = List.length p.recs ∧ contLe (List.length (List.take k p.recs)) (5 : Nat) (cellsOf' encR (List.take k p.recs)) (cellsOf' encR p.recs)) ∧ True) ∧ true = true)
set_option maxRecDepth 1000000 in
theorem vcPoL_eq (b : Bool) (p : Part) (k : Nat) : (loopVC Tryz.prog (poH p k) 39 3 (fun k => p.recs.length - k) (poT b p) (poM b p) [0, 1, 2, 3, 4, 5, 6] (fun _ => .ret ()) (poS b p) k) = vcPoL b p k := by kernel_rfl
def ptR (p : Part) : T An := .ret (.agg (encPt true p), [], [])
noncomputable def pownH (b : Bool) (p : Part) : HintsT Tryz.prog := withSh (hh _ (lp1 39 3 (jobOf (poT b p) (poM b p) [0, 1, 2, 3, 4, 5, 6] (fun _ => .ret ()) (poS b p) 0) noLp) (cs1 39 8 3 (pclC b p.prods) (cs1 39 8 6 (cclC b p.cons) noCs)) noOp) (sh1 39 9 0 779 noSh)
def vcPown (b : Bool) (p : Part) : Prop :=
  (0 : Int) ≤ (0 : Int) ∧ (0 : Int) ≤ (↑(List.length p.recs) : Int) ∧ (64 : Int) * (↑(List.length p.recs) : Int) ≤ (281474976710656 : Int) ∧ (↑(List.length p.recs) : Int) ≤ (9223372036854775807 : Int) ∧ ((((0 : Nat) = (0 : Nat) ∧ (0 : Nat) = (0 : Nat)) ∧ ((0 : Nat) = (0 : Nat) ∧ (0 : Nat) = (0 : Nat)) ∧ ((0 : Nat) = (0 : Nat) ∧ (0 : Nat) = (0 : Nat)) ∧ (b = b ∧ List.length p.recs = List.length p.recs ∧ contLe (List.length p.recs) (5 : Nat) (cellsOf' encR p.recs) (cellsOf' encR p.recs)) ∧ (↑(List.length p.recs) : Int) = (↑(List.length p.recs) : Int) ∧ (0 : Int) = (0 : Int) ∧ True) ∧ ((p.rng.lo = p.rng.lo ∧ p.rng.hi = p.rng.hi ∧ p.epoch = p.epoch ∧ p.frozen = p.frozen ∧ (b = b ∧ List.length p.recs = List.length p.recs ∧ contLe (List.length p.recs) (5 : Nat) (cellsOf' encR p.recs) (cellsOf' encR p.recs)) ∧ (b = b ∧ List.length p.prods = List.length p.prods ∧ contLe (List.length p.prods) (4 : Nat) (cellsOf' P.encP p.prods) (cellsOf' P.encP p.prods)) ∧ (b = b ∧ List.length p.cons = List.length p.cons ∧ contLe (List.length p.cons) (2 : Nat) (cellsOf' encC p.cons) (cellsOf' encC p.cons)) ∧ True) ∧ ({ data := #[] : ByteArray } = ByteArray.empty ∧ { data := #[] : ByteArray } = ByteArray.empty ∧ (0 : Int) = (0 : Int) ∧ (0 : Int) = (0 : Int) ∧ (0 : Nat) = (0 : Nat) ∧ (0 : Nat) = (0 : Nat) ∧ (0 : Nat) = (0 : Nat) ∧ True) ∧ ((0 : Nat) = (0 : Nat) ∧ contLe (0 : Nat) (5 : Nat) (fun (x j : Nat) => Ax.get [AV.s (Value.int IntKind.u64 (0 : Int)), AV.s (Value.string { data := #[] : ByteArray }), AV.s (Value.slice none (0 : Nat) (0 : Nat)), AV.s (Value.int IntKind.u64 (0 : Int)), AV.s (Value.int IntKind.u64 (0 : Int))] j) (cellsOf' encR [])) ∧ True) ∧ true = true) ∧ LoopOk Tryz.prog (39 : Nat) (3 : Nat) (loopAt Tryz.prog (39 : Nat) (3 : Nat)) { t := poT b p (0 : Nat), m := poM b p (0 : Nat), mv := [] : St } (T.map (lout [(0 : Nat), (1 : Nat), (2 : Nat), (3 : Nat), (4 : Nat), (5 : Nat), (6 : Nat)] (poS b p)) ((fun (x : Nat) => T.ret ()) (0 : Nat))) ∧ ((b = b ∧ List.length p.prods = List.length p.prods ∧ contLe (List.length p.prods) (4 : Nat) (cellsOf' P.encP p.prods) (cellsOf' P.encP p.prods)) ∧ True) ∧ True ∧ List.length p.prods * (32 : Nat) ≤ (140737488355328 : Nat) ∧ ((b = b ∧ List.length p.cons = List.length p.cons ∧ contLe (List.length p.cons) (2 : Nat) (cellsOf' encC p.cons) (cellsOf' encC p.cons)) ∧ True) ∧ True ∧ List.length p.cons * (24 : Nat) ≤ (140737488355328 : Nat) ∧ (∀ (k : Nat), k < List.length p.recs → ∀ (j : Nat), j < (5 : Nat) → tagT (cellsOf' encR p.recs k j) = true) ∧ (∀ (k : Nat), k < List.length p.prods → ∀ (j : Nat), j < (4 : Nat) → tagT (cellsOf' P.encP p.prods k j) = true) ∧ (∀ (k : Nat), k < List.length p.cons → ∀ (j : Nat), j < (2 : Nat) → tagT (cellsOf' encC p.cons k j) = true) ∧ (p.rng.lo = p.rng.lo ∧ p.rng.hi = p.rng.hi ∧ p.epoch = p.epoch ∧ p.frozen = p.frozen ∧ (true = true ∧ List.length p.recs = List.length p.recs ∧ contLe (List.length p.recs) (5 : Nat) (Ax.rowAt (0 : Nat) (cellsOf' encR p.recs)) (cellsOf' encR p.recs)) ∧ (true = true ∧ List.length p.prods = List.length p.prods ∧ contLe (List.length p.prods) (4 : Nat) (Ax.rowAt (0 : Nat) (cellsOf' P.encP p.prods)) (cellsOf' P.encP p.prods)) ∧ (true = true ∧ List.length p.cons = List.length p.cons ∧ contLe (List.length p.cons) (2 : Nat) (Ax.rowAt (0 : Nat) (cellsOf' encC p.cons)) (cellsOf' encC p.cons)) ∧ True) ∧ True
set_option maxRecDepth 1000000 in
theorem vcPown_eq (b : Bool) (p : Part) : (ctrVC Tryz.prog (pownH b p) 39 [.agg (encPt b p)] [] (ptR p)) = vcPown b p := by kernel_rfl
/-! a command that is well formed -/
noncomputable def juC (b : Bool) (l : List P.Producer) (id s : Int) : Ctr Tryz.prog := ⟨98, [P.encPs b l, .y (.int .u64 id), .y (.int .u64 s)], [], .need (l.length ≤ 9223372036854775806) (P.judgeR l id s), T.Sat.need fun h => P.judge_c b l id s h⟩
def okN (c : Cmd) : Bool := !(P.judgeV [] c.prod c.seq == 4)
def wellB (c : Cmd) : Bool := if c.kind = 1 then okN c && (decide ((c.key.size : Int) ≤ 32) && decide ((c.val.length : Int) ≤ 256)) else if c.kind = 2 then decide (1 ≤ c.most) && decide (c.most ≤ 64) else if c.kind = 3 then okN c && nameOk c.name else if c.kind = 4 then nameOk c.name else if c.kind = 5 ∨ c.kind = 6 then !(c.plan == 0) else false
noncomputable def weH (c : Cmd) : HintsT Tryz.prog := hh _ noLp (cs1 38 3 4 (juC true [] c.prod c.seq) (cs1 38 8 4 (juC true [] c.prod c.seq) (cs1 38 9 5 (nameC c.name) (cs1 38 11 2 (nameC c.name) noCs)))) noOp
def vcWe (c : Cmd) : Prop :=
  ((c.kind == (1 : Int)) = true → ((0 : Nat) = (0 : Nat) ∧ c.prod = c.prod ∧ c.seq = c.seq ∧ True) ∧ True ∧ (0 : Nat) ≤ (9223372036854775806 : Nat) ∧ ((P.judgeV [] c.prod c.seq != (4 : Int)) = true → (decide ((↑(ByteArray.size c.key) : Int) ≤ (32 : Int)) = true → decide ((↑(List.length c.val) : Int) ≤ (256 : Int)) = wellB c ∧ True) ∧ (decide ((↑(ByteArray.size c.key) : Int) ≤ (32 : Int)) = false → false = wellB c ∧ True)) ∧ ((P.judgeV [] c.prod c.seq != (4 : Int)) = false → false = wellB c ∧ True)) ∧ ((c.kind == (1 : Int)) = false → ((c.kind == (2 : Int)) = true → (decide ((1 : Int) ≤ c.most) = true → decide (c.most ≤ (64 : Int)) = wellB c ∧ True) ∧ (decide ((1 : Int) ≤ c.most) = false → false = wellB c ∧ True)) ∧ ((c.kind == (2 : Int)) = false → ((c.kind == (3 : Int)) = true → ((0 : Nat) = (0 : Nat) ∧ c.prod = c.prod ∧ c.seq = c.seq ∧ True) ∧ True ∧ (0 : Nat) ≤ (9223372036854775806 : Nat) ∧ ((P.judgeV [] c.prod c.seq != (4 : Int)) = true → (c.name = c.name ∧ True) ∧ True ∧ nameOk c.name = wellB c ∧ True) ∧ ((P.judgeV [] c.prod c.seq != (4 : Int)) = false → false = wellB c ∧ True)) ∧ ((c.kind == (3 : Int)) = false → ((c.kind == (4 : Int)) = true → (c.name = c.name ∧ True) ∧ True ∧ nameOk c.name = wellB c ∧ True) ∧ ((c.kind == (4 : Int)) = false → ((c.kind == (5 : Int)) = true → (c.plan != (0 : Int)) = wellB c ∧ True) ∧ ((c.kind == (5 : Int)) = false → ((c.kind == (6 : Int)) = true → (c.plan != (0 : Int)) = wellB c ∧ True) ∧ ((c.kind == (6 : Int)) = false → false = wellB c ∧ True))))))
set_option maxRecDepth 1000000 in
theorem vcWe_eq (c : Cmd) : (ctrVC Tryz.prog (weH c) 38 [.agg (encCm c)] [] (boolR (wellB c))) = vcWe c := by kernel_rfl
end Go.Proofs.YtnbhdjadlbhknaaGreatDoor.R

/-! Lineage: ranges parted; states parted: the conditions. -/
namespace Go.Proofs.YtnbhdjadlbhknaaGreatDoor.D
open Go.Ax
set_option maxRecDepth 1000000
def beqB (a b : ByteArray) : Bool := a.data.toList == b.data.toList
def splE (r : Rng) (k : ByteArray) : Int := if !(chkK r == 0) then chkK r else if 32 < k.size then 131 else if (beqB k r.lo || !hasK r k) = true then 132 else 0
structure PartTy (p : Part) : Prop where
  rl : p.recs.length ≤ 4611686018427387903
  pl : p.prods.length ≤ 4611686018427387903
  cl : p.cons.length ≤ 4611686018427387903
  po : ∀ x ∈ p.prods, 0 ≤ x.offset ∧ x.offset < 18446744073709551616
  co : wfC p.cons
theorem PartTy.isIn {p : Part} (h : PartTy p) : PartIn p := ⟨h.rl, h.pl, h.cl, fun k hk => (h.po _ (by simp [hk])).1⟩
theorem tagP (x : P.Producer) (j : Nat) (hj : j < 4) : tagT (Ax.get (P.encP x) j) = true := by
  match j, hj with
  | 0, _ => rfl
  | 1, _ => rfl
  | 2, _ => rfl
  | 3, _ => rfl
theorem tagC (x : Con) (j : Nat) (hj : j < 2) : tagT (Ax.get (encC x) j) = true := by
  match j, hj with
  | 0, _ => rfl
  | 1, _ => rfl
end Go.Proofs.YtnbhdjadlbhknaaGreatDoor.D

/-! Lineage: the contract of Split. -/
namespace Go.Proofs.YtnbhdjadlbhknaaGreatDoor.D
open Go.Ax
set_option maxRecDepth 1000000
def bad (p : Part) : Bool := !partOk p || IntKind.u64.wrap (p.epoch + 1) == 0
def splitE (p : Part) (k : ByteArray) : Int := if bad p = true then 172 else if p.frozen = 0 then 171 else splE p.rng k
theorem less_irr : ∀ l : List UInt8, Op.bytesLess l l = false
  | [] => rfl
  | a :: l => by simp [Op.bytesLess, less_irr l]
theorem lt_irr (a : ByteArray) : lt a a = false := less_irr _
theorem ok_parts {p : Part} (h : partOk p = true) : chkK p.rng = 0 ∧ p.epoch ≠ 0 ∧ isLog p.recs = true ∧ P.isTable p.prods = true ∧ isCons p.cons = true ∧ orFrom p 0 = true ∧ p.prods.any (lostB p) = false ∧ p.cons.any (aheadB p.recs.length) = false := by
  simp only [partOk, Bool.and_eq_true, Bool.not_eq_true', beq_iff_eq] at h
  obtain ⟨a, b, c, d, e, f, g, i⟩ := h
  exact ⟨a, by simpa using b, c, d, e, f, g, i⟩
end Go.Proofs.YtnbhdjadlbhknaaGreatDoor.D

/-! Shards' states: a state in new memory; a command that is well formed. -/
namespace Go.Proofs.YtnbhdjadlbhknaaGreatDoor.R
open Go.Ax
set_option maxRecDepth 1000000
/-- a state whose records may be told anew -/
structure PoOk (p : Part) : Prop where
  n : p.recs.length ≤ 4096
  v : ∀ k, k < p.recs.length → (p.recs.getD k default).val.length ≤ 140737488355328
  pl : p.prods.length ≤ 4294967296
  cl : p.cons.length ≤ 4294967296
theorem po_loop (b : Bool) (p : Part) (h : PoOk p) (k : Nat) : LoopOk Tryz.prog 39 3 (loopAt Tryz.prog 39 3) ⟨poT b p k, poM b p k, []⟩ (T.map (lout [0, 1, 2, 3, 4, 5, 6] (poS b p)) (.ret ())) := by
  refine loop_vcH (P := Tryz.prog) (f := 39) (k := 3) (ι := Nat) (μ := fun k => p.recs.length - k) (o := fun _ => .ret ()) (ht := poH p) (stT := poT b p) (stM := poM b p) (X := [0, 1, 2, 3, 4, 5, 6]) (S := poS b p) Tryz.mixed (fun _ => rfl) (fun k => ?_) k
  rw [vcPoL_eq b p k]
  unfold vcPoL
  have hn := h.n
  have hv := h.v
  generalize p.recs = l at *
  by_cases hk : k < l.length
  · have hz : decide ((k : Int) < l.length) = true := by simp; omega
    have hv := hv k hk
    have hw : IntKind.i64.wrap ((k : Int) + 1) = ((k + 1 : Nat) : Int) := by rw [wrap_i64 (by omega) (by omega)]; omega
    have ht := take_one hk
    have hl : (l.take k).length = k := by simp; omega
    rw [Int.toNat_natCast]
    simp only [hz, hw]
    generalize l.getD k default = x at *
    have tg : ∀ (i : Nat), i < x.val.length → ∀ (j : Nat), j < 1 → tagT (cellsOf' encB x.val i j) = true := fun i hi j hj => by
      obtain rfl : j = 0 := by omega
      rfl
    have hm : min k l.length = k := by omega
    have ha := app_rec (l.take k) x
    rw [hl] at ha
    simp [tg]
    rw [hm]
    refine ⟨hv, fun i hi => rfl, ⟨by omega, by omega⟩, k + 1, by omega, ⟨by omega, by omega⟩, by omega, ?_⟩
    rw [ht]
    exact ha
  · have hz : decide ((k : Int) < l.length) = false := by simp; omega
    have e1 : l.take k = l := List.take_of_length_le (by omega)
    simp only [hz]
    simp [e1]
theorem pown_c (b : Bool) (p : Part) (h : PoOk p) : (ptR p).Sat (ACall' Tryz.prog 39 [.agg (encPt b p)] []) := by
  refine ctr_vc (ht := pownH b p) Tryz.mixed rfl ?_
  rw [vcPown_eq b p]
  unfold vcPown
  have hn := h.n
  have hp := h.pl
  have hc := h.cl
  have lp := po_loop b p h 0
  have t1 : ∀ (k : Nat), k < p.recs.length → ∀ (j : Nat), j < 5 → tagT (cellsOf' encR p.recs k j) = true := fun k _ j hj => tagR _ j hj
  have t2 : ∀ (k : Nat), k < p.prods.length → ∀ (j : Nat), j < 4 → tagT (cellsOf' P.encP p.prods k j) = true := fun k _ j hj => D.tagP _ j hj
  have t3 : ∀ (k : Nat), k < p.cons.length → ∀ (j : Nat), j < 2 → tagT (cellsOf' encC p.cons k j) = true := fun k _ j hj => D.tagC _ j hj
  have eb : ({ data := #[] } : ByteArray) = ByteArray.empty := rfl
  simp only [lp, t1, t2, t3, eb]
  simp
  exact ⟨by omega, by omega, by omega, by omega, t1, t2, t3⟩
theorem we_c (c : Cmd) : (boolR (wellB c)).Sat (ACall' Tryz.prog 38 [.agg (encCm c)] []) := by
  refine ctr_vc (ht := weH c) Tryz.mixed rfl ?_
  rw [vcWe_eq c]
  unfold vcWe wellB okN
  by_cases h1 : c.kind = 1
  · by_cases h2 : P.judgeV [] c.prod c.seq = 4 <;> by_cases h3 : (c.key.size : Int) ≤ 32 <;> simp [h1, h2, h3]
  · by_cases h2 : c.kind = 2
    · by_cases h3 : 1 ≤ c.most <;> simp [h2, h3]
    · by_cases h3 : c.kind = 3
      · by_cases h4 : P.judgeV [] c.prod c.seq = 4 <;> simp [h3, h4]
      · by_cases h4 : c.kind = 4
        · simp [h4]
        · by_cases h5 : c.kind = 5
          · simp [h5]; rfl
          · by_cases h6 : c.kind = 6
            · simp [h6]; rfl
            · simp [h1, h2, h3, h4, h5, h6]
noncomputable def pownC (b : Bool) (p : Part) : Ctr Tryz.prog := ⟨39, [.agg (encPt b p)], [], .need (PoOk p) (ptR p), T.Sat.need fun h => pown_c b p h⟩
noncomputable def weC (c : Cmd) : Ctr Tryz.prog := ⟨38, [.agg (encCm c)], [], boolR (wellB c), we_c c⟩
end Go.Proofs.YtnbhdjadlbhknaaGreatDoor.R
