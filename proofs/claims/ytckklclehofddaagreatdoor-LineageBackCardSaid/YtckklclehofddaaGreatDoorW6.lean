import Derived.Test.YtckklclehofddaaGreatDoorW2
import Derived.Test.YtckklclehofddaaGreatDoorW3
import Derived.Test.YtckklclehofddaaGreatDoorW5
set_option linter.unusedVariables false
set_option linter.unusedSimpArgs false
set_option linter.unusedSectionVars false
/-! Lineage: the contract of within. -/
namespace Go.Proofs.YtckklclehofddaaGreatDoor.D
open Go.Ax
set_option maxRecDepth 1000000
theorem mat_strip {x y : Rec} (h : strip x = strip y) : matR x y = true := by
  simp only [strip, Rec.to, Rec.mk.injEq, true_and] at h
  obtain ⟨h1, h2, h3, h4⟩ := h
  simp [matR, h1, h2, h3, h4, valS]
theorem emb_step {x : Rec} {l m : List Rec} (h : emb (x :: l) m) : ∃ h1 : m.findIdx (matR x) < m.length, emb l (m.drop (m.findIdx (matR x) + 1)) := by
  induction m with
  | nil => simp [emb] at h
  | cons y m ih =>
    unfold emb at h
    simp only [List.map_cons] at h
    rw [List.findIdx_cons]
    cases hm : matR x y
    · have hne : strip x ≠ strip y := fun e => by rw [mat_strip e] at hm; cases hm
      have h2 : emb (x :: l) m := by
        rcases List.sublist_cons_iff.1 h with h | ⟨r, h, _⟩
        · exact h
        · exact absurd (List.cons.inj h).1 hne
      obtain ⟨h3, h4⟩ := ih h2
      refine ⟨?_, ?_⟩
      · show m.findIdx (matR x) + 1 < m.length + 1
        omega
      · exact h4
    · refine ⟨by simp, ?_⟩
      have h2 : emb l m := by
        rcases List.sublist_cons_iff.1 h with h | ⟨r, h, h'⟩
        · exact (List.sublist_cons_self _ _).trans h
        · unfold emb; rw [(List.cons.inj h).2]; exact h'
      simpa using h2
theorem at_inv {l m : List Rec} (h : emb l m) : ∀ k, k ≤ l.length → atW l m k ≤ m.length ∧ emb (l.drop k) (m.drop (atW l m k)) := by
  intro k
  induction k with
  | zero => intro _; simpa [atW] using h
  | succ k ih =>
    intro hk
    obtain ⟨h1, h2⟩ := ih (by omega)
    have e : l.drop k = l.getD k default :: l.drop (k + 1) := by rw [drop_cons (by omega)]; simp
    rw [e] at h2
    obtain ⟨h3, h4⟩ := emb_step h2
    simp only [List.length_drop] at h3
    show nxtW l m k (atW l m k) + 1 ≤ _ ∧ emb _ (m.drop (nxtW l m k (atW l m k) + 1))
    unfold nxtW
    refine ⟨by omega, ?_⟩
    rw [List.drop_drop] at h4
    rwa [show atW l m k + ((m.drop (atW l m k)).findIdx (matR (l.getD k default)) + 1) = atW l m k + (m.drop (atW l m k)).findIdx (matR (l.getD k default)) + 1 by omega] at h4
theorem nxt_lt {l m : List Rec} (h : emb l m) {k : Nat} (hk : k < l.length) : nxtW l m k (atW l m k) < m.length := by
  have := (at_inv h (k + 1) (by omega)).1
  have e : atW l m (k + 1) = nxtW l m k (atW l m k) + 1 := rfl
  omega
theorem nxt_end {l m : List Rec} {i s : Nat} (h : m.length ≤ s) : nxtW l m i s = s := by
  unfold nxtW
  rw [List.drop_eq_nil_of_le h]; rfl
theorem nxt_step {l m : List Rec} {i s : Nat} (h : s < m.length) : nxtW l m i s = if matR (l.getD i default) (m.getD s default) = true then s else nxtW l m i (s + 1) := by
  unfold nxtW
  rw [drop_cons h, List.findIdx_cons]
  have : m[s]?.getD default = m.getD s default := by simp
  rw [this]
  cases hm : matR (l.getD i default) (m.getD s default)
  · simp [hm]; omega
  · simp [hm]
theorem wi_loop (b1 b2 : Bool) (l m : List Rec) (hm : m.length ≤ 9223372036854775806) (hl : l.length ≤ 9223372036854775806) (i : Nat) (hi : i < l.length) (s : Nat) : LoopOk Tryz.prog 16 5 (loopAt Tryz.prog 16 5) ⟨wiT b1 b2 l m i s, [], []⟩ (T.map (lout wiX (wiS b1 b2 l m i)) ((fun (s : Nat) => T.ret (nxtW l m i s)) s)) := by
  refine loop_vc (o := fun s => .ret (nxtW l m i s)) (stT := wiT b1 b2 l m i) Tryz.mixed (fun _ => rfl) (fun s => (vcWi_eq b1 b2 l m i s).mpr ?_) s
  unfold vcWi
  by_cases h : s < m.length
  · have hw : IntKind.i64.wrap ((s : Int) + 1) = ((s + 1 : Nat) : Int) := by rw [wrap_i64 (by omega) (by omega)]; omega
    have hz : decide ((s : Int) < m.length) = true := by simp; omega
    have hz2 : decide ((i : Int) < l.length) = true := by simp; omega
    have hx := nxt_step (l := l) (i := i) h
    rw [Int.toNat_natCast, Int.toNat_natCast]
    simp only [hz, hz2]
    have hmat : ∀ x y : Rec, matR x y = (y.prod == x.prod && (y.seq == x.seq && (y.key.data.toList == x.key.data.toList && (valS y).data.toList == (valS x).data.toList))) := fun _ _ => rfl
    rw [hmat] at hx
    generalize l.getD i default = x at *
    generalize m.getD s default = y at *
    generalize (y.key.data.toList == x.key.data.toList) = q1 at *
    by_cases h1 : y.prod = x.prod
    · by_cases h2 : y.seq = x.seq
      · cases q1
        · simp [h1, h2, hw] at hx ⊢
          exact ⟨s + 1, by omega, rfl, hx.symm⟩
        · simp only [h1, h2, hw, beq_self_eq_true, Bool.true_and, bne_self_eq_false] at hx ⊢
          refine ⟨fun _ => ⟨trivial, trivial, fun e => by simp at e, fun _ => ⟨trivial, trivial, fun e => by simp at e, fun _ => ⟨trivial, trivial, fun e => by simp at e, fun _ => ⟨trivial, fun _ _ => trivial, trivial, fun _ _ => trivial, fun e => ?_, fun e => ?_⟩⟩⟩⟩, fun e => by simp at e⟩
          · have e : (!((valS y).data.toList == (valS x).data.toList)) = true := e
            simp only [Bool.not_eq_true'] at e
            rw [e] at hx
            simp at hx
            simp
            exact ⟨s + 1, by omega, rfl, hx.symm⟩
          · have e : (!((valS y).data.toList == (valS x).data.toList)) = false := e
            simp only [Bool.not_eq_false'] at e
            rw [e] at hx
            simp at hx
            simp [hx]
      · simp [h1, h2, hw] at hx ⊢
        exact ⟨s + 1, by omega, rfl, hx.symm⟩
    · simp [h1, hw] at hx ⊢
      exact ⟨s + 1, by omega, rfl, hx.symm⟩
  · have hz : decide ((s : Int) < m.length) = false := by simp; omega
    simp only [hz, nxt_end (l := l) (i := i) (Nat.le_of_not_lt h)]
    simp
theorem wo_loop (b1 b2 : Bool) (l m : List Rec) (hm : m.length ≤ 9223372036854775806) (hl : l.length ≤ 9223372036854775806) (he : emb l m) (k : { k : Nat // k ≤ l.length }) : LoopOk Tryz.prog 16 3 (loopAt Tryz.prog 16 3) ⟨woT b1 b2 l m k, [], []⟩ (T.map (lout wiX woS) (.ret ())) := by
  refine loop_vcH (o := fun _ => .ret ()) (stT := woT b1 b2 l m) Tryz.mixed (fun _ => rfl) (fun k => (vcWo_eq b1 b2 l m k).mpr ?_) k
  obtain ⟨k, hk⟩ := k
  unfold vcWo
  dsimp only
  by_cases h : k < l.length
  · have hw : IntKind.i64.wrap ((k : Int) + 1) = ((k + 1 : Nat) : Int) := by rw [wrap_i64 (by omega) (by omega)]; omega
    have hz : decide ((k : Int) < l.length) = true := by simp; omega
    have h2 := nxt_lt he h
    have lp := wi_loop b1 b2 l m hm hl k h (atW l m k)
    have hw2 : IntKind.i64.wrap (((nxtW l m k (atW l m k) : Nat) : Int) + 1) = ((nxtW l m k (atW l m k) + 1 : Nat) : Int) := by rw [wrap_i64 (by omega) (by omega)]; omega
    have e : ((nxtW l m k (atW l m k) : Nat) : Int) ≠ m.length := by omega
    simp only [hz]
    simp [lp, hw, hw2, e]
    exact ⟨k + 1, by omega, rfl, by omega, by omega⟩
  · have hz : decide ((k : Int) < l.length) = false := by simp; omega
    simp only [hz]
    simp
theorem within_c (b1 b2 : Bool) (l m : List Rec) (hm : m.length ≤ 9223372036854775806) (hl : l.length ≤ 9223372036854775806) (he : emb l m) : (boolR true).Sat (ACall' Tryz.prog 16 [encRs b1 l, encRs b2 m] []) := by
  refine ctr_vc (ht := wtH b1 b2 l m) Tryz.mixed rfl ?_
  rw [vcWt_eq b1 b2 l m]
  unfold vcWt
  have lp := wo_loop b1 b2 l m hm hl he ⟨0, Nat.zero_le _⟩
  simp [lp, atW]
noncomputable def wiC (b1 b2 : Bool) (l m : List Rec) : Ctr Tryz.prog := ⟨16, [encRs b1 l, encRs b2 m], [], .need (m.length ≤ 9223372036854775806 ∧ l.length ≤ 9223372036854775806 ∧ emb l m) (boolR true), T.Sat.need fun h => within_c b1 b2 l m h.1 h.2.1 h.2.2⟩
end Go.Proofs.YtckklclehofddaaGreatDoor.D

/-! Lineage: usable (two states); ranges joined: the contracts. -/
namespace Go.Proofs.YtckklclehofddaaGreatDoor.D
open Go.Ax
set_option maxRecDepth 1000000
def two (a b : Part) : AV := .sl false 7 2 (fun k j => get (encPt true a ++ encPt true b) (k * 7 + j))
def ifE (e : Int) : AV := .ifc 31 (.s (.int .i64 e))
def live2 (a b : Part) : Bool := a.frozen == 0 || b.frozen == 0
def usT (a b : Part) : T An := .ite (bad a || bad b) (.ret (ifE 172, [], [])) (.ite (live2 a b) (.ret (ifE 171, [], [])) (.ret (.s .nilIface, [], [])))
noncomputable def usH (a b : Part) : HintsT Tryz.prog := withCa (hT _) (ca1 18 5 1 8 0 (pcC true a) (ca1 18 5 1 8 1 (pcC true b) noCa))
def vcUs (a b : Part) : Prop :=
  ((a.rng.lo = a.rng.lo ∧ a.rng.hi = a.rng.hi ∧ a.epoch = a.epoch ∧ a.frozen = a.frozen ∧ (true = true ∧ List.length a.recs = List.length a.recs ∧ contLe (List.length a.recs) (5 : Nat) (cellsOf' encR a.recs) (cellsOf' encR a.recs)) ∧ (true = true ∧ List.length a.prods = List.length a.prods ∧ contLe (List.length a.prods) (4 : Nat) (cellsOf' P.encP a.prods) (cellsOf' P.encP a.prods)) ∧ (true = true ∧ List.length a.cons = List.length a.cons ∧ contLe (List.length a.cons) (2 : Nat) (cellsOf' encC a.cons) (cellsOf' encC a.cons)) ∧ True) ∧ True) ∧ True ∧ PartIn a ∧ (partOk a = true → ((IntKind.wrap IntKind.u64 (a.epoch + (1 : Int)) == (0 : Int)) = true → ((bad a || bad b) = true → (172 : Int) = (172 : Int) ∧ True) ∧ ((bad a || bad b) = false → (live2 a b = true → (172 : Int) = (171 : Int) ∧ True) ∧ (live2 a b = false → False ∧ True))) ∧ ((IntKind.wrap IntKind.u64 (a.epoch + (1 : Int)) == (0 : Int)) = false → ((a.frozen == (0 : Int)) = true → ((b.rng.lo = b.rng.lo ∧ b.rng.hi = b.rng.hi ∧ b.epoch = b.epoch ∧ b.frozen = b.frozen ∧ (true = true ∧ List.length b.recs = List.length b.recs ∧ contLe (List.length b.recs) (5 : Nat) (cellsOf' encR b.recs) (cellsOf' encR b.recs)) ∧ (true = true ∧ List.length b.prods = List.length b.prods ∧ contLe (List.length b.prods) (4 : Nat) (cellsOf' P.encP b.prods) (cellsOf' P.encP b.prods)) ∧ (true = true ∧ List.length b.cons = List.length b.cons ∧ contLe (List.length b.cons) (2 : Nat) (cellsOf' encC b.cons) (cellsOf' encC b.cons)) ∧ True) ∧ True) ∧ True ∧ PartIn b ∧ (partOk b = true → ((IntKind.wrap IntKind.u64 (b.epoch + (1 : Int)) == (0 : Int)) = true → ((bad a || bad b) = true → (172 : Int) = (172 : Int) ∧ True) ∧ ((bad a || bad b) = false → (live2 a b = true → (172 : Int) = (171 : Int) ∧ True) ∧ (live2 a b = false → False ∧ True))) ∧ ((IntKind.wrap IntKind.u64 (b.epoch + (1 : Int)) == (0 : Int)) = false → ((b.frozen == (0 : Int)) = true → ((bad a || bad b) = true → (171 : Int) = (172 : Int) ∧ True) ∧ ((bad a || bad b) = false → (live2 a b = true → (171 : Int) = (171 : Int) ∧ True) ∧ (live2 a b = false → False ∧ True))) ∧ ((b.frozen == (0 : Int)) = false → ((bad a || bad b) = true → (171 : Int) = (172 : Int) ∧ True) ∧ ((bad a || bad b) = false → (live2 a b = true → (171 : Int) = (171 : Int) ∧ True) ∧ (live2 a b = false → False ∧ True))))) ∧ (partOk b = false → ((bad a || bad b) = true → (172 : Int) = (172 : Int) ∧ True) ∧ ((bad a || bad b) = false → (live2 a b = true → (172 : Int) = (171 : Int) ∧ True) ∧ (live2 a b = false → False ∧ True)))) ∧ ((a.frozen == (0 : Int)) = false → ((b.rng.lo = b.rng.lo ∧ b.rng.hi = b.rng.hi ∧ b.epoch = b.epoch ∧ b.frozen = b.frozen ∧ (true = true ∧ List.length b.recs = List.length b.recs ∧ contLe (List.length b.recs) (5 : Nat) (cellsOf' encR b.recs) (cellsOf' encR b.recs)) ∧ (true = true ∧ List.length b.prods = List.length b.prods ∧ contLe (List.length b.prods) (4 : Nat) (cellsOf' P.encP b.prods) (cellsOf' P.encP b.prods)) ∧ (true = true ∧ List.length b.cons = List.length b.cons ∧ contLe (List.length b.cons) (2 : Nat) (cellsOf' encC b.cons) (cellsOf' encC b.cons)) ∧ True) ∧ True) ∧ True ∧ PartIn b ∧ (partOk b = true → ((IntKind.wrap IntKind.u64 (b.epoch + (1 : Int)) == (0 : Int)) = true → ((bad a || bad b) = true → (172 : Int) = (172 : Int) ∧ True) ∧ ((bad a || bad b) = false → (live2 a b = true → (172 : Int) = (171 : Int) ∧ True) ∧ (live2 a b = false → False ∧ True))) ∧ ((IntKind.wrap IntKind.u64 (b.epoch + (1 : Int)) == (0 : Int)) = false → ((b.frozen == (0 : Int)) = true → ((bad a || bad b) = true → (171 : Int) = (172 : Int) ∧ True) ∧ ((bad a || bad b) = false → (live2 a b = true → (171 : Int) = (171 : Int) ∧ True) ∧ (live2 a b = false → False ∧ True))) ∧ ((b.frozen == (0 : Int)) = false → ((bad a || bad b) = true → False ∧ True) ∧ ((bad a || bad b) = false → (live2 a b = true → False ∧ True) ∧ (live2 a b = false → True ∧ True))))) ∧ (partOk b = false → ((bad a || bad b) = true → (172 : Int) = (172 : Int) ∧ True) ∧ ((bad a || bad b) = false → (live2 a b = true → (172 : Int) = (171 : Int) ∧ True) ∧ (live2 a b = false → False ∧ True)))))) ∧ (partOk a = false → ((bad a || bad b) = true → (172 : Int) = (172 : Int) ∧ True) ∧ ((bad a || bad b) = false → (live2 a b = true → (172 : Int) = (171 : Int) ∧ True) ∧ (live2 a b = false → False ∧ True)))
set_option maxRecDepth 1000000 in
theorem vcUs_eq (a b : Part) : (ctrVC Tryz.prog (usH a b) 18 [two a b] [] (usT a b)) = vcUs a b := by kernel_rfl
def kmE (a b : Rng) : Int := if !(chkK a == 0) then chkK a else if !(chkK b == 0) then chkK b else if (a.hi.data.toList == [] || a.hi.data.toList != b.lo.data.toList) = true then 133 else 0
def kmT (a b : Rng) : T An := .ite (kmE a b == 0)
  (.ret (.tup [.agg (encG ⟨a.lo, b.hi⟩), .s (.int .i64 0)], [], []))
  (.ret (.tup [.agg (encG default), .y (.int .i64 (kmE a b))], [], []))
noncomputable def kmH (a b : Rng) : HintsT Tryz.prog := withCa (hT _) (ca1 55 4 1 13 0 (chkC a) (ca1 55 4 1 13 1 (chkC b) noCa))
def vcKm (a b : Rng) : Prop :=
  ((a.lo = a.lo ∧ a.hi = a.hi ∧ True) ∧ True) ∧ True ∧ ((chkK a != (0 : Int)) = true → ((kmE a b == (0 : Int)) = true → (({ data := #[] : ByteArray } = a.lo ∧ { data := #[] : ByteArray } = b.hi ∧ True) ∧ chkK a = (0 : Int) ∧ True) ∧ True) ∧ ((kmE a b == (0 : Int)) = false → (({ data := #[] : ByteArray } = ByteArray.empty ∧ { data := #[] : ByteArray } = ByteArray.empty ∧ True) ∧ chkK a = kmE a b ∧ True) ∧ True)) ∧ ((chkK a != (0 : Int)) = false → ((b.lo = b.lo ∧ b.hi = b.hi ∧ True) ∧ True) ∧ True ∧ ((chkK b != (0 : Int)) = true → ((kmE a b == (0 : Int)) = true → (({ data := #[] : ByteArray } = a.lo ∧ { data := #[] : ByteArray } = b.hi ∧ True) ∧ chkK b = (0 : Int) ∧ True) ∧ True) ∧ ((kmE a b == (0 : Int)) = false → (({ data := #[] : ByteArray } = ByteArray.empty ∧ { data := #[] : ByteArray } = ByteArray.empty ∧ True) ∧ chkK b = kmE a b ∧ True) ∧ True)) ∧ ((chkK b != (0 : Int)) = false → ((a.hi.data.toList == []) = true → ((kmE a b == (0 : Int)) = true → (({ data := #[] : ByteArray } = a.lo ∧ { data := #[] : ByteArray } = b.hi ∧ True) ∧ (133 : Int) = (0 : Int) ∧ True) ∧ True) ∧ ((kmE a b == (0 : Int)) = false → (({ data := #[] : ByteArray } = ByteArray.empty ∧ { data := #[] : ByteArray } = ByteArray.empty ∧ True) ∧ (133 : Int) = kmE a b ∧ True) ∧ True)) ∧ ((a.hi.data.toList == []) = false → ((!(a.hi.data.toList == b.lo.data.toList && true)) = true → ((kmE a b == (0 : Int)) = true → (({ data := #[] : ByteArray } = a.lo ∧ { data := #[] : ByteArray } = b.hi ∧ True) ∧ (133 : Int) = (0 : Int) ∧ True) ∧ True) ∧ ((kmE a b == (0 : Int)) = false → (({ data := #[] : ByteArray } = ByteArray.empty ∧ { data := #[] : ByteArray } = ByteArray.empty ∧ True) ∧ (133 : Int) = kmE a b ∧ True) ∧ True)) ∧ ((!(a.hi.data.toList == b.lo.data.toList && true)) = false → ((kmE a b == (0 : Int)) = true → ((a.lo = a.lo ∧ b.hi = b.hi ∧ True) ∧ (0 : Int) = (0 : Int) ∧ True) ∧ True) ∧ ((kmE a b == (0 : Int)) = false → ((a.lo = ByteArray.empty ∧ b.hi = ByteArray.empty ∧ True) ∧ (0 : Int) = kmE a b ∧ True) ∧ True)))))
set_option maxRecDepth 1000000 in
theorem vcKm_eq (a b : Rng) : (ctrVC Tryz.prog (kmH a b) 55 [.agg (encG a), .agg (encG b)] [] (kmT a b)) = vcKm a b := by kernel_rfl
theorem us_c (a b : Part) (ha : PartTy a) (hb : PartTy b) : (usT a b).Sat (ACall' Tryz.prog 18 [two a b] []) := by
  refine ctr_vc (ht := usH a b) Tryz.mixed rfl ?_
  rw [vcUs_eq a b]
  unfold vcUs
  have h1 := ha.isIn
  have h2 := hb.isIn
  unfold bad live2
  by_cases q1 : IntKind.u64.wrap (a.epoch + 1) = 0 <;> by_cases q2 : IntKind.u64.wrap (b.epoch + 1) = 0 <;> by_cases q3 : a.frozen = 0 <;> by_cases q4 : b.frozen = 0 <;> cases partOk a <;> cases partOk b <;> simp [h1, h2, q1, q2, q3, q4]
theorem km_c (a b : Rng) : (kmT a b).Sat (ACall' Tryz.prog 55 [.agg (encG a), .agg (encG b)] []) := by
  refine ctr_vc (ht := kmH a b) Tryz.mixed rfl ?_
  rw [vcKm_eq a b]
  unfold vcKm kmE
  have eb : ({ data := #[] } : ByteArray) = ByteArray.empty := rfl
  rw [eb]
  have e3 : (a.hi.data.toList != b.lo.data.toList) = !(a.hi.data.toList == b.lo.data.toList) := rfl
  rw [e3]
  generalize (a.hi.data.toList == []) = q
  generalize (a.hi.data.toList == b.lo.data.toList) = r
  by_cases h1 : chkK a = 0 <;> by_cases h2 : chkK b = 0 <;> cases q <;> cases r <;> simp [h1, h2]
/-- an answer told otherwise -/
theorem ret_as {P : Program} {g : FuncId} {args : List AV} {m M : List Blk} {mv : List Nat} {r r' : AV} (hr : ∀ H E v, Rel r H E v → Rel r' H E v) (h : (T.ret (r, M, mv) : T An).Sat (ACall' P g args m)) : (T.ret (r', M, mv) : T An).Sat (ACall' P g args m) := by
  obtain ⟨a, ha, rfl⟩ := h (fun a => a = (r, M, mv)) rfl
  refine T.Sat.ret fun H E w vals hC hargs => (ha H E w vals hC hargs).mono ?_
  rintro e w' ⟨v, H1, E1, q1, q2, q3⟩
  exact ⟨v, H1, E1, q1, hr _ _ _ q2, q3⟩
/-! by the case -/
noncomputable def usC0 (a b : Part) : Ctr Tryz.prog := ⟨18, [two a b], [], .need (PartTy a ∧ PartTy b ∧ bad a = false ∧ bad b = false ∧ live2 a b = false) (.ret (.s .nilIface, [], [])), T.Sat.need fun h => by
  obtain ⟨h1, h2, h3, h4, h5⟩ := h
  have := us_c a b h1 h2
  unfold usT at this
  rw [h3, h4, h5] at this
  intro Q hq
  exact this Q ⟨fun e => by simp at e, fun _ => ⟨fun e => by simp at e, fun _ => hq⟩⟩⟩
noncomputable def kmC0 (a b : Rng) : Ctr Tryz.prog := ⟨55, [.agg (encG a), .agg (encG b)], [], .need (kmE a b = 0) (.ret (.tup [.agg (encG ⟨a.lo, b.hi⟩), .s (.int .i64 0)], [], [])), T.Sat.need fun h => by
  have := km_c a b
  unfold kmT at this
  rw [h] at this
  intro Q hq
  exact this Q ⟨fun _ => hq, fun e => by simp at e⟩⟩
end Go.Proofs.YtckklclehofddaaGreatDoor.D

/-! Lineage: two states joined: the conditions, case by case. -/
namespace Go.Proofs.YtckklclehofddaaGreatDoor.D
open Go.Ax
set_option maxRecDepth 1000000
structure JoinOk (a b out : List Rec) (ta tb : List Int) : Prop where
  la : isLog a = true
  lb : isLog b = true
  n : a.length + b.length ≤ 4096
  r : ∃ s, (jo0 a b).run = some s ∧ out = s.end.out ∧ ta = s.end.ta ∧ tb = s.end.tb
def joT0 (out : List Rec) (ta tb : List Int) : T An := .ret (.tup [.own 0 5 0 out.length, .own 1 1 0 ta.length, .own 2 1 0 tb.length, .s (.int .i64 0)], [rowR out, rowU ta, rowU tb], [])
noncomputable def joC0 (b1 b2 : Bool) (a b out : List Rec) (ta tb : List Int) : Ctr Tryz.prog := ⟨57, [encRs b1 a, encRs b2 b], [], .need (JoinOk a b out ta tb) (joT0 out ta tb), T.Sat.need fun h => by
  obtain ⟨s, hs, rfl, rfl, rfl⟩ := h.r
  have l1 := log_len h.la
  have l2 := log_len h.lb
  have := join_c b1 b2 a b (by omega) (by omega)
  unfold joinT at this
  rw [h.la, h.lb, hs] at this
  intro Q hq
  exact this Q ⟨fun _ => ⟨fun _ => ⟨fun _ => hq, fun e => by simp at e⟩, fun e => by simp at e; have := h.n; omega⟩, fun e => by simp at e⟩⟩
structure PbIn (a b : List P.Producer) (ta tb : List Int) : Prop where
  na : a.length * 32 ≤ 140737488355200
  nb : b.length * 32 ≤ 140737488355200
  nta : ta.length ≤ 9223372036854775806
  ntb : tb.length ≤ 9223372036854775806
  oa : ∀ x ∈ a, 0 ≤ x.offset ∧ x.offset < 18446744073709551616
  ob : ∀ x ∈ b, 0 ≤ x.offset ∧ x.offset < 18446744073709551616
def pbT0 (ps : List P.Producer) : T An := .ret (.tup [.own 0 4 0 ps.length, .s (.int .i64 0)], [.row 39 4 ps.length none (cellsOf' P.encP ps)], [])
noncomputable def pbC0 (b1 b2 b3 b4 : Bool) (a b : List P.Producer) (ta tb : List Int) (ps : List P.Producer) : Ctr Tryz.prog := ⟨59, [P.encPs b1 a, P.encPs b2 b, encUs b3 ta, encUs b4 tb], [], .need (PbIn a b ta tb ∧ P.bothE a b ta tb = 0 ∧ ps = P.bothL a b ta tb) (pbT0 ps), T.Sat.need fun h => by
  obtain ⟨⟨h1, h2, h3, h4, h5, h6⟩, h7, rfl⟩ := h
  have := P.both_c b1 b2 b3 b4 a b ta tb h1 h2 h3 h4 h5 h6
  unfold P.rowE at this
  rw [h7] at this
  intro Q hq
  exact this Q ⟨fun _ => hq, fun e => by simp at e⟩⟩
structure CbIn (a b : List Con) (ta tb : List Int) : Prop where
  na : a.length ≤ 9223372036854775806
  nb : b.length ≤ 9223372036854775806
  wa : wfC a
  wb : wfC b
  nta : ta.length ≤ 9223372036854775806
  ntb : tb.length ≤ 9223372036854775806
def cbT0 (cs : List Con) : T An := .ret (.tup [.own 0 2 0 cs.length, .s (.int .i64 0)], [rowC cs], [])
def conB (a b : List Con) (ta tb : List Int) : List Con := boU a b ta tb (a ++ b).length
noncomputable def cbC0 (b1 b2 b3 b4 : Bool) (a b : List Con) (ta tb : List Int) (cs : List Con) : Ctr Tryz.prog := ⟨61, [encCs b1 a, encCs b2 b, encUs b3 ta, encUs b4 tb], [], .need (CbIn a b ta tb ∧ bothE a b ta tb = 0 ∧ cs = conB a b ta tb) (cbT0 cs), T.Sat.need fun h => by
  obtain ⟨⟨h1, h2, h3, h4, h5, h6⟩, h7, rfl⟩ := h
  have := both_c b1 b2 b3 b4 a b ta tb h1 h2 h3 h4 h5 h6
  unfold rowE at this
  rw [h7] at this
  intro Q hq
  exact this Q ⟨fun _ => hq, fun e => by simp at e⟩⟩
noncomputable def pkC (i : Int) (b : Bool) (p : Part) : Ctr Tryz.prog := ⟨15, [.agg (encPt b p)], [], .need (PartIn p ∧ ((partOk p = true ∧ i = 0) ∨ (partOk p = false ∧ i = 165))) (.ret (.s (.int .i64 i), [], [])), T.Sat.need fun h => by
  obtain ⟨h1, h2⟩ := h
  have := pc_c b p h1
  unfold errR at this
  intro Q hq
  rcases h2 with ⟨h2, rfl⟩ | ⟨h2, rfl⟩
  · rw [h2] at this; exact this Q ⟨fun _ => hq, fun e => by simp at e⟩
  · rw [h2] at this; exact this Q ⟨fun e => by simp at e, fun _ => hq⟩⟩
structure Mrg where
  a : Part
  b : Part
  out : List Rec
  ta : List Int
  tb : List Int
  ps : List P.Producer
  cs : List Con
def Mrg.ep (x : Mrg) : Int := IntKind.u64.wrap ((if x.b.epoch > x.a.epoch then x.b.epoch else x.a.epoch) + 1)
def Mrg.m (x : Mrg) : Part := ⟨⟨x.a.rng.lo, x.b.rng.hi⟩, x.ep, 0, x.out, x.ps, x.cs⟩
def mrO (x : Mrg) : T An := .ret (.tup [.agg (encPt true x.m), .s (.int .i64 0)], [], [])
def mSub : List Nat := [54, 56, 58, 60]
noncomputable def mrK (ur um uj up uc uk : Ctr Tryz.prog) : HintsT Tryz.prog := withSh (withSub (hh _ noLp (cs1 28 1 3 ur (cs1 54 1 4 um (cs1 56 1 4 uj (cs1 58 1 6 up (cs1 60 1 6 uc (cs1 28 14 1 uk noCs)))))) noOp) mSub) (sh1 12 4 0 779 noSh)
noncomputable def mr9H (x : Mrg) : HintsT Tryz.prog := mrK (usC0 x.a x.b) (kmC0 x.a.rng x.b.rng) (joC0 true true x.a.recs x.b.recs x.out x.ta x.tb) (pbC0 true true false false x.a.prods x.b.prods x.ta x.tb x.ps) (cbC0 true true false false x.a.cons x.b.cons x.ta x.tb x.cs) (pkC 0 false x.m)
def vcM9 (x : Mrg) : Prop :=
  ((false = false ∧ (2 : Nat) = (2 : Nat) ∧ contLe (2 : Nat) (7 : Nat) (fun (k j : Nat) => Ax.get [AV.y (Value.string x.a.rng.lo), AV.y (Value.string x.a.rng.hi), AV.y (Value.int IntKind.u64 x.a.epoch), AV.y (Value.int IntKind.u64 x.a.frozen), AV.ys true (5 : Nat) (List.length x.a.recs) (cellsOf' encR x.a.recs), AV.ys true (4 : Nat) (List.length x.a.prods) (cellsOf' P.encP x.a.prods), AV.ys true (2 : Nat) (List.length x.a.cons) (cellsOf' encC x.a.cons), AV.y (Value.string x.b.rng.lo), AV.y (Value.string x.b.rng.hi), AV.y (Value.int IntKind.u64 x.b.epoch), AV.y (Value.int IntKind.u64 x.b.frozen), AV.ys true (5 : Nat) (List.length x.b.recs) (cellsOf' encR x.b.recs), AV.ys true (4 : Nat) (List.length x.b.prods) (cellsOf' P.encP x.b.prods), AV.ys true (2 : Nat) (List.length x.b.cons) (cellsOf' encC x.b.cons)] (((0 : Nat) + k) * (7 : Nat) + j)) fun (k j : Nat) => Ax.get [AV.y (Value.string x.a.rng.lo), AV.y (Value.string x.a.rng.hi), AV.y (Value.int IntKind.u64 x.a.epoch), AV.y (Value.int IntKind.u64 x.a.frozen), AV.ys true (5 : Nat) (List.length x.a.recs) (cellsOf' encR x.a.recs), AV.ys true (4 : Nat) (List.length x.a.prods) (cellsOf' P.encP x.a.prods), AV.ys true (2 : Nat) (List.length x.a.cons) (cellsOf' encC x.a.cons), AV.y (Value.string x.b.rng.lo), AV.y (Value.string x.b.rng.hi), AV.y (Value.int IntKind.u64 x.b.epoch), AV.y (Value.int IntKind.u64 x.b.frozen), AV.ys true (5 : Nat) (List.length x.b.recs) (cellsOf' encR x.b.recs), AV.ys true (4 : Nat) (List.length x.b.prods) (cellsOf' P.encP x.b.prods), AV.ys true (2 : Nat) (List.length x.b.cons) (cellsOf' encC x.b.cons)] (k * (7 : Nat) + j)) ∧ True) ∧ True ∧ (PartTy x.a ∧ PartTy x.b ∧ bad x.a = false ∧ bad x.b = false ∧ live2 x.a x.b = false) ∧ true = true ∧ True ∧ ((x.a.rng.lo = x.a.rng.lo ∧ x.a.rng.hi = x.a.rng.hi ∧ True) ∧ (x.b.rng.lo = x.b.rng.lo ∧ x.b.rng.hi = x.b.rng.hi ∧ True) ∧ True) ∧ True ∧ kmE x.a.rng x.b.rng = (0 : Int) ∧ ((true = true ∧ List.length x.a.recs = List.length x.a.recs ∧ contLe (List.length x.a.recs) (5 : Nat) (cellsOf' encR x.a.recs) (cellsOf' encR x.a.recs)) ∧ (true = true ∧ List.length x.b.recs = List.length x.b.recs ∧ contLe (List.length x.b.recs) (5 : Nat) (cellsOf' encR x.b.recs) (cellsOf' encR x.b.recs)) ∧ True) ∧ True ∧ JoinOk x.a.recs x.b.recs x.out x.ta x.tb ∧ ((true = true ∧ List.length x.a.prods = List.length x.a.prods ∧ contLe (List.length x.a.prods) (4 : Nat) (cellsOf' P.encP x.a.prods) (cellsOf' P.encP x.a.prods)) ∧ (true = true ∧ List.length x.b.prods = List.length x.b.prods ∧ contLe (List.length x.b.prods) (4 : Nat) (cellsOf' P.encP x.b.prods) (cellsOf' P.encP x.b.prods)) ∧ (false = false ∧ List.length x.ta = List.length x.ta ∧ contLe (List.length x.ta) (1 : Nat) (Ax.rowAt (0 : Nat) (cellsOf' encU x.ta)) (cellsOf' encU x.ta)) ∧ (false = false ∧ List.length x.tb = List.length x.tb ∧ contLe (List.length x.tb) (1 : Nat) (Ax.rowAt (0 : Nat) (cellsOf' encU x.tb)) (cellsOf' encU x.tb)) ∧ True) ∧ True ∧ (PbIn x.a.prods x.b.prods x.ta x.tb ∧ P.bothE x.a.prods x.b.prods x.ta x.tb = (0 : Int) ∧ x.ps = P.bothL x.a.prods x.b.prods x.ta x.tb) ∧ true = true ∧ ((∀ (k : Nat), k < List.length x.ps → ∀ (j : Nat), j < (4 : Nat) → tagT (cellsOf' P.encP x.ps k j) = true) ∧ True) ∧ ((true = true ∧ List.length x.a.cons = List.length x.a.cons ∧ contLe (List.length x.a.cons) (2 : Nat) (cellsOf' encC x.a.cons) (cellsOf' encC x.a.cons)) ∧ (true = true ∧ List.length x.b.cons = List.length x.b.cons ∧ contLe (List.length x.b.cons) (2 : Nat) (cellsOf' encC x.b.cons) (cellsOf' encC x.b.cons)) ∧ (false = false ∧ List.length x.ta = List.length x.ta ∧ contLe (List.length x.ta) (1 : Nat) (Ax.rowAt (0 : Nat) (cellsOf' encU x.ta)) (cellsOf' encU x.ta)) ∧ (false = false ∧ List.length x.tb = List.length x.tb ∧ contLe (List.length x.tb) (1 : Nat) (Ax.rowAt (0 : Nat) (cellsOf' encU x.tb)) (cellsOf' encU x.tb)) ∧ True) ∧ True ∧ (CbIn x.a.cons x.b.cons x.ta x.tb ∧ bothE x.a.cons x.b.cons x.ta x.tb = (0 : Int) ∧ x.cs = conB x.a.cons x.b.cons x.ta x.tb) ∧ true = true ∧ ((∀ (k : Nat), k < List.length x.cs → ∀ (j : Nat), j < (2 : Nat) → tagT (cellsOf' encC x.cs k j) = true) ∧ True) ∧ ((x.a.rng.lo = x.a.rng.lo ∧ x.b.rng.hi = x.b.rng.hi ∧ IntKind.wrap IntKind.u64 ((if x.b.epoch > x.a.epoch then x.b.epoch else x.a.epoch) + (1 : Int)) = Mrg.ep x ∧ (0 : Int) = (0 : Int) ∧ (false = false ∧ List.length x.out = List.length x.out ∧ contLe (List.length x.out) (5 : Nat) (Ax.rowAt (0 : Nat) (cellsOf' encR x.out)) (cellsOf' encR x.out)) ∧ (false = false ∧ List.length x.ps = List.length x.ps ∧ contLe (List.length x.ps) (4 : Nat) (Ax.rowAt (0 : Nat) (cellsOf' P.encP x.ps)) (cellsOf' P.encP x.ps)) ∧ (false = false ∧ List.length x.cs = List.length x.cs ∧ contLe (List.length x.cs) (2 : Nat) (Ax.rowAt (0 : Nat) (cellsOf' encC x.cs)) (cellsOf' encC x.cs)) ∧ True) ∧ True) ∧ True ∧ (PartIn (Mrg.m x) ∧ (partOk (Mrg.m x) = true ∧ (0 : Int) = (0 : Int) ∨ partOk (Mrg.m x) = false ∧ (0 : Int) = (165 : Int))) ∧ true = true ∧ True ∧ (∀ (k : Nat), k < List.length x.out → ∀ (j : Nat), j < (5 : Nat) → tagT (cellsOf' encR x.out k j) = true) ∧ (∀ (k : Nat), k < List.length x.ps → ∀ (j : Nat), j < (4 : Nat) → tagT (cellsOf' P.encP x.ps k j) = true) ∧ (∀ (k : Nat), k < List.length x.cs → ∀ (j : Nat), j < (2 : Nat) → tagT (cellsOf' encC x.cs k j) = true) ∧ ((x.a.rng.lo = x.a.rng.lo ∧ x.b.rng.hi = x.b.rng.hi ∧ IntKind.wrap IntKind.u64 ((if x.b.epoch > x.a.epoch then x.b.epoch else x.a.epoch) + (1 : Int)) = Mrg.ep x ∧ (0 : Int) = (0 : Int) ∧ (true = true ∧ List.length x.out = List.length x.out ∧ contLe (List.length x.out) (5 : Nat) (Ax.rowAt (0 : Nat) (cellsOf' encR x.out)) (cellsOf' encR x.out)) ∧ (true = true ∧ List.length x.ps = List.length x.ps ∧ contLe (List.length x.ps) (4 : Nat) (Ax.rowAt (0 : Nat) (cellsOf' P.encP x.ps)) (cellsOf' P.encP x.ps)) ∧ (true = true ∧ List.length x.cs = List.length x.cs ∧ contLe (List.length x.cs) (2 : Nat) (Ax.rowAt (0 : Nat) (cellsOf' encC x.cs)) (cellsOf' encC x.cs)) ∧ True) ∧ (0 : Int) = (0 : Int) ∧ True) ∧ True
set_option maxRecDepth 1000000 in
theorem vcM9_eq (x : Mrg) : (ctrVC Tryz.prog (mr9H x) 12 [.agg (encPt true x.a), .agg (encPt true x.b)] [] (mrO x)) = vcM9 x := by kernel_rfl
structure MrgIn (x : Mrg) : Prop where
  ta : PartTy x.a
  tb : PartTy x.b
  ba : bad x.a = false
  bb : bad x.b = false
  lv : live2 x.a x.b = false
structure MrgOk (x : Mrg) : Prop where
  i : MrgIn x
  km : kmE x.a.rng x.b.rng = 0
  jo : JoinOk x.a.recs x.b.recs x.out x.ta x.tb
  pi : PbIn x.a.prods x.b.prods x.ta x.tb
  pe : P.bothE x.a.prods x.b.prods x.ta x.tb = 0
  ps : x.ps = P.bothL x.a.prods x.b.prods x.ta x.tb
  ci : CbIn x.a.cons x.b.cons x.ta x.tb
  ce : bothE x.a.cons x.b.cons x.ta x.tb = 0
  cs : x.cs = conB x.a.cons x.b.cons x.ta x.tb
  oi : PartIn x.m
  ok : partOk x.m = true
end Go.Proofs.YtckklclehofddaaGreatDoor.D

/-! Lineage: the contract of Merge. -/
namespace Go.Proofs.YtckklclehofddaaGreatDoor.D
open Go.Ax
set_option maxRecDepth 1000000
theorem tRs (l : List Rec) : ∀ (k : Nat), k < l.length → ∀ (j : Nat), j < 5 → tagT (cellsOf' encR l k j) = true := fun k _ j hj => tagR _ j hj
theorem tPs (l : List P.Producer) : ∀ (k : Nat), k < l.length → ∀ (j : Nat), j < 4 → tagT (cellsOf' P.encP l k j) = true := fun k _ j hj => tagP _ j hj
theorem tCs (l : List Con) : ∀ (k : Nat), k < l.length → ∀ (j : Nat), j < 2 → tagT (cellsOf' encC l k j) = true := fun k _ j hj => tagC _ j hj
theorem ep_eq (x : Mrg) : IntKind.u64.wrap ((if x.b.epoch > x.a.epoch then x.b.epoch else x.a.epoch) + 1) = x.ep := rfl
theorem m9_c (x : Mrg) (h : MrgOk x) : (mrO x).Sat (ACall' Tryz.prog 12 [.agg (encPt true x.a), .agg (encPt true x.b)] []) := by
  refine ctr_vc (ht := mr9H x) Tryz.mixed rfl ?_
  rw [vcM9_eq x]
  unfold vcM9
  obtain ⟨⟨h1, h2, h3, h4, h5⟩, h6, h7, h8, h9, h10, h11, h12, h13, h14, h15⟩ := h
  simp only [rowAt_zero, Nat.zero_add]
  have t1 := tRs x.out
  have t2 := tPs x.ps
  have t3 := tCs x.cs
  simp only [h1, h2, h3, h4, h5, h6, h7, h8, h9, h11, h12, h14, h15, ep_eq, contLe_refl, sameC_refl, and_true, true_and, true_or]
  repeat' with_reducible apply And.intro
  all_goals first | rfl | assumption | skip
end Go.Proofs.YtckklclehofddaaGreatDoor.D

/-! Lineage: the law Three: the conditions. -/
namespace Go.Proofs.YtckklclehofddaaGreatDoor.D
open Go.Ax
set_option maxRecDepth 1000000
/-! alike, of one -/
/-! Split by the case -/
def okT (A B : Part) : T An := .ret (.tup [.agg (encPt true A), .agg (encPt true B), .s (.int .i64 0)], [], [])
structure SplOk (p : Part) (k : ByteArray) (A B : Part) : Prop where
  ty : PartTy p
  sz : k.size ≤ 9223372036854775807
  v : splitE p k = 0
  a : A = partOf p (rLow p.rng k)
  b : B = partOf p (rHigh p.rng k)
noncomputable def okC (p : Part) (k : ByteArray) (A B : Part) : Ctr Tryz.prog := ⟨9, [.agg (encPt true p), .y (.string k)], [], .need (SplOk p k A B) (okT A B), T.Sat.need fun h => by
  have := split_c p k h.ty h.sz
  unfold splitT at this
  rw [h.v] at this
  intro Q hq
  rw [h.a, h.b] at hq
  exact this Q ⟨fun _ => hq, fun e => by simp at e⟩⟩
/-! lives -/
def kc : ByteArray := ⟨#[99]⟩
def someP : Part := ⟨⟨ByteArray.empty, ByteArray.empty⟩, 3, 1, [⟨0, ⟨#[97]⟩, [], 7, 1⟩, ⟨1, ⟨#[109]⟩, [], 7, 2⟩, ⟨2, ⟨#[98]⟩, [], 8, 1⟩], [⟨7, 2, true, 1⟩, ⟨8, 1, true, 2⟩], [⟨⟨#[99]⟩, 2⟩]⟩
noncomputable def livH : HintsT Tryz.prog := withSh (hh _ noLp (cs1 8 1 1 (okC someP kc (partOf someP (rLow someP.rng kc)) (partOf someP (rHigh someP.rng kc))) noCs) noOp) (sh1 10 1 9 779 noSh)
def vcLiv (u : Unit) : Prop :=
  (({ data := #[] : ByteArray } = ByteArray.empty ∧ { data := #[] : ByteArray } = ByteArray.empty ∧ (3 : Int) = (3 : Int) ∧ (1 : Int) = (1 : Int) ∧ (true = true ∧ (3 : Nat) = (3 : Nat) ∧ contLe (3 : Nat) (5 : Nat) (Ax.rowAt (0 : Nat) fun (k j : Nat) => Ax.get [AV.s (Value.int IntKind.u64 (0 : Int)), AV.s (Value.string { data := #[(97 : UInt8)] : ByteArray }), AV.s (Value.slice none (0 : Nat) (0 : Nat)), AV.s (Value.int IntKind.u64 (7 : Int)), AV.s (Value.int IntKind.u64 (1 : Int)), AV.s (Value.int IntKind.u64 (1 : Int)), AV.s (Value.string { data := #[(109 : UInt8)] : ByteArray }), AV.s (Value.slice none (0 : Nat) (0 : Nat)), AV.s (Value.int IntKind.u64 (7 : Int)), AV.s (Value.int IntKind.u64 (2 : Int)), AV.s (Value.int IntKind.u64 (2 : Int)), AV.s (Value.string { data := #[(98 : UInt8)] : ByteArray }), AV.s (Value.slice none (0 : Nat) (0 : Nat)), AV.s (Value.int IntKind.u64 (8 : Int)), AV.s (Value.int IntKind.u64 (1 : Int))] (k * (5 : Nat) + j)) (cellsOf' encR [{ off := (0 : Int), key := { data := #[(97 : UInt8)] : ByteArray }, val := [], prod := (7 : Int), seq := (1 : Int) : Rec }, { off := (1 : Int), key := { data := #[(109 : UInt8)] : ByteArray }, val := [], prod := (7 : Int), seq := (2 : Int) : Rec }, { off := (2 : Int), key := { data := #[(98 : UInt8)] : ByteArray }, val := [], prod := (8 : Int), seq := (1 : Int) : Rec }])) ∧ (true = true ∧ (2 : Nat) = (2 : Nat) ∧ contLe (2 : Nat) (4 : Nat) (Ax.rowAt (0 : Nat) fun (k j : Nat) => Ax.get [AV.s (Value.int IntKind.u64 (7 : Int)), AV.s (Value.int IntKind.u64 (2 : Int)), AV.s (Value.bool true), AV.s (Value.int IntKind.u64 (1 : Int)), AV.s (Value.int IntKind.u64 (8 : Int)), AV.s (Value.int IntKind.u64 (1 : Int)), AV.s (Value.bool true), AV.s (Value.int IntKind.u64 (2 : Int))] (k * (4 : Nat) + j)) (cellsOf' P.encP [{ id := (7 : Int), seq := (2 : Int), here := true, offset := (1 : Int) : P.Producer }, { id := (8 : Int), seq := (1 : Int), here := true, offset := (2 : Int) : P.Producer }])) ∧ (true = true ∧ (1 : Nat) = (1 : Nat) ∧ contLe (1 : Nat) (2 : Nat) (Ax.rowAt (0 : Nat) fun (k j : Nat) => Ax.get [AV.s (Value.string { data := #[(99 : UInt8)] : ByteArray }), AV.s (Value.int IntKind.u64 (2 : Int))] (k * (2 : Nat) + j)) (cellsOf' encC [{ name := { data := #[(99 : UInt8)] : ByteArray }, off := (2 : Int) : Con }])) ∧ True) ∧ { data := #[(99 : UInt8)] : ByteArray } = kc ∧ True) ∧ True ∧ SplOk someP kc (partOf someP (rLow { lo := ByteArray.empty, hi := ByteArray.empty : Rng } kc)) (partOf someP (rHigh { lo := ByteArray.empty, hi := ByteArray.empty : Rng } kc)) ∧ (true = true → (true = true → true = true ∧ True) ∧ (true = false → false = true ∧ True)) ∧ (true = false → false = true ∧ True)
set_option maxRecDepth 1000000 in
theorem vcLiv_eq (u : Unit) : (ctrVC Tryz.prog livH 8 [] [] (boolR true)) = vcLiv u := by kernel_rfl
theorem liv_c : (boolR true).Sat (ACall' Tryz.prog 8 [] []) := by
  refine ctr_vc (ht := livH) Tryz.mixed rfl ?_
  rw [vcLiv_eq ()]
  unfold vcLiv
  have h1 : PartTy someP := by
    refine ⟨by decide, by decide, by decide, ?_, ?_⟩
    · intro x hx
      simp [someP] at hx
      rcases hx with rfl | rfl <;> decide
    · intro x hx
      simp [someP] at hx
      subst hx
      exact ⟨by decide, by decide⟩
  have two : ∀ {a b : Nat} {c c' : Nat → Nat → AV}, (∀ k, k < a → ∀ j, j < b → le0 (c k j) (c' k j)) → contLe a b c c' := fun h => h
  refine ⟨⟨⟨rfl, rfl, rfl, rfl, ⟨rfl, rfl, ?_⟩, ⟨rfl, rfl, ?_⟩, ⟨rfl, rfl, ?_⟩, trivial⟩, rfl, trivial⟩, trivial, ⟨h1, by decide, rfl, rfl, rfl⟩, fun _ => ⟨fun _ => ⟨rfl, trivial⟩, fun e => by cases e⟩, fun e => by cases e⟩
  · intro k hk j hj
    match k, hk, j, hj with
    | 0, _, 0, _ | 0, _, 1, _ | 0, _, 3, _ | 0, _, 4, _ | 1, _, 0, _ | 1, _, 1, _ | 1, _, 3, _ | 1, _, 4, _ | 2, _, 0, _ | 2, _, 1, _ | 2, _, 3, _ | 2, _, 4, _ => rfl
    | 0, _, 2, _ | 1, _, 2, _ | 2, _, 2, _ => rfl
  · intro k hk j hj
    match k, hk, j, hj with
    | 0, _, 0, _ | 0, _, 1, _ | 0, _, 2, _ | 0, _, 3, _ | 1, _, 0, _ | 1, _, 1, _ | 1, _, 2, _ | 1, _, 3, _ => rfl
  · intro k hk j hj
    match k, hk, j, hj with
    | 0, _, 0, _ | 0, _, 1, _ => rfl
noncomputable def livC : Ctr Tryz.prog := ⟨8, [], [], boolR true, liv_c⟩
/-! the law -/
end Go.Proofs.YtckklclehofddaaGreatDoor.D

/-! Lineage: the law Three. -/
namespace Go.Proofs.YtckklclehofddaaGreatDoor.D
open Go.Ax
set_option maxRecDepth 1000000
theorem less_tri : ∀ a b : List UInt8, Op.bytesLess a b = false → Op.bytesLess b a = false → a = b
  | [], [], _, _ => rfl
  | [], _ :: _, h, _ => by simp [Op.bytesLess] at h
  | _ :: _, [], _, h => by simp [Op.bytesLess] at h
  | a :: l, b :: m, h1, h2 => by
    simp only [Op.bytesLess, Bool.or_eq_false_iff, Bool.and_eq_false_iff, decide_eq_false_iff_not] at h1 h2
    have e : a = b := by
      have h3 := UInt8.not_lt.1 h1.1
      have h4 := UInt8.not_lt.1 h2.1
      exact UInt8.le_antisymm h4 h3
    subst e
    have h3 := h1.2.resolve_left (by simp)
    have h4 := h2.2.resolve_left (by simp)
    rw [less_tri l m h3 h4]
theorem lt_tri {a b : ByteArray} (h1 : lt a b = false) (h2 : lt b a = false) : a = b := by
  have := less_tri _ _ h1 h2
  obtain ⟨⟨a⟩⟩ := a
  obtain ⟨⟨b⟩⟩ := b
  simpa using this
theorem lt_nil {a b : ByteArray} (h : lt a b = true) : b.data.toList ≠ [] := fun e => by
  unfold lt at h
  rw [e] at h
  cases h2 : a.data.toList <;> rw [h2] at h <;> simp [Op.bytesLess] at h
theorem wrap2 (e : Int) : IntKind.u64.wrap (IntKind.u64.wrap (e + 1) + 1) = IntKind.u64.wrap (e + 2) := by
  simp [IntKind.wrap, IntKind.bits, IntKind.signed]
  omega
theorem cnt_ty {r : Rng} {l : List Rec} (hl : l.length ≤ 4096) (i : Nat) : (0 : Int) ≤ (cntR r l i : Int) ∧ (cntR r l i : Int) < 18446744073709551616 := by
  have := cnt_len r l i
  have := sel_len r l
  omega
theorem ty_of {p : Part} (hp : PartTy p) (hl : p.recs.length ≤ 4096) (r : Rng) (f : Int) : PartTy (frz (partOf p r) f) := by
  refine ⟨?_, ?_, ?_, ?_, ?_⟩
  · show (outOf r p.recs).length ≤ _
    have := sel_len r p.recs
    rw [out_len]; omega
  · show (P.moveL p.prods (toOf r p.recs)).length ≤ _
    have := hp.pl
    simp [P.moveL]; omega
  · show (mapU p.cons (toOf r p.recs) p.cons.length).length ≤ _
    have := hp.cl
    rw [map_len _ _ (by rw [toOf_len]; omega)]; omega
  · intro y hy
    obtain ⟨x, hx, rfl⟩ := List.mem_map.1 (show y ∈ p.prods.map (P.mvP (toOf r p.recs)) from hy)
    rw [mv_eq hl (hp.po x hx).1]
    split
    · exact cnt_ty hl _
    · exact ⟨Int.le_refl _, by show (0 : Int) < _; omega⟩
  · intro y hy
    have ht : (toOf r p.recs).length ≠ 0 := by rw [toOf_len]; omega
    have hy : y ∈ mapU p.cons (toOf r p.recs) p.cons.length := hy
    simp only [mapU, if_neg ht, List.take_length] at hy
    obtain ⟨x, hx, rfl⟩ := List.mem_map.1 hy
    unfold movC
    rw [el_eq hl (hp.co x hx).1]
    exact cnt_ty hl _
theorem frz_ok (p : Part) (f : Int) : partOk (frz p f) = partOk p := rfl
/-- what Split says yes to -/
theorem split_ok {p : Part} {k : ByteArray} : splitE p k = 0 ↔ partOk p = true ∧ IntKind.u64.wrap (p.epoch + 1) ≠ 0 ∧ p.frozen ≠ 0 ∧ splE p.rng k = 0 := by
  unfold splitE bad
  cases h1 : partOk p
  · simp
  · by_cases h2 : IntKind.u64.wrap (p.epoch + 1) = 0
    · simp [h2]
    · by_cases h3 : p.frozen = 0
      · simp [h2, h3]
      · simp [h2, h3]
end Go.Proofs.YtckklclehofddaaGreatDoor.D

/-! Records: the law RecordsReaders. -/
namespace Go.Proofs.YtckklclehofddaaGreatDoor
open Go.Ax
set_option maxRecDepth 1000000
end Go.Proofs.YtckklclehofddaaGreatDoor

/-! Records: the law RecordsReaders: the proof. -/
namespace Go.Proofs.YtckklclehofddaaGreatDoor
open Go.Ax
set_option maxRecDepth 1000000
end Go.Proofs.YtckklclehofddaaGreatDoor

/-! Records: the law RecordsUnread: the conditions. -/
namespace Go.Proofs.YtckklclehofddaaGreatDoor
open Go.Ax
set_option maxRecDepth 1000000
def cB : ByteArray := ⟨#[99]⟩
def joOk (a b : List Rec) : Bool := (isLog a && isLog b) && (decide (a.length + b.length ≤ 4096) && (jo0 a b).run.isSome)
def dead (d : Nat) : List Blk := List.replicate d .dead
end Go.Proofs.YtckklclehofddaaGreatDoor

/-! Records: the law RecordsUnread: the plain laws. -/
namespace Go.Proofs.YtckklclehofddaaGreatDoor
open Go.Ax
set_option maxRecDepth 1000000
/-! what is kept -/
/-! two logs as one: the offsets do not go down -/
def nd (t : List Int) : Prop := ∀ i j, i ≤ j → j < t.length → t.getD i 0 ≤ t.getD j 0
def bd (t : List Int) (n : Int) : Prop := ∀ i, i < t.length → 0 ≤ t.getD i 0 ∧ t.getD i 0 ≤ n
theorem snoc_at (t : List Int) (n : Int) (i : Nat) (h : i < (t ++ [n]).length) : (t ++ [n]).getD i 0 = if i < t.length then t.getD i 0 else n := by
  rw [List.length_append, List.length_singleton] at h
  split
  · rename_i h1
    rw [List.getD_eq_getElem?_getD, List.getElem?_append_left h1, List.getD_eq_getElem?_getD]
  · rename_i h1
    obtain rfl : i = t.length := by omega
    rw [List.getD_eq_getElem?_getD, List.getElem?_append_right (Nat.le_refl _)]
    simp
theorem bd_snoc {t : List Int} {n m : Int} (h : bd t n) (h0 : 0 ≤ n) (hm : n ≤ m) : bd (t ++ [n]) m := by
  intro i hi
  rw [snoc_at t n i hi]
  split
  · rename_i h1
    have := h i h1; omega
  · omega
theorem bd_up {t : List Int} {n m : Int} (h : bd t n) (hm : n ≤ m) : bd t m := fun i hi => by
  have := h i hi; omega
theorem nd_snoc {t : List Int} {n : Int} (h : nd t) (hb : bd t n) : nd (t ++ [n]) := by
  intro i j hij hj
  have hi : i < (t ++ [n]).length := by omega
  rw [snoc_at t n i hi, snoc_at t n j hj]
  by_cases h1 : j < t.length
  · rw [if_pos h1, if_pos (show i < t.length by omega)]
    exact h i j hij h1
  · rw [if_neg h1]
    split
    · rename_i h2
      exact (hb i h2).2
    · exact Int.le_refl _
structure JI (A B : Nat) (s : Jo) : Prop where
  la : s.ta.length + s.a.length = A
  lb : s.tb.length + s.b.length = B
  n : s.out.length = s.ta.length + s.tb.length
  na : nd s.ta
  ba : bd s.ta (s.out.length : Nat)
  nb : nd s.tb
  bb : bd s.tb (s.out.length : Nat)
theorem at_eq {A B : Nat} {s : Jo} (h : JI A B s) (hn : A + B ≤ 4096) : s.at = (s.out.length : Nat) := by
  have h1 := h.la
  have h2 := h.lb
  have h3 := h.n
  unfold Jo.at
  rw [wrap_u64 (by omega) (by omega)]
theorem goA_ok {A B : Nat} {s : Jo} (h : JI A B s) (hn : A + B ≤ 4096) (ht : 0 < s.a.length) : JI A B s.goA := by
  have e := at_eq h hn
  have h1 := h.la
  have h3 := h.n
  have hb := h.ba
  have hl : (s.out ++ [(hd s.a).to s.at]).length = s.out.length + 1 := by simp
  refine ⟨?_, h.lb, ?_, ?_, ?_, h.nb, ?_⟩ <;> unfold Jo.goA <;> dsimp only
  · simp; omega
  · rw [hl]; simp; omega
  · rw [e]; exact nd_snoc h.na hb
  · rw [hl, e]; exact bd_snoc hb (by omega) (by omega)
  · rw [hl]; exact bd_up h.bb (by omega)
theorem goB_ok {A B : Nat} {s : Jo} (h : JI A B s) (hn : A + B ≤ 4096) (ht : 0 < s.b.length) : JI A B s.goB := by
  have e := at_eq h hn
  have h1 := h.lb
  have h3 := h.n
  have hb := h.bb
  have hl : (s.out ++ [(hd s.b).to s.at]).length = s.out.length + 1 := by simp
  refine ⟨h.la, ?_, ?_, h.na, ?_, ?_, ?_⟩ <;> unfold Jo.goB <;> dsimp only
  · simp; omega
  · rw [hl]; simp; omega
  · rw [hl]; exact bd_up h.ba (by omega)
  · rw [e]; exact nd_snoc h.nb hb
  · rw [hl, e]; exact bd_snoc hb (by omega) (by omega)
theorem pos_of_ne {l : List Rec} (h : (!l.isEmpty) = true) : 0 < l.length := by
  cases l
  · simp at h
  · simp
theorem joinN_ok {A B : Nat} (hn : A + B ≤ 4096) : ∀ (n : Nat) (s s' : Jo), n = s.a.length + s.b.length → JI A B s → joinN n s = some s' → JI A B s' ∧ s'.a = [] ∧ s'.b = []
  | 0, s, s', e, h, hj => by
    rw [joinN] at hj
    cases hj
    exact ⟨h, List.eq_nil_of_length_eq_zero (by omega), List.eq_nil_of_length_eq_zero (by omega)⟩
  | n + 1, s, s', e, h, hj => by
    rw [joinN] at hj
    by_cases hA : s.tA = true
    · rw [if_pos hA] at hj
      have hp : 0 < s.a.length := pos_of_ne (by unfold Jo.tA at hA; rw [Bool.and_eq_true] at hA; exact hA.1)
      exact joinN_ok hn n s.goA s' (by unfold Jo.goA; dsimp only; rw [List.length_tail]; omega) (goA_ok h hn hp) hj
    · rw [if_neg hA] at hj
      by_cases hB : s.tB = true
      · rw [if_pos hB] at hj
        have hp : 0 < s.b.length := pos_of_ne (by unfold Jo.tB at hB; rw [Bool.and_eq_true] at hB; exact hB.1)
        exact joinN_ok hn n s.goB s' (by unfold Jo.goB; dsimp only; rw [List.length_tail]; omega) (goB_ok h hn hp) hj
      · rw [if_neg hB] at hj
        cases hj
structure JE (A B : Nat) (s : Jo) : Prop where
  la : s.ta.length = A + 1
  lb : s.tb.length = B + 1
  n : s.out.length = A + B
  na : nd s.ta
  ba : bd s.ta (s.out.length : Nat)
  nb : nd s.tb
  bb : bd s.tb (s.out.length : Nat)
theorem run_je {a b : List Rec} (h : joOk a b = true) : JE a.length b.length ((jo0 a b).run.getD (jo0 a b)).end := by
  unfold joOk at h
  obtain ⟨_, h2⟩ := (Bool.and_eq_true _ _).mp h
  obtain ⟨h2, h3⟩ := (Bool.and_eq_true _ _).mp h2
  have hn := of_decide_eq_true h2
  obtain ⟨s, hs⟩ := Option.isSome_iff_exists.1 h3
  rw [hs, Option.getD_some]
  have h0 : JI a.length b.length (jo0 a b) := ⟨by simp [jo0], by simp [jo0], by simp [jo0], by intro i j _ hj; simp [jo0] at hj, by intro i hi; simp [jo0] at hi, by intro i j _ hj; simp [jo0] at hj, by intro i hi; simp [jo0] at hi⟩
  obtain ⟨g, ea, eb⟩ := joinN_ok hn _ (jo0 a b) s rfl h0 hs
  have e := at_eq g hn
  have g1 := g.la
  have g2 := g.lb
  have g3 := g.n
  rw [ea] at g1
  rw [eb] at g2
  simp at g1 g2
  refine ⟨?_, ?_, ?_, ?_, ?_, ?_, ?_⟩ <;> unfold Jo.end <;> dsimp only
  · simp; omega
  · simp; omega
  · omega
  · rw [e]; exact nd_snoc g.na g.ba
  · rw [e]; exact bd_snoc g.ba (by omega) (by omega)
  · rw [e]; exact nd_snoc g.nb g.bb
  · rw [e]; exact bd_snoc g.bb (by omega) (by omega)
end Go.Proofs.YtckklclehofddaaGreatDoor

/-! Records: among, stands, rises: the conditions. -/
namespace Go.Proofs.YtckklclehofddaaGreatDoor
open Go.Ax
set_option maxRecDepth 1000000
end Go.Proofs.YtckklclehofddaaGreatDoor

/-! Records: the law RecordsOrder: the conditions. -/
namespace Go.Proofs.YtckklclehofddaaGreatDoor
open Go.Ax
set_option maxRecDepth 1000000
structure Stn (j a : List Rec) (to : List Int) : Prop where
  n : to.length = a.length + 1
  up : ∀ k, k < a.length → to.getD k 0 < to.getD (k + 1) 0
  lo : ∀ k, k < a.length → 0 ≤ to.getD k 0
  hi : ∀ k, k < a.length → to.getD k 0 < j.length
  eq : ∀ k, k < a.length → j.getD (to.getD k 0).toNat default = (a.getD k default).to (to.getD k 0)
  jl : j.length ≤ 4096
structure Ord where
  a : List Rec
  b : List Rec
  r : Rng
  K : Ke
  J : Jo
instance : Inhabited Ord := ⟨⟨[], [], default, ⟨[], []⟩, ⟨[], [], [], [], []⟩⟩⟩
def orT (o : Ord) (k : Nat) : List AV := mkT 203 [(0, encRs true o.a), (1, encRs true o.b), (5, .ptr 0 0 0 0), (7, .y (.bool true)), (8, .own 1 5 0 o.K.out.length), (9, .own 2 1 0 o.K.to.length), (10, .y (.int .i64 k))]
end Go.Proofs.YtckklclehofddaaGreatDoor

/-! Records: the law RecordsOrder: the plain laws. -/
namespace Go.Proofs.YtckklclehofddaaGreatDoor
open Go.Ax
set_option maxRecDepth 1000000
theorem snocR (t : List Rec) (n : Rec) (i : Nat) : (t ++ [n]).getD i default = if i < t.length then t.getD i default else if i = t.length then n else default := by
  split
  · rename_i h1
    rw [List.getD_eq_getElem?_getD, List.getElem?_append_left h1, List.getD_eq_getElem?_getD]
  · rename_i h1
    rw [List.getD_eq_getElem?_getD, List.getElem?_append_right (by omega)]
    split
    · rename_i h2
      rw [h2, Nat.sub_self]; rfl
    · rename_i h2
      rw [List.getElem?_eq_none (by simp; omega)]; rfl
/-! what is kept -/
/-! two logs as one -/
structure Sd (x0 x : List Rec) (t : List Int) (out : List Rec) : Prop where
  dr : x = x0.drop t.length
  le : t.length ≤ x0.length
  up : ∀ k, k + 1 < t.length → t.getD k 0 < t.getD (k + 1) 0
  lo : ∀ k, k < t.length → 0 ≤ t.getD k 0 ∧ t.getD k 0 < out.length
  eq : ∀ k, k < t.length → out.getD (t.getD k 0).toNat default = (x0.getD k default).to (t.getD k 0)
theorem Sd.other {x0 x : List Rec} {t : List Int} {out : List Rec} (h : Sd x0 x t out) (z : Rec) : Sd x0 x t (out ++ [z]) where
  dr := h.dr
  le := h.le
  up := h.up
  lo := fun k hk => by
    have := h.lo k hk
    have hn : (out ++ [z]).length = out.length + 1 := by simp
    rw [hn]; omega
  eq := fun k hk => by
    have := h.lo k hk
    rw [snocR, if_pos (by omega)]
    exact h.eq k hk
theorem Sd.push {x0 x : List Rec} {t : List Int} {out : List Rec} (h : Sd x0 x t out) (hp : 0 < x.length) : Sd x0 x.tail (t ++ [(out.length : Int)]) (out ++ [(hd x).to (out.length : Int)]) where
  dr := by rw [h.dr]; simp
  le := by
    have := h.dr; rw [this] at hp; simp at hp ⊢; omega
  up := fun k hk => by
    simp at hk
    rw [snoc_at t _ k (by simp; omega), snoc_at t _ (k + 1) (by simp; omega), if_pos (by omega)]
    split
    · rename_i h1; exact h.up k h1
    · exact (h.lo k (by omega)).2
  lo := fun k hk => by
    simp at hk
    rw [snoc_at t _ k (by simp; omega)]
    split
    · rename_i h1
      have := h.lo k h1
      have hn : (out ++ [(hd x).to (out.length : Int)]).length = out.length + 1 := by simp
      rw [hn]; omega
    · have hn : (out ++ [(hd x).to (out.length : Int)]).length = out.length + 1 := by simp
      rw [hn]; omega
  eq := fun k hk => by
    simp at hk
    rw [snoc_at t _ k (by simp; omega)]
    split
    · rename_i h1
      have := h.lo k h1
      rw [snocR, if_pos (by omega)]
      exact h.eq k h1
    · obtain rfl : k = t.length := by omega
      rw [Int.toNat_natCast, snocR, if_neg (by omega), if_pos rfl]
      congr 1
      unfold hd
      rw [h.dr]
      simp
theorem Sd.fin {x0 : List Rec} {t : List Int} {out : List Rec} (h : Sd x0 [] t out) (hl : out.length ≤ 4096) : Stn out x0 (t ++ [(out.length : Int)]) := by
  have hn : t.length = x0.length := by
    have h1 := congrArg List.length h.dr
    have h2 := h.le
    simp at h1; omega
  refine ⟨by simp [hn], fun k hk => ?_, fun k hk => ?_, fun k hk => ?_, fun k hk => ?_, hl⟩
  · rw [snoc_at t _ k (by simp; omega), snoc_at t _ (k + 1) (by simp; omega), if_pos (by omega)]
    split
    · rename_i h1; exact h.up k h1
    · exact (h.lo k (by omega)).2
  · rw [snoc_at t _ k (by simp; omega), if_pos (by omega)]
    exact (h.lo k (by omega)).1
  · rw [snoc_at t _ k (by simp; omega), if_pos (by omega)]
    exact (h.lo k (by omega)).2
  · rw [snoc_at t _ k (by simp; omega), if_pos (by omega)]
    exact h.eq k (by omega)
def rP (x y : Rec) : Prop := x.prod = y.prod → x.seq ≤ y.seq
structure JR2 (a0 b0 : List Rec) (s : Jo) : Prop where
  sa : Sd a0 s.a s.ta s.out
  sb : Sd b0 s.b s.tb s.out
  lg : ∀ k, k < s.out.length → okR (s.out.getD k default) k = true
  ra : a0.Pairwise rP → b0.Pairwise rP → (s.out ++ s.a).Pairwise rP ∧ (s.out ++ s.b).Pairwise rP
theorem log_okj {l : List Rec} (h : isLog l = true) {k : Nat} (hk : k < l.length) : okR (l.getD k default) k = true := by
  unfold isLog at h
  have h1 := ((Bool.and_eq_true _ _).mp h).1
  unfold logFrom at h1
  rw [List.all_eq_true] at h1
  exact h1 k (by simp; omega)
theorem log_of {l : List Rec} (h : ∀ k, k < l.length → okR (l.getD k default) k = true) (hl : l.length ≤ 4096) : isLog l = true := by
  unfold isLog logFrom
  rw [decide_eq_true hl, Bool.and_true, List.all_eq_true]
  intro k hk
  simp at hk
  exact h k hk
theorem okR_to {x : Rec} {k n : Nat} (h : okR x k = true) (hn : n ≤ 4096) : okR (x.to (n : Int)) n = true := by
  unfold okR at h ⊢
  have h2 := ((Bool.and_eq_true _ _).mp h).2
  have e : IntKind.u64.wrap (n : Int) = n := wrap_u64 (by omega) (by omega)
  have e3 : (decide (x.key.size ≤ 32) && decide (x.val.length ≤ 256)) = true := h2
  show (!((n : Int) != IntKind.u64.wrap (n : Int)) && (decide (x.key.size ≤ 32) && decide (x.val.length ≤ 256))) = true
  rw [e, e3]
  simp
theorem low_of {x : Rec} {l : List Rec} (h : lowR l x = false) : ∀ y ∈ l, rP x y := by
  intro y hy hp
  unfold lowR at h
  rw [List.any_eq_false] at h
  have := h y hy
  unfold below at this
  rw [Bool.not_eq_true, Bool.and_eq_false_iff] at this
  rcases this with h1 | h1
  · simp at h1; exact absurd hp.symm h1
  · simp at h1; exact h1
theorem pw_push {out x y : List Rec} {o : Int} (hx : 0 < x.length) (h1 : (out ++ x).Pairwise rP) (h2 : (out ++ y).Pairwise rP) (h3 : ∀ z ∈ y, rP (hd x) z) :
    (out ++ [(hd x).to o] ++ x.tail).Pairwise rP ∧ (out ++ [(hd x).to o] ++ y).Pairwise rP := by
  obtain ⟨u, v, rfl⟩ : ∃ u v, x = u :: v := by
    cases x
    · simp at hx
    · exact ⟨_, _, rfl⟩
  have hu : hd (u :: v) = u := rfl
  rw [hu] at h3 ⊢
  rw [List.pairwise_append, List.pairwise_cons] at h1
  rw [List.pairwise_append] at h2
  obtain ⟨a1, ⟨a2, a3⟩, a4⟩ := h1
  obtain ⟨b1, b2, b3⟩ := h2
  have c : (out ++ [u.to o]).Pairwise rP := by
    rw [List.pairwise_append]
    refine ⟨a1, List.pairwise_singleton _ _, fun p hp q hq => ?_⟩
    obtain rfl := List.mem_singleton.1 hq
    exact a4 p hp u List.mem_cons_self
  refine ⟨?_, ?_⟩
  · rw [List.pairwise_append]
    refine ⟨c, a3, fun p hp q hq => ?_⟩
    rcases List.mem_append.1 hp with hp | hp
    · exact a4 p hp q (List.mem_cons_of_mem _ hq)
    · obtain rfl := List.mem_singleton.1 hp
      exact a2 q hq
  · rw [List.pairwise_append]
    refine ⟨c, b2, fun p hp q hq => ?_⟩
    rcases List.mem_append.1 hp with hp | hp
    · exact b3 p hp q hq
    · obtain rfl := List.mem_singleton.1 hp
      exact h3 q hq
theorem okx {a0 x : List Rec} {t : List Int} {out : List Rec} (h : Sd a0 x t out) (hl : isLog a0 = true) (hx : 0 < x.length) (hn : out.length ≤ 4096) : okR ((hd x).to (out.length : Int)) out.length = true := by
  have hd' : hd x = a0.getD t.length default := by
    unfold hd; rw [h.dr]; simp
  have hlt : t.length < a0.length := by
    have := h.dr; rw [this] at hx; simp at hx; omega
  rw [hd']
  exact okR_to (log_okj hl hlt) hn
theorem lg_push {out : List Rec} {z : Rec} (h : ∀ k, k < out.length → okR (out.getD k default) k = true) (hz : okR z out.length = true) : ∀ k, k < (out ++ [z]).length → okR ((out ++ [z]).getD k default) k = true := by
  intro k hk
  rw [snocR]
  split
  · rename_i h1; exact h k h1
  · obtain rfl : k = out.length := by simp at hk; omega
    rw [if_pos rfl]; exact hz
theorem joinN_jr {a0 b0 : List Rec} (la : isLog a0 = true) (lb : isLog b0 = true) : ∀ (n : Nat) (s s' : Jo), n = s.a.length + s.b.length → n + s.out.length ≤ 4096 → JR2 a0 b0 s → joinN n s = some s' → JR2 a0 b0 s' ∧ s'.a = [] ∧ s'.b = [] ∧ s'.out.length = n + s.out.length
  | 0, s, s', e, _, h, hj => by
    rw [joinN] at hj
    cases hj
    exact ⟨h, List.eq_nil_of_length_eq_zero (by omega), List.eq_nil_of_length_eq_zero (by omega), by omega⟩
  | n + 1, s, s', e, hl, h, hj => by
    have hat : s.at = (s.out.length : Int) := by unfold Jo.at; rw [wrap_u64 (by omega) (by omega)]
    rw [joinN] at hj
    by_cases hA : s.tA = true
    · rw [if_pos hA] at hj
      unfold Jo.tA at hA
      obtain ⟨hA1, hA2⟩ := (Bool.and_eq_true _ _).mp hA
      have hp : 0 < s.a.length := pos_of_ne hA1
      have hlow : lowR s.b (hd s.a) = false := by simpa using hA2
      have g : JR2 a0 b0 s.goA := by
        unfold Jo.goA
        rw [hat]
        refine ⟨h.sa.push hp, h.sb.other _, lg_push h.lg (okx h.sa la hp (by omega)), fun r1 r2 => ?_⟩
        obtain ⟨c1, c2⟩ := h.ra r1 r2
        exact pw_push hp c1 c2 (low_of hlow)
      obtain ⟨d1, d2, d3, d4⟩ := joinN_jr la lb n s.goA s' (by unfold Jo.goA; dsimp only; rw [List.length_tail]; omega) (by unfold Jo.goA; dsimp only; simp; omega) g hj
      refine ⟨d1, d2, d3, ?_⟩
      rw [d4]; unfold Jo.goA; simp; omega
    · rw [if_neg hA] at hj
      by_cases hB : s.tB = true
      · rw [if_pos hB] at hj
        unfold Jo.tB at hB
        obtain ⟨hB1, hB2⟩ := (Bool.and_eq_true _ _).mp hB
        have hp : 0 < s.b.length := pos_of_ne hB1
        have hlow : lowR s.a (hd s.b) = false := by simpa using hB2
        have g : JR2 a0 b0 s.goB := by
          unfold Jo.goB
          rw [hat]
          refine ⟨h.sa.other _, h.sb.push hp, lg_push h.lg (okx h.sb lb hp (by omega)), fun r1 r2 => ?_⟩
          obtain ⟨c1, c2⟩ := h.ra r1 r2
          exact (pw_push hp c2 c1 (low_of hlow)).symm
        obtain ⟨d1, d2, d3, d4⟩ := joinN_jr la lb n s.goB s' (by unfold Jo.goB; dsimp only; rw [List.length_tail]; omega) (by unfold Jo.goB; dsimp only; simp; omega) g hj
        refine ⟨d1, d2, d3, ?_⟩
        rw [d4]; unfold Jo.goB; simp; omega
      · rw [if_neg hB] at hj
        cases hj
structure JF (a b : List Rec) (J : Jo) : Prop where
  sa : Stn J.out a J.ta
  sb : Stn J.out b J.tb
  n : J.out.length = a.length + b.length
  lg : isLog J.out = true
  ra : a.Pairwise rP → b.Pairwise rP → J.out.Pairwise rP
theorem jf_of {a b : List Rec} (h : joOk a b = true) : JF a b ((jo0 a b).run.getD (jo0 a b)).end := by
  unfold joOk at h
  obtain ⟨h1, h2⟩ := (Bool.and_eq_true _ _).mp h
  obtain ⟨la, lb⟩ := (Bool.and_eq_true _ _).mp h1
  obtain ⟨h2, h3⟩ := (Bool.and_eq_true _ _).mp h2
  have hn := of_decide_eq_true h2
  obtain ⟨s, hs⟩ := Option.isSome_iff_exists.1 h3
  rw [hs, Option.getD_some]
  have h0 : JR2 a b (jo0 a b) := by
    refine ⟨⟨by simp [jo0], by simp [jo0], fun k hk => by simp [jo0] at hk, fun k hk => by simp [jo0] at hk, fun k hk => by simp [jo0] at hk⟩, ⟨by simp [jo0], by simp [jo0], fun k hk => by simp [jo0] at hk, fun k hk => by simp [jo0] at hk, fun k hk => by simp [jo0] at hk⟩, fun k hk => by simp [jo0] at hk, fun r1 r2 => ⟨by simpa [jo0] using r1, by simpa [jo0] using r2⟩⟩
  obtain ⟨g, ea, eb, en⟩ := joinN_jr la lb _ (jo0 a b) s rfl (by simp [jo0]; omega) h0 hs
  have en' : s.out.length = a.length + b.length := by rw [en]; simp [jo0]
  have hat : s.at = (s.out.length : Int) := by unfold Jo.at; rw [wrap_u64 (by omega) (by omega)]
  have ga := g.sa
  have gb := g.sb
  rw [ea] at ga
  rw [eb] at gb
  unfold Jo.end
  rw [hat]
  refine ⟨ga.fin (by omega), gb.fin (by omega), en', log_of g.lg (show s.out.length ≤ 4096 by omega), fun r1 r2 => ?_⟩
  have := (g.ra r1 r2).1
  rw [ea, List.append_nil] at this
  exact this
end Go.Proofs.YtckklclehofddaaGreatDoor

/-! Lineage: two states joined: there is what comes of it, or an error. -/
namespace Go.Proofs.YtckklclehofddaaGreatDoor.D
open Go.Ax
set_option maxRecDepth 1000000
structure JoAll (a b out : List Rec) (ta tb : List Int) : Prop where
  jf : JF a b ⟨[], [], out, ta, tb⟩
  ba : bd ta out.length
  bb : bd tb out.length
  na : ta.length = a.length + 1
  nb : tb.length = b.length + 1
  n : out.length = a.length + b.length
theorem jo_all {a b out : List Rec} {ta tb : List Int} (h : JoinOk a b out ta tb) : JoAll a b out ta tb := by
  obtain ⟨la, lb, hn, s, hs, rfl, rfl, rfl⟩ := h
  have hj : joOk a b = true := by simp [joOk, la, lb, hn, hs]
  have h1 := jf_of hj
  have h2 := run_je hj
  rw [hs, Option.getD_some] at h1 h2
  refine ⟨⟨h1.sa, h1.sb, h1.n, h1.lg, h1.ra⟩, ?_, ?_, h1.sa.n, h1.sb.n, h1.n⟩
  · exact h2.ba
  · exact h2.bb
theorem tab_len {l : List P.Producer} (h : P.isTable l = true) : l.length ≤ 256 := by simp [P.isTable] at h; exact h.2
theorem con_len {l : List Con} (h : isCons l = true) : l.length ≤ 64 := by simp [isCons] at h; exact h.2
end Go.Proofs.YtckklclehofddaaGreatDoor.D

/-! Lineage: the law Keeps: the conditions. -/
namespace Go.Proofs.YtckklclehofddaaGreatDoor.D
open Go.Ax
set_option maxRecDepth 1000000
end Go.Proofs.YtckklclehofddaaGreatDoor.D

/-! Lineage: the law Once: the conditions. -/
namespace Go.Proofs.YtckklclehofddaaGreatDoor.D
open Go.Ax
set_option maxRecDepth 1000000
structure SplR (p : Part) (k : ByteArray) (A B : Part) (e : Int) : Prop where
  c : (T.ret (.tup [.agg (encPt true A), .agg (encPt true B), .y (.int .i64 e)], [], []) : T An).Sat (ACall' Tryz.prog 9 [.agg (encPt true p), .y (.string k)] [])
noncomputable def srC (p : Part) (k : ByteArray) (A B : Part) (e : Int) : Ctr Tryz.prog := ⟨9, [.agg (encPt true p), .y (.string k)], [], .need (SplR p k A B e) (.ret (.tup [.agg (encPt true A), .agg (encPt true B), .y (.int .i64 e)], [], [])), T.Sat.need fun h => h.c⟩
def s0 (y : P.Producer) : Int := (if 2 > y.seq then 2 else y.seq) - 2
end Go.Proofs.YtckklclehofddaaGreatDoor.D
