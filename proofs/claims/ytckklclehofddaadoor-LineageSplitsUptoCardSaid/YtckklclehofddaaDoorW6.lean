import Derived.Test.YtckklclehofddaaDoorW3
import Derived.Test.YtckklclehofddaaDoorW5
set_option linter.unusedVariables false
set_option linter.unusedSimpArgs false
set_option linter.unusedSectionVars false
namespace Go.Proofs.YtckklclehofddaaDoor.J
open Go.Ax
set_option maxRecDepth 1000000
def duT (v : Int) (n : Nat) : List AV := mkT 20 [(0, .y (.int .u64 v)), (3, .own 0 1 0 n)]
def duM (l : List Int) : List Blk := [.row 5 1 l.length none (cellsOf' encB l)]
def duS (t : List Int) (_ : Unit) : Exit × List AV × List Blk := (.exit 0, duT (t.getLastD 0) t.dropLast.length, duM t.dropLast)
def vcDuL (t : List Int) (q : WU t) : Prop :=
  (decide ((128 : Int) ≤ q.v) = true → true = true ∧ (decide (List.length q.l = List.length q.l) && decide (List.length q.l + (1 : Nat) ≤ (9223372036854775807 : Nat)) && decide ((List.length q.l + (1 : Nat)) * (1 : Nat) ≤ (140737488355328 : Nat))) = true ∧ ∃ (j : WU t), j.f < q.f ∧ ((q.v / (128 : Int) = j.v ∧ ((0 : Nat) = (0 : Nat) ∧ List.length q.l + (1 : Nat) = List.length j.l) ∧ True) ∧ ((List.length q.l + (1 : Nat) = List.length j.l ∧ contLe (List.length q.l + (1 : Nat)) (1 : Nat) (appRow (List.length q.l) (cellsOf' encB q.l) fun (k j : Nat) => Ax.get [AV.y (Value.int IntKind.u8 (IntKind.wrap IntKind.u8 (IntKind.wrap IntKind.u8 (IntKind.wrap IntKind.u64 (↑(BitVec.toNat (BitVec.ofInt (64 : Nat) q.v &&& BitVec.ofInt (64 : Nat) (127 : Int))) : Int)) + (128 : Int))))] (k * (1 : Nat) + j)) (cellsOf' encB j.l)) ∧ True) ∧ true = true) ∧ true = true ∧ () = ()) ∧ (decide ((128 : Int) ≤ q.v) = false → (q.v = List.getLastD t (0 : Int) ∧ ((0 : Nat) = (0 : Nat) ∧ List.length q.l = List.length (List.dropLast t)) ∧ True) ∧ ((List.length q.l = List.length (List.dropLast t) ∧ contLe (List.length q.l) (1 : Nat) (cellsOf' encB q.l) (cellsOf' encB (List.dropLast t))) ∧ True) ∧ true = true)
theorem vcDuL_eq (t : List Int) (q : WU t) : (loopVC Tryd.prog (hT _) 12 2 (fun q => q.f) (fun q => duT q.v q.l.length) (fun q => duM q.l) [0, 1, 2] (fun _ => .ret ()) (duS t) q) = vcDuL t q := by kernel_rfl
end Go.Proofs.YtckklclehofddaaDoor.J

namespace Go.Proofs.YtckklclehofddaaDoor.J
open Go.Ax
set_option maxRecDepth 1000000
def anB (v : Int) : Int := IntKind.wrap IntKind.u8 (IntKind.wrap IntKind.u8 (IntKind.wrap IntKind.u64 (↑(BitVec.toNat (BitVec.ofInt 64 v &&& BitVec.ofInt 64 127)) : Int)) + 128)
theorem and127 (v : Int) : (↑(BitVec.toNat (BitVec.ofInt 64 v &&& BitVec.ofInt 64 127)) : Int) = v % 128 := by
  rw [BitVec.toNat_and]
  have e : (BitVec.ofInt 64 127).toNat = 2 ^ 7 - 1 := by decide
  rw [e, Nat.and_two_pow_sub_one_eq_mod, BitVec.toNat_ofInt]
  have h : (((v % ((2 ^ 64 : Nat) : Int)).toNat : Nat) : Int) = v % ((2 ^ 64 : Nat) : Int) := Int.toNat_of_nonneg (Int.emod_nonneg _ (by decide))
  have h2 : ((v % ((2 ^ 64 : Nat) : Int)).toNat % 2 ^ 7 : Nat) = (v % 128).toNat := by
    have h3 : ((((v % ((2 ^ 64 : Nat) : Int)).toNat % 2 ^ 7 : Nat)) : Int) = v % 128 := by
      rw [Int.natCast_emod, h]
      omega
    omega
  rw [h2]
  omega
theorem anB_eq (v : Int) : anB v = v % 128 + 128 := by
  unfold anB
  rw [and127]
  have h0 : 0 ≤ v % 128 := Int.emod_nonneg _ (by omega)
  have h1 : v % 128 < 128 := Int.emod_lt_of_pos _ (by omega)
  have e : IntKind.wrap IntKind.u64 (v % 128) = v % 128 := by
    unfold IntKind.wrap
    simp [IntKind.bits, IntKind.signed]
    omega
  rw [e, u8_mod, u8_mod]
  omega
theorem du_loop (t : List Int) (q : WU t) : LoopOk Tryd.prog 12 2 (loopAt Tryd.prog 12 2) ⟨duT q.v q.l.length, duM q.l, []⟩ (T.map (lout [0, 1, 2] (duS t)) (.ret ())) := by
  refine loop_vcH (P := Tryd.prog) (f := 12) (k := 2) (ι := WU t) (μ := fun q => q.f) (ht := fun _ => hT _) (stT := fun q => duT q.v q.l.length) (stM := fun q => duM q.l) (X := [0, 1, 2]) (o := fun _ => .ret ()) (S := duS t) Tryd.mixed (fun _ => rfl) (fun q => ?_) q
  rw [vcDuL_eq t q]
  unfold vcDuL
  have hn := q.n
  have hv0 := q.v0
  have hvf := q.vf
  have he := q.e
  by_cases h : 128 ≤ q.v
  · obtain ⟨f, hf⟩ : ∃ f, q.f = f + 1 := by
      cases hf : q.f with
      | zero => rw [hf] at hvf; simp at hvf; omega
      | succ f => exact ⟨f, rfl⟩
    have hz : decide ((128 : Int) ≤ q.v) = true := by simp; omega
    rw [hf, vint_step h] at he
    have hdiv : q.v / 128 < 128 ^ (f + 1) := by
      rw [hf] at hvf
      have : (128 : Int) ^ (f + 1 + 1) = 128 ^ (f + 1) * 128 := Int.pow_succ 128 (f + 1)
      rw [this] at hvf
      exact Int.ediv_lt_of_lt_mul (by omega) hvf
    have ha := app1_le (enc := encB) (l := q.l) (n := q.l.length) (sz := 1) (x := q.v % 128 + 128) (cs := [.y (.int .u8 (q.v % 128 + 128))]) rfl (fun j hj => le0_refl _)
    simp only [Nat.mul_one] at ha
    have hO := anB_eq q.v
    unfold anB at hO
    simp only [hz, hO]
    simp
    refine ⟨⟨by omega, by omega⟩, ⟨q.v / 128, q.l ++ [q.v % 128 + 128], f, Int.ediv_nonneg hv0 (by omega), hdiv, by simp; omega, he.trans (by simp)⟩, by show f < q.f; omega, ⟨rfl, by simp⟩, by simp, ha⟩
  · have hz : decide ((128 : Int) ≤ q.v) = false := by simp; omega
    rw [vint_end (by omega)] at he
    have h1 : t.getLastD 0 = q.v := (congrArg (fun x : List Int => x.getLastD 0) he).trans (by simp)
    have h2 : t.dropLast = q.l := (congrArg List.dropLast he).trans (by simp)
    simp only [hz, h1, h2]
    simp
end Go.Proofs.YtckklclehofddaaDoor.J

namespace Go.Proofs.YtckklclehofddaaDoor.Q
open Go.Ax Go.Proofs.YtckklclehofddaaDoor Go.Proofs.YtckklclehofddaaDoor.J
set_option maxRecDepth 1000000
def boolB (b : Bool) : List Int := [if b then 1 else 0]
def textB (t : List Int) : List Int := uintB t.length ++ t
def strB (s : ByteArray) : List Int := s.data.toList.map fun x => (x.toNat : Int)
def rngB (r : Rng) : List Int := textB (strB r.lo) ++ textB (strB r.hi)
def recB (x : Rec) : List Int := uintB x.off ++ textB (strB x.key) ++ textB x.val ++ uintB x.prod ++ uintB x.seq
def recsB (l : List Rec) : List Int := uintB (l.length : Int) ++ l.flatMap recB
def prodB (x : P.Producer) : List Int := uintB x.id ++ uintB x.seq ++ boolB x.here ++ uintB x.offset
def conB (x : Con) : List Int := textB (strB x.name) ++ uintB x.off
def hdB (p : Part) : List Int := rngB p.rng ++ uintB p.epoch ++ uintB p.frozen ++ recsB p.recs ++ uintB (p.prods.length : Int)
def prB (p : Part) (k : Nat) : List Int := hdB p ++ (p.prods.take k).flatMap prodB
def coB (p : Part) (k : Nat) : List Int := prB p p.prods.length ++ uintB (p.cons.length : Int) ++ (p.cons.take k).flatMap conB
def partB (p : Part) : List Int := coB p p.cons.length
def rowB (l : List Int) : Blk := .row 5 1 l.length none (cellsOf' encB l)
def bytesR (l : List Int) : T An := .ret (.own 0 1 0 l.length, [rowB l], [])
noncomputable def uwH (t : List Int) (q : WU t) : HintsT Tryd.prog := hh _ (lp1 12 2 (jobOf (fun q : WU t => duT q.v q.l.length) (fun q => duM q.l) [0, 1, 2] (fun _ => .ret ()) (duS t) q) noLp) noCs (op1 12 1 0 (.row 5 1) noOp)
def vcUw (t : List Int) (q : WU t) (v : Int) : Prop :=
  ((v = q.v ∧ ((0 : Nat) = (0 : Nat) ∧ (0 : Nat) = List.length q.l) ∧ True) ∧ (((0 : Nat) = List.length q.l ∧ contLe (0 : Nat) (1 : Nat) (fun (x x_1 : Nat) => AV.junk) (cellsOf' encB q.l)) ∧ True) ∧ true = true) ∧ LoopOk Tryd.prog (12 : Nat) (2 : Nat) (loopAt Tryd.prog (12 : Nat) (2 : Nat)) { t := duT q.v (List.length q.l), m := duM q.l, mv := [] : St } (T.map (lout [(0 : Nat), (1 : Nat), (2 : Nat)] (duS t)) ((fun (x : WU t) => T.ret ()) q)) ∧ (decide (List.length (List.dropLast t) = List.length (List.dropLast t)) && decide (List.length (List.dropLast t) + (1 : Nat) ≤ (9223372036854775807 : Nat)) && decide ((List.length (List.dropLast t) + (1 : Nat)) * (1 : Nat) ≤ (140737488355328 : Nat))) = true ∧ ((0 : Nat) = (0 : Nat) ∧ List.length (List.dropLast t) + (1 : Nat) = List.length t) ∧ (List.length (List.dropLast t) + (1 : Nat) = List.length t ∧ contLe (List.length (List.dropLast t) + (1 : Nat)) (1 : Nat) (appRow (List.length (List.dropLast t)) (cellsOf' encB (List.dropLast t)) fun (k j : Nat) => Ax.get [AV.y (Value.int IntKind.u8 (IntKind.wrap IntKind.u8 (List.getLastD t (0 : Int))))] (k * (1 : Nat) + j)) (cellsOf' encB t)) ∧ True
theorem vcUw_eq (t : List Int) (q : WU t) (v : Int) : (ctrVC Tryd.prog (uwH t q) 12 [.y (.int .u64 v)] [] (bytesR t)) = vcUw t q v := by kernel_rfl
theorem uw_c (v : Int) (h0 : 0 ≤ v) (h1 : v < 18446744073709551616) : (bytesR (uintB v)).Sat (ACall' Tryd.prog 12 [.y (.int .u64 v)] []) := by
  have hv : v < 128 ^ (10 + 1) := by
    have : (128 : Int) ^ (10 + 1) = 151115727451828646838272 := by decide
    omega
  obtain ⟨a, z, ha, hz0, hz1⟩ := vint_last 10 v h0 hv
  have hlen := vint_len 10 v
  have lp := du_loop (uintB v) ⟨v, [], 10, h0, hv, by decide, rfl⟩
  refine ctr_vc (ht := uwH (uintB v) ⟨v, [], 10, h0, hv, by decide, rfl⟩) Tryd.mixed rfl ?_
  rw [vcUw_eq (uintB v) ⟨v, [], 10, h0, hv, by decide, rfl⟩ v]
  unfold vcUw
  have e1 : (uintB v).dropLast = a := by unfold uintB; rw [ha]; simp
  have e2 : (uintB v).getLastD 0 = z := by unfold uintB; rw [ha]; simp
  have e3 : uintB v = a ++ [z] := ha
  have hz8 : IntKind.wrap IntKind.u8 z = z := by rw [u8_mod]; omega
  have hal : a.length ≤ 10 := by rw [ha] at hlen; simp at hlen; omega
  have hr := app1_le (enc := encB) (l := a) (n := a.length) (sz := 1) (x := z) (cs := [.y (.int .u8 z)]) rfl (fun j hj => le0_refl _)
  simp only [Nat.mul_one] at hr
  have e4 : (uintB v).length = a.length + 1 := by unfold uintB; rw [ha]; simp
  simp only [e1, e2, hz8]
  simp [lp]
  repeat' with_reducible apply And.intro
  all_goals first
    | omega
    | (simpa using lp)
    | (rw [e3]; exact hr)
structure UwOk (v : Int) : Prop where
  v0 : 0 ≤ v
  v1 : v < 18446744073709551616
noncomputable def uwC (v : Int) : Ctr Tryd.prog := ⟨12, [.y (.int .u64 v)], [], .need (UwOk v) (bytesR (uintB v)), T.Sat.need fun h => uw_c v h.v0 h.v1⟩
noncomputable def txH (n : Nat) : HintsT Tryd.prog := hh _ noLp (cs1 15 1 3 (uwC (n : Int)) noCs) noOp
def vcTx (f : Bool) (b : List Int) : Prop :=
  (IntKind.wrap IntKind.u64 (↑(List.length b) : Int) = (↑(List.length b) : Int) ∧ True) ∧ True ∧ UwOk (↑(List.length b) : Int) ∧ (decide (List.length (uintB (↑(List.length b) : Int)) = List.length (uintB (↑(List.length b) : Int))) && decide (List.length (uintB (↑(List.length b) : Int)) + List.length b ≤ (9223372036854775807 : Nat)) && decide ((List.length (uintB (↑(List.length b) : Int)) + List.length b) * (1 : Nat) ≤ (140737488355328 : Nat))) = true ∧ ((0 : Nat) = (0 : Nat) ∧ List.length (uintB (↑(List.length b) : Int)) + List.length b = List.length (textB b)) ∧ (List.length (uintB (↑(List.length b) : Int)) + List.length b = List.length (textB b) ∧ contLe (List.length (uintB (↑(List.length b) : Int)) + List.length b) (1 : Nat) (appRow (List.length (uintB (↑(List.length b) : Int))) (cellsOf' encB (uintB (↑(List.length b) : Int))) (cellsOf' encB b)) (cellsOf' encB (textB b))) ∧ True
theorem vcTx_eq (f : Bool) (b : List Int) : (ctrVC Tryd.prog (txH b.length) 15 [encBs f b] [] (bytesR (textB b))) = vcTx f b := by kernel_rfl
theorem catB_le (l r : List Int) : contLe (l.length + r.length) 1 (appRow l.length (cellsOf' encB l) (cellsOf' encB r)) (cellsOf' encB (l ++ r)) := by
  intro k hk j hj
  unfold appRow cellsOf'
  by_cases h : k < l.length
  · rw [if_pos h]
    have : (l ++ r).getD k default = l.getD k default := by simp [List.getElem?_append_left h]
    rw [this]; exact le0_refl _
  · rw [if_neg h]
    have : (l ++ r).getD k default = r.getD (k - l.length) default := by simp [List.getElem?_append_right (by omega : l.length ≤ k)]
    rw [this]; exact le0_refl _
theorem uintB_len (v : Int) : (uintB v).length ≤ 11 := vint_len 10 v
theorem tx_c (f : Bool) (b : List Int) (h : b.length ≤ 1099511627776) : (bytesR (textB b)).Sat (ACall' Tryd.prog 15 [encBs f b] []) := by
  refine ctr_vc (ht := txH b.length) Tryd.mixed rfl ?_
  rw [vcTx_eq f b]
  unfold vcTx
  have hw : IntKind.u64.wrap (b.length : Int) = b.length := wrap_u64 (by omega) (by omega)
  have hu : UwOk (b.length : Int) := ⟨by omega, by omega⟩
  have hl := uintB_len (b.length : Int)
  have hc := catB_le (uintB b.length) b
  simp only [hw, textB]
  simp [hu, hc]
  try omega
noncomputable def txC (f : Bool) (b : List Int) : Ctr Tryd.prog := ⟨15, [encBs f b], [], .need (b.length ≤ 1099511627776) (bytesR (textB b)), T.Sat.need fun h => tx_c f b h⟩
noncomputable def rgH (r : Rng) : HintsT Tryd.prog := hh _ noLp (cs1 11 1 3 (txC true (strB r.lo)) (cs1 11 1 7 (txC true (strB r.hi)) noCs)) noOp
def vcRg (r : Rng) : Prop :=
  ((true = true ∧ ByteArray.size r.lo = List.length (strB r.lo) ∧ contLe (ByteArray.size r.lo) (1 : Nat) (fun (k x : Nat) => AV.y (Value.int IntKind.u8 (↑(UInt8.toNat (List.getD r.lo.data.toList k (0 : UInt8))) : Int))) (cellsOf' encB (strB r.lo))) ∧ True) ∧ True ∧ List.length (strB r.lo) ≤ (1099511627776 : Nat) ∧ ((true = true ∧ ByteArray.size r.hi = List.length (strB r.hi) ∧ contLe (ByteArray.size r.hi) (1 : Nat) (fun (k x : Nat) => AV.y (Value.int IntKind.u8 (↑(UInt8.toNat (List.getD r.hi.data.toList k (0 : UInt8))) : Int))) (cellsOf' encB (strB r.hi))) ∧ True) ∧ True ∧ List.length (strB r.hi) ≤ (1099511627776 : Nat) ∧ (decide (List.length (textB (strB r.lo)) = List.length (textB (strB r.lo))) && decide (List.length (textB (strB r.lo)) + List.length (textB (strB r.hi)) ≤ (9223372036854775807 : Nat)) && decide ((List.length (textB (strB r.lo)) + List.length (textB (strB r.hi))) * (1 : Nat) ≤ (140737488355328 : Nat))) = true ∧ ((0 : Nat) = (0 : Nat) ∧ List.length (textB (strB r.lo)) + List.length (textB (strB r.hi)) = List.length (rngB r)) ∧ (List.length (textB (strB r.lo)) + List.length (textB (strB r.hi)) = List.length (rngB r) ∧ contLe (List.length (textB (strB r.lo)) + List.length (textB (strB r.hi))) (1 : Nat) (appRow (List.length (textB (strB r.lo))) (cellsOf' encB (textB (strB r.lo))) fun (k : Nat) => cellsOf' encB (textB (strB r.hi)) ((0 : Nat) + k)) (cellsOf' encB (rngB r))) ∧ True
theorem vcRg_eq (r : Rng) : (ctrVC Tryd.prog (rgH r) 11 [.agg (encG r)] [] (bytesR (rngB r))) = vcRg r := by kernel_rfl
noncomputable def rcH (x : Rec) : HintsT Tryd.prog := hh _ noLp (cs1 29 1 2 (uwC x.off) (cs1 29 1 6 (txC true (strB x.key)) (cs1 29 2 3 (txC true x.val) (cs1 29 3 3 (uwC x.prod) (cs1 29 4 3 (uwC x.seq) noCs))))) noOp
def vcRc (x : Rec) : Prop :=
  (x.off = x.off ∧ True) ∧ True ∧ UwOk x.off ∧ ((true = true ∧ ByteArray.size x.key = List.length (strB x.key) ∧ contLe (ByteArray.size x.key) (1 : Nat) (fun (k x_1 : Nat) => AV.y (Value.int IntKind.u8 (↑(UInt8.toNat (List.getD x.key.data.toList k (0 : UInt8))) : Int))) (cellsOf' encB (strB x.key))) ∧ True) ∧ True ∧ List.length (strB x.key) ≤ (1099511627776 : Nat) ∧ (decide (List.length (uintB x.off) = List.length (uintB x.off)) && decide (List.length (uintB x.off) + List.length (textB (strB x.key)) ≤ (9223372036854775807 : Nat)) && decide ((List.length (uintB x.off) + List.length (textB (strB x.key))) * (1 : Nat) ≤ (140737488355328 : Nat))) = true ∧ ((true = true ∧ List.length x.val = List.length x.val ∧ contLe (List.length x.val) (1 : Nat) (cellsOf' encB x.val) (cellsOf' encB x.val)) ∧ True) ∧ True ∧ List.length x.val ≤ (1099511627776 : Nat) ∧ (decide (List.length (uintB x.off) + List.length (textB (strB x.key)) = List.length (uintB x.off) + List.length (textB (strB x.key))) && decide (List.length (uintB x.off) + List.length (textB (strB x.key)) + List.length (textB x.val) ≤ (9223372036854775807 : Nat)) && decide ((List.length (uintB x.off) + List.length (textB (strB x.key)) + List.length (textB x.val)) * (1 : Nat) ≤ (140737488355328 : Nat))) = true ∧ (x.prod = x.prod ∧ True) ∧ True ∧ UwOk x.prod ∧ (decide (List.length (uintB x.off) + List.length (textB (strB x.key)) + List.length (textB x.val) = List.length (uintB x.off) + List.length (textB (strB x.key)) + List.length (textB x.val)) && decide (List.length (uintB x.off) + List.length (textB (strB x.key)) + List.length (textB x.val) + List.length (uintB x.prod) ≤ (9223372036854775807 : Nat)) && decide ((List.length (uintB x.off) + List.length (textB (strB x.key)) + List.length (textB x.val) + List.length (uintB x.prod)) * (1 : Nat) ≤ (140737488355328 : Nat))) = true ∧ (x.seq = x.seq ∧ True) ∧ True ∧ UwOk x.seq ∧ (decide (List.length (uintB x.off) + List.length (textB (strB x.key)) + List.length (textB x.val) + List.length (uintB x.prod) = List.length (uintB x.off) + List.length (textB (strB x.key)) + List.length (textB x.val) + List.length (uintB x.prod)) && decide (List.length (uintB x.off) + List.length (textB (strB x.key)) + List.length (textB x.val) + List.length (uintB x.prod) + List.length (uintB x.seq) ≤ (9223372036854775807 : Nat)) && decide ((List.length (uintB x.off) + List.length (textB (strB x.key)) + List.length (textB x.val) + List.length (uintB x.prod) + List.length (uintB x.seq)) * (1 : Nat) ≤ (140737488355328 : Nat))) = true ∧ ((0 : Nat) = (0 : Nat) ∧ List.length (uintB x.off) + List.length (textB (strB x.key)) + List.length (textB x.val) + List.length (uintB x.prod) + List.length (uintB x.seq) = List.length (recB x)) ∧ (List.length (uintB x.off) + List.length (textB (strB x.key)) + List.length (textB x.val) + List.length (uintB x.prod) + List.length (uintB x.seq) = List.length (recB x) ∧ contLe (List.length (uintB x.off) + List.length (textB (strB x.key)) + List.length (textB x.val) + List.length (uintB x.prod) + List.length (uintB x.seq)) (1 : Nat) (appRow (List.length (uintB x.off) + List.length (textB (strB x.key)) + List.length (textB x.val) + List.length (uintB x.prod)) (appRow (List.length (uintB x.off) + List.length (textB (strB x.key)) + List.length (textB x.val)) (appRow (List.length (uintB x.off) + List.length (textB (strB x.key))) (appRow (List.length (uintB x.off)) (cellsOf' encB (uintB x.off)) fun (k : Nat) => cellsOf' encB (textB (strB x.key)) ((0 : Nat) + k)) fun (k : Nat) => cellsOf' encB (textB x.val) ((0 : Nat) + k)) fun (k : Nat) => cellsOf' encB (uintB x.prod) ((0 : Nat) + k)) fun (k : Nat) => cellsOf' encB (uintB x.seq) ((0 : Nat) + k)) (cellsOf' encB (recB x))) ∧ True
theorem vcRc_eq (x : Rec) : (ctrVC Tryd.prog (rcH x) 29 [.agg (encR x)] [] (bytesR (recB x))) = vcRc x := by kernel_rfl
def vcBo (b : Bool) : Prop :=
  (b = true → ((0 : Nat) = (0 : Nat) ∧ (1 : Nat) = List.length [if b = true then (1 : Int) else (0 : Int)]) ∧ ((1 : Nat) = List.length [if b = true then (1 : Int) else (0 : Int)] ∧ lstLe (1 : Nat) (1 : Nat) [AV.s (Value.int IntKind.u8 (1 : Int))] (cellsOf' encB [if b = true then (1 : Int) else (0 : Int)])) ∧ True) ∧ (b = false → ((0 : Nat) = (0 : Nat) ∧ (1 : Nat) = List.length [if b = true then (1 : Int) else (0 : Int)]) ∧ ((1 : Nat) = List.length [if b = true then (1 : Int) else (0 : Int)] ∧ lstLe (1 : Nat) (1 : Nat) [AV.s (Value.int IntKind.u8 (0 : Int))] (cellsOf' encB [if b = true then (1 : Int) else (0 : Int)])) ∧ True)
theorem vcBo_eq (b : Bool) : (ctrVC Tryd.prog (hT _) 14 [.y (.bool b)] [] (bytesR (boolB b))) = vcBo b := by kernel_rfl
end Go.Proofs.YtckklclehofddaaDoor.Q

namespace Go.Proofs.YtckklclehofddaaDoor.Q
open Go.Ax Go.Proofs.YtckklclehofddaaDoor Go.Proofs.YtckklclehofddaaDoor.J
set_option maxRecDepth 1000000
theorem catB_eq (l r : List Int) : appRow l.length (cellsOf' encB l) (fun k => cellsOf' encB r k) = cellsOf' encB (l ++ r) := by
  funext k j
  unfold appRow cellsOf'
  by_cases h : k < l.length
  · rw [if_pos h]
    simp [List.getElem?_append_left h]
  · rw [if_neg h]
    simp [List.getElem?_append_right (by omega : l.length ≤ k)]
theorem textB_len (t : List Int) : (textB t).length ≤ 11 + t.length := by
  have := uintB_len (t.length : Int)
  simp [textB]; omega
theorem strB_len (s : ByteArray) : (strB s).length = s.size := by simp [strB]
theorem str_le (s : ByteArray) : contLe s.size 1 (fun (k x : Nat) => AV.y (Value.int IntKind.u8 (↑(UInt8.toNat (List.getD s.data.toList k (0 : UInt8))) : Int))) (cellsOf' encB (strB s)) := by
  intro k hk j hj
  obtain rfl : j = 0 := by omega
  have hk2 : k < s.data.toList.length := by simpa using hk
  show le0 (.y (.int .u8 ((s.data.toList.getD k 0).toNat : Int))) (.y (.int .u8 ((strB s).getD k default)))
  have : (strB s).getD k default = ((s.data.toList.getD k 0).toNat : Int) := by
    unfold strB
    simp only [List.getD, List.getElem?_map]
    simp at hk2
    simp [hk2]
  rw [this]
  exact le0_refl _
theorem rg_c (r : Rng) (h1 : r.lo.size ≤ 1099511627776) (h2 : r.hi.size ≤ 1099511627776) : (bytesR (rngB r)).Sat (ACall' Tryd.prog 11 [.agg (encG r)] []) := by
  refine ctr_vc (ht := rgH r) Tryd.mixed rfl ?_
  rw [vcRg_eq r]
  unfold vcRg
  have a1 := textB_len (strB r.lo)
  have a2 := textB_len (strB r.hi)
  have b1 := strB_len r.lo
  have b2 := strB_len r.hi
  have c1 := str_le r.lo
  have c2 := str_le r.hi
  have e : (rngB r).length = (textB (strB r.lo)).length + (textB (strB r.hi)).length := by simp [rngB]
  simp only [Nat.zero_add, catB_eq]
  repeat' with_reducible apply And.intro
  all_goals first
    | with_reducible rfl
    | exact trivial
    | assumption
    | omega
    | (simp; omega)
    | exact contLe_refl _ _ _
structure RgOk (r : Rng) : Prop where
  lo : r.lo.size ≤ 1099511627776
  hi : r.hi.size ≤ 1099511627776
noncomputable def rgC (r : Rng) : Ctr Tryd.prog := ⟨11, [.agg (encG r)], [], .need (RgOk r) (bytesR (rngB r)), T.Sat.need fun h => rg_c r h.lo h.hi⟩
structure RcOk (x : Rec) : Prop where
  o : UwOk x.off
  p : UwOk x.prod
  s : UwOk x.seq
  k : x.key.size ≤ 1099511627776
  v : x.val.length ≤ 1099511627776
theorem rc_c (x : Rec) (h : RcOk x) : (bytesR (recB x)).Sat (ACall' Tryd.prog 29 [.agg (encR x)] []) := by
  refine ctr_vc (ht := rcH x) Tryd.mixed rfl ?_
  rw [vcRc_eq x]
  unfold vcRc
  obtain ⟨h1, h2, h3, h4, h5⟩ := h
  have a1 := textB_len (strB x.key)
  have a2 := textB_len x.val
  have a3 := uintB_len x.off
  have a4 := uintB_len x.prod
  have a5 := uintB_len x.seq
  have b1 := strB_len x.key
  have c1 := str_le x.key
  have e : recB x = uintB x.off ++ textB (strB x.key) ++ textB x.val ++ uintB x.prod ++ uintB x.seq := rfl
  rw [e]
  simp only [Nat.zero_add, ← List.length_append, catB_eq]
  repeat' with_reducible apply And.intro
  all_goals first
    | with_reducible rfl
    | exact trivial
    | assumption
    | omega
    | (simp; done)
    | (simp; omega)
    | exact contLe_refl _ _ _
noncomputable def rcC (x : Rec) : Ctr Tryd.prog := ⟨29, [.agg (encR x)], [], .need (RcOk x) (bytesR (recB x)), T.Sat.need fun h => rc_c x h⟩
theorem bo_c (b : Bool) : (bytesR (boolB b)).Sat (ACall' Tryd.prog 14 [.y (.bool b)] []) := by
  refine ctr_vc (ht := hT _) Tryd.mixed rfl ?_
  rw [vcBo_eq b]
  unfold vcBo
  have key : ∀ v : Int, lstLe 1 1 [AV.s (Value.int IntKind.u8 v)] (cellsOf' encB [v]) := by
    intro v k hk j hj
    obtain rfl : k = 0 := by omega
    obtain rfl : j = 0 := by omega
    exact ⟨by simp [cellsOf', encB], rfl⟩
  cases b <;> simp [key]
noncomputable def boC (b : Bool) : Ctr Tryd.prog := ⟨14, [.y (.bool b)], [], bytesR (boolB b), bo_c b⟩
def lsP (l : List Rec) (k : Nat) : List Int := uintB (l.length : Int) ++ (l.take k).flatMap recB
def lsT (b : Bool) (l : List Rec) (k : Nat) : List AV := mkT 23 [(0, encRs b l), (3, .own 0 1 0 (lsP l k).length), (4, .y (.int .i64 k))]
def lsS (l : List Rec) (_ : Unit) : Exit × List AV × List Blk := (.exit 0, mkT 23 [(3, .own 0 1 0 (recsB l).length)], [rowB (recsB l)])
noncomputable def lsLH (l : List Rec) (k : Nat) : HintsT Tryd.prog := hh _ noLp (cs1 13 5 5 (rcC (l.getD k default)) noCs) noOp
def vcLsL (b : Bool) (l : List Rec) (k : { k : Nat // k ≤ l.length }) : Prop :=
  (decide ((↑k.val : Int) < (↑(List.length l) : Int)) = true → (true && decide ((↑k.val : Int) < (↑(List.length l) : Int))) = true ∧ (((List.getD l (Int.toNat (↑k.val : Int)) (@default Rec instInhabitedRec)).off = (List.getD l k.val (@default Rec instInhabitedRec)).off ∧ (List.getD l (Int.toNat (↑k.val : Int)) (@default Rec instInhabitedRec)).key = (List.getD l k.val (@default Rec instInhabitedRec)).key ∧ (true = true ∧ List.length (List.getD l (Int.toNat (↑k.val : Int)) (@default Rec instInhabitedRec)).val = List.length (List.getD l k.val (@default Rec instInhabitedRec)).val ∧ contLe (List.length (List.getD l (Int.toNat (↑k.val : Int)) (@default Rec instInhabitedRec)).val) (1 : Nat) (cellsOf' encB (List.getD l (Int.toNat (↑k.val : Int)) (@default Rec instInhabitedRec)).val) (cellsOf' encB (List.getD l k.val (@default Rec instInhabitedRec)).val)) ∧ (List.getD l (Int.toNat (↑k.val : Int)) (@default Rec instInhabitedRec)).prod = (List.getD l k.val (@default Rec instInhabitedRec)).prod ∧ (List.getD l (Int.toNat (↑k.val : Int)) (@default Rec instInhabitedRec)).seq = (List.getD l k.val (@default Rec instInhabitedRec)).seq ∧ True) ∧ True) ∧ True ∧ RcOk (List.getD l k.val (@default Rec instInhabitedRec)) ∧ (decide (List.length (lsP l k.val) = List.length (lsP l k.val)) && decide (List.length (lsP l k.val) + List.length (recB (List.getD l k.val (@default Rec instInhabitedRec))) ≤ (9223372036854775807 : Nat)) && decide ((List.length (lsP l k.val) + List.length (recB (List.getD l k.val (@default Rec instInhabitedRec)))) * (1 : Nat) ≤ (140737488355328 : Nat))) = true ∧ ∃ (j : { k : Nat // k ≤ List.length l }), List.length l - j.val < List.length l - k.val ∧ (((b = b ∧ List.length l = List.length l ∧ contLe (List.length l) (5 : Nat) (cellsOf' encR l) (cellsOf' encR l)) ∧ ((0 : Nat) = (0 : Nat) ∧ List.length (lsP l k.val) + List.length (recB (List.getD l k.val (@default Rec instInhabitedRec))) = List.length (lsP l j.val)) ∧ IntKind.wrap IntKind.i64 ((↑k.val : Int) + (1 : Int)) = (↑j.val : Int) ∧ True) ∧ ((List.length (lsP l k.val) + List.length (recB (List.getD l k.val (@default Rec instInhabitedRec))) = List.length (lsP l j.val) ∧ contLe (List.length (lsP l k.val) + List.length (recB (List.getD l k.val (@default Rec instInhabitedRec)))) (1 : Nat) (appRow (List.length (lsP l k.val)) (cellsOf' encB (lsP l k.val)) fun (k_1 : Nat) => cellsOf' encB (recB (List.getD l k.val (@default Rec instInhabitedRec))) ((0 : Nat) + k_1)) (cellsOf' encB (lsP l j.val))) ∧ True) ∧ true = true) ∧ true = true ∧ () = ()) ∧ (decide ((↑k.val : Int) < (↑(List.length l) : Int)) = false → (((0 : Nat) = (0 : Nat) ∧ List.length (lsP l k.val) = List.length (recsB l)) ∧ True) ∧ ((List.length (lsP l k.val) = List.length (recsB l) ∧ contLe (List.length (lsP l k.val)) (1 : Nat) (cellsOf' encB (lsP l k.val)) (cellsOf' encB (recsB l))) ∧ True) ∧ true = true)
theorem vcLsL_eq (b : Bool) (l : List Rec) (k : { k : Nat // k ≤ l.length }) : (loopVC Tryd.prog (lsLH l k.1) 13 3 (fun (k : { k : Nat // k ≤ l.length }) => l.length - k.1) (fun k => lsT b l k.1) (fun k => [rowB (lsP l k.1)]) [0, 1, 2, 3, 4, 5] (fun _ => .ret ()) (lsS l) k) = vcLsL b l k := by kernel_rfl
noncomputable def lsH (b : Bool) (l : List Rec) : HintsT Tryd.prog := hh _ (lp1 13 3 (jobOf (fun (k : { k : Nat // k ≤ l.length }) => lsT b l k.1) (fun k => [rowB (lsP l k.1)]) [0, 1, 2, 3, 4, 5] (fun _ => .ret ()) (lsS l) ⟨0, Nat.zero_le _⟩) noLp) (cs1 13 1 3 (uwC (l.length : Int)) noCs) noOp
def vcLs (b : Bool) (l : List Rec) : Prop :=
  (IntKind.wrap IntKind.u64 (↑(List.length l) : Int) = (↑(List.length l) : Int) ∧ True) ∧ True ∧ UwOk (↑(List.length l) : Int) ∧ (((b = b ∧ List.length l = List.length l ∧ contLe (List.length l) (5 : Nat) (cellsOf' encR l) (cellsOf' encR l)) ∧ ((0 : Nat) = (0 : Nat) ∧ List.length (uintB (↑(List.length l) : Int)) = List.length (lsP l (0 : Nat))) ∧ (0 : Int) = (0 : Int) ∧ True) ∧ ((List.length (uintB (↑(List.length l) : Int)) = List.length (lsP l (0 : Nat)) ∧ contLe (List.length (uintB (↑(List.length l) : Int))) (1 : Nat) (cellsOf' encB (uintB (↑(List.length l) : Int))) (cellsOf' encB (lsP l (0 : Nat)))) ∧ True) ∧ true = true) ∧ LoopOk Tryd.prog (13 : Nat) (3 : Nat) (loopAt Tryd.prog (13 : Nat) (3 : Nat)) { t := lsT b l (⟨(0 : Nat), lsH._proof_1 l⟩ : { k : Nat // k ≤ List.length l }).val, m := [rowB (lsP l (⟨(0 : Nat), lsH._proof_1 l⟩ : { k : Nat // k ≤ List.length l }).val)], mv := [] : St } (T.map (lout [(0 : Nat), (1 : Nat), (2 : Nat), (3 : Nat), (4 : Nat), (5 : Nat)] (lsS l)) ((fun (x : { k : Nat // k ≤ List.length l }) => T.ret ()) (⟨(0 : Nat), lsH._proof_1 l⟩ : { k : Nat // k ≤ List.length l }))) ∧ ((0 : Nat) = (0 : Nat) ∧ List.length (recsB l) = List.length (recsB l)) ∧ (List.length (recsB l) = List.length (recsB l) ∧ contLe (List.length (recsB l)) (1 : Nat) (cellsOf' encB (recsB l)) (cellsOf' encB (recsB l))) ∧ True
theorem vcLs_eq (b : Bool) (l : List Rec) : (ctrVC Tryd.prog (lsH b l) 13 [encRs b l] [] (bytesR (recsB l))) = vcLs b l := by kernel_rfl
end Go.Proofs.YtckklclehofddaaDoor.Q

namespace Go.Proofs.YtckklclehofddaaDoor.Q
open Go.Ax Go.Proofs.YtckklclehofddaaDoor Go.Proofs.YtckklclehofddaaDoor.J
set_option maxRecDepth 1000000
theorem take_on {α : Type} [Inhabited α] {l : List α} {k : Nat} (h : k < l.length) : l.take (k + 1) = l.take k ++ [l.getD k default] := by
  rw [List.take_add_one, List.getElem?_eq_getElem h]
  simp [h]
theorem fm_step {α : Type} [Inhabited α] (f : α → List Int) {l : List α} {k : Nat} (h : k < l.length) : (l.take (k + 1)).flatMap f = (l.take k).flatMap f ++ f (l.getD k default) := by
  rw [take_on h, List.flatMap_append]
  simp
theorem fm_le {α : Type} (f : α → List Int) (l : List α) (k : Nat) : ((l.take k).flatMap f).length ≤ (l.flatMap f).length := by
  have h : l.flatMap f = (l.take k).flatMap f ++ (l.drop k).flatMap f := by rw [← List.flatMap_append, List.take_append_drop]
  rw [h, List.length_append]
  omega
structure LsOk (l : List Rec) : Prop where
  n : l.length ≤ 1099511627776
  b : (recsB l).length ≤ 17592186044416
  r : ∀ k, k < l.length → RcOk (l.getD k default)
theorem lsP_le (l : List Rec) (k : Nat) : (lsP l k).length ≤ (recsB l).length := by
  have := fm_le recB l k
  simp only [lsP, recsB, List.length_append]
  omega
theorem lsP_step {l : List Rec} {k : Nat} (h : k < l.length) : lsP l (k + 1) = lsP l k ++ recB (l.getD k default) := by
  unfold lsP
  rw [fm_step _ h, List.append_assoc]
theorem ls_loop (b : Bool) (l : List Rec) (h : LsOk l) (k : { k : Nat // k ≤ l.length }) : LoopOk Tryd.prog 13 3 (loopAt Tryd.prog 13 3) ⟨lsT b l k.1, [rowB (lsP l k.1)], []⟩ (T.map (lout [0, 1, 2, 3, 4, 5] (lsS l)) (.ret ())) := by
  refine loop_vcH (o := fun _ => .ret ()) (stT := fun (k : { k : Nat // k ≤ l.length }) => lsT b l k.1) (stM := fun k => [rowB (lsP l k.1)]) Tryd.mixed (fun _ => rfl) (fun k => (vcLsL_eq b l k).mpr ?_) k
  unfold vcLsL
  obtain ⟨k, hk⟩ := k
  have hn := h.n
  by_cases hkl : k < l.length
  · have hr := h.r k hkl
    have hex : ∀ q : { k : Nat // k ≤ l.length } → Prop, q ⟨k + 1, hkl⟩ → ∃ j, q j := fun q hq => ⟨_, hq⟩
    have hw : IntKind.i64.wrap ((k : Int) + 1) = ((k + 1 : Nat) : Int) := by rw [wrap_i64 (by omega) (by omega)]; omega
    have hs := lsP_step hkl
    have hl := lsP_le l (k + 1)
    have hb := h.b
    rw [hs] at hl
    simp only [Int.toNat_natCast, Nat.zero_add, ← List.length_append, catB_eq, ← hs] at *
    generalize l.getD k default = x at *
    refine ⟨fun _ => ?_, fun h => by simp at h; omega⟩
    repeat' with_reducible apply And.intro
    all_goals first
      | with_reducible rfl
      | exact trivial
      | assumption
      | omega
      | exact contLe_refl _ _ _
      | (simp; done)
      | (simp; omega)
      | (refine hex _ ?_; simp [hw]; omega)
  · obtain rfl : k = l.length := by omega
    refine ⟨fun h => by simp at h, fun _ => ?_⟩
    have e : lsP l l.length = recsB l := by unfold lsP recsB; rw [List.take_length]
    simp [e]
theorem ls_c (b : Bool) (l : List Rec) (h : LsOk l) : (bytesR (recsB l)).Sat (ACall' Tryd.prog 13 [encRs b l] []) := by
  refine ctr_vc (ht := lsH b l) Tryd.mixed rfl ?_
  rw [vcLs_eq b l]
  unfold vcLs
  have lp := ls_loop b l h ⟨0, Nat.zero_le _⟩
  have hn := h.n
  have hw : IntKind.u64.wrap (l.length : Int) = (l.length : Int) := wrap_u64 (by omega) (by omega)
  have hu : UwOk (l.length : Int) := ⟨by omega, by omega⟩
  have e : lsP l 0 = uintB (l.length : Int) := by simp [lsP]
  refine ⟨⟨hw, trivial⟩, trivial, hu, ?_, lp, ⟨rfl, rfl⟩, ⟨rfl, contLe_refl _ _ _⟩, trivial⟩
  simp [e]
noncomputable def lsC (b : Bool) (l : List Rec) : Ctr Tryd.prog := ⟨13, [encRs b l], [], .need (LsOk l) (bytesR (recsB l)), T.Sat.need fun h => ls_c b l h⟩
def byM (b : Bool) (p : Part) (l : List Int) : List Blk := [.box 29 (encPt b p), rowB l]
def b1T (p : Part) (k : Nat) : List AV := mkT 97 [(1, .ptr 0 0 0 0), (3, .own 1 1 0 (prB p k).length), (4, .y (.int .i64 k))]
def b1S (b : Bool) (p : Part) (_ : Unit) : Exit × List AV × List Blk := (.exit 0, mkT 97 [(1, .ptr 0 0 0 0), (3, .own 1 1 0 (prB p p.prods.length).length)], byM b p (prB p p.prods.length))
noncomputable def b1H (p : Part) (k : Nat) : HintsT Tryd.prog := hh _ noLp (cs1 6 9 3 (uwC (p.prods.getD k default).id) (cs1 6 10 3 (uwC (p.prods.getD k default).seq) (cs1 6 11 3 (boC (p.prods.getD k default).here) (cs1 6 12 3 (uwC (p.prods.getD k default).offset) noCs)))) noOp
def bX : List Nat := [0, 1, 2, 3, 4, 5, 6, 7, 8, 9, 10, 11, 12]
def vcB1 (b : Bool) (p : Part) (k : { k : Nat // k ≤ p.prods.length }) : Prop :=
  (decide ((↑k.val : Int) < (↑(List.length p.prods) : Int)) = true → (true && decide ((↑k.val : Int) < (↑(List.length p.prods) : Int))) = true ∧ ((List.getD p.prods (Int.toNat (↑k.val : Int)) (@default P.Producer P.instInhabitedProducer)).id = (List.getD p.prods k.val (@default P.Producer P.instInhabitedProducer)).id ∧ True) ∧ True ∧ UwOk (List.getD p.prods k.val (@default P.Producer P.instInhabitedProducer)).id ∧ (decide (List.length (prB p k.val) = List.length (prB p k.val)) && decide (List.length (prB p k.val) + List.length (uintB (List.getD p.prods k.val (@default P.Producer P.instInhabitedProducer)).id) ≤ (9223372036854775807 : Nat)) && decide ((List.length (prB p k.val) + List.length (uintB (List.getD p.prods k.val (@default P.Producer P.instInhabitedProducer)).id)) * (1 : Nat) ≤ (140737488355328 : Nat))) = true ∧ ((List.getD p.prods (Int.toNat (↑k.val : Int)) (@default P.Producer P.instInhabitedProducer)).seq = (List.getD p.prods k.val (@default P.Producer P.instInhabitedProducer)).seq ∧ True) ∧ True ∧ UwOk (List.getD p.prods k.val (@default P.Producer P.instInhabitedProducer)).seq ∧ (decide (List.length (prB p k.val) + List.length (uintB (List.getD p.prods k.val (@default P.Producer P.instInhabitedProducer)).id) = List.length (prB p k.val) + List.length (uintB (List.getD p.prods k.val (@default P.Producer P.instInhabitedProducer)).id)) && decide (List.length (prB p k.val) + List.length (uintB (List.getD p.prods k.val (@default P.Producer P.instInhabitedProducer)).id) + List.length (uintB (List.getD p.prods k.val (@default P.Producer P.instInhabitedProducer)).seq) ≤ (9223372036854775807 : Nat)) && decide ((List.length (prB p k.val) + List.length (uintB (List.getD p.prods k.val (@default P.Producer P.instInhabitedProducer)).id) + List.length (uintB (List.getD p.prods k.val (@default P.Producer P.instInhabitedProducer)).seq)) * (1 : Nat) ≤ (140737488355328 : Nat))) = true ∧ ((List.getD p.prods (Int.toNat (↑k.val : Int)) (@default P.Producer P.instInhabitedProducer)).here = (List.getD p.prods k.val (@default P.Producer P.instInhabitedProducer)).here ∧ True) ∧ True ∧ (decide (List.length (prB p k.val) + List.length (uintB (List.getD p.prods k.val (@default P.Producer P.instInhabitedProducer)).id) + List.length (uintB (List.getD p.prods k.val (@default P.Producer P.instInhabitedProducer)).seq) = List.length (prB p k.val) + List.length (uintB (List.getD p.prods k.val (@default P.Producer P.instInhabitedProducer)).id) + List.length (uintB (List.getD p.prods k.val (@default P.Producer P.instInhabitedProducer)).seq)) && decide (List.length (prB p k.val) + List.length (uintB (List.getD p.prods k.val (@default P.Producer P.instInhabitedProducer)).id) + List.length (uintB (List.getD p.prods k.val (@default P.Producer P.instInhabitedProducer)).seq) + List.length [if (List.getD p.prods k.val (@default P.Producer P.instInhabitedProducer)).here = true then (1 : Int) else (0 : Int)] ≤ (9223372036854775807 : Nat)) && decide ((List.length (prB p k.val) + List.length (uintB (List.getD p.prods k.val (@default P.Producer P.instInhabitedProducer)).id) + List.length (uintB (List.getD p.prods k.val (@default P.Producer P.instInhabitedProducer)).seq) + List.length [if (List.getD p.prods k.val (@default P.Producer P.instInhabitedProducer)).here = true then (1 : Int) else (0 : Int)]) * (1 : Nat) ≤ (140737488355328 : Nat))) = true ∧ ((List.getD p.prods (Int.toNat (↑k.val : Int)) (@default P.Producer P.instInhabitedProducer)).offset = (List.getD p.prods k.val (@default P.Producer P.instInhabitedProducer)).offset ∧ True) ∧ True ∧ UwOk (List.getD p.prods k.val (@default P.Producer P.instInhabitedProducer)).offset ∧ (decide (List.length (prB p k.val) + List.length (uintB (List.getD p.prods k.val (@default P.Producer P.instInhabitedProducer)).id) + List.length (uintB (List.getD p.prods k.val (@default P.Producer P.instInhabitedProducer)).seq) + List.length [if (List.getD p.prods k.val (@default P.Producer P.instInhabitedProducer)).here = true then (1 : Int) else (0 : Int)] = List.length (prB p k.val) + List.length (uintB (List.getD p.prods k.val (@default P.Producer P.instInhabitedProducer)).id) + List.length (uintB (List.getD p.prods k.val (@default P.Producer P.instInhabitedProducer)).seq) + List.length [if (List.getD p.prods k.val (@default P.Producer P.instInhabitedProducer)).here = true then (1 : Int) else (0 : Int)]) && decide (List.length (prB p k.val) + List.length (uintB (List.getD p.prods k.val (@default P.Producer P.instInhabitedProducer)).id) + List.length (uintB (List.getD p.prods k.val (@default P.Producer P.instInhabitedProducer)).seq) + List.length [if (List.getD p.prods k.val (@default P.Producer P.instInhabitedProducer)).here = true then (1 : Int) else (0 : Int)] + List.length (uintB (List.getD p.prods k.val (@default P.Producer P.instInhabitedProducer)).offset) ≤ (9223372036854775807 : Nat)) && decide ((List.length (prB p k.val) + List.length (uintB (List.getD p.prods k.val (@default P.Producer P.instInhabitedProducer)).id) + List.length (uintB (List.getD p.prods k.val (@default P.Producer P.instInhabitedProducer)).seq) + List.length [if (List.getD p.prods k.val (@default P.Producer P.instInhabitedProducer)).here = true then (1 : Int) else (0 : Int)] + List.length (uintB (List.getD p.prods k.val (@default P.Producer P.instInhabitedProducer)).offset)) * (1 : Nat) ≤ (140737488355328 : Nat))) = true ∧ ∃ (j : { k : Nat // k ≤ List.length p.prods }), List.length p.prods - j.val < List.length p.prods - k.val ∧ ((((0 : Nat) = (0 : Nat) ∧ (0 : Nat) = (0 : Nat)) ∧ ((0 : Nat) = (0 : Nat) ∧ List.length (prB p k.val) + List.length (uintB (List.getD p.prods k.val (@default P.Producer P.instInhabitedProducer)).id) + List.length (uintB (List.getD p.prods k.val (@default P.Producer P.instInhabitedProducer)).seq) + List.length [if (List.getD p.prods k.val (@default P.Producer P.instInhabitedProducer)).here = true then (1 : Int) else (0 : Int)] + List.length (uintB (List.getD p.prods k.val (@default P.Producer P.instInhabitedProducer)).offset) = List.length (prB p j.val)) ∧ IntKind.wrap IntKind.i64 ((↑k.val : Int) + (1 : Int)) = (↑j.val : Int) ∧ True) ∧ ((p.rng.lo = p.rng.lo ∧ p.rng.hi = p.rng.hi ∧ p.epoch = p.epoch ∧ p.frozen = p.frozen ∧ (b = b ∧ List.length p.recs = List.length p.recs ∧ contLe (List.length p.recs) (5 : Nat) (cellsOf' encR p.recs) (cellsOf' encR p.recs)) ∧ (b = b ∧ List.length p.prods = List.length p.prods ∧ contLe (List.length p.prods) (4 : Nat) (cellsOf' P.encP p.prods) (cellsOf' P.encP p.prods)) ∧ (b = b ∧ List.length p.cons = List.length p.cons ∧ contLe (List.length p.cons) (2 : Nat) (cellsOf' encC p.cons) (cellsOf' encC p.cons)) ∧ True) ∧ (List.length (prB p k.val) + List.length (uintB (List.getD p.prods k.val (@default P.Producer P.instInhabitedProducer)).id) + List.length (uintB (List.getD p.prods k.val (@default P.Producer P.instInhabitedProducer)).seq) + List.length [if (List.getD p.prods k.val (@default P.Producer P.instInhabitedProducer)).here = true then (1 : Int) else (0 : Int)] + List.length (uintB (List.getD p.prods k.val (@default P.Producer P.instInhabitedProducer)).offset) = List.length (prB p j.val) ∧ contLe (List.length (prB p k.val) + List.length (uintB (List.getD p.prods k.val (@default P.Producer P.instInhabitedProducer)).id) + List.length (uintB (List.getD p.prods k.val (@default P.Producer P.instInhabitedProducer)).seq) + List.length [if (List.getD p.prods k.val (@default P.Producer P.instInhabitedProducer)).here = true then (1 : Int) else (0 : Int)] + List.length (uintB (List.getD p.prods k.val (@default P.Producer P.instInhabitedProducer)).offset)) (1 : Nat) (appRow (List.length (prB p k.val) + List.length (uintB (List.getD p.prods k.val (@default P.Producer P.instInhabitedProducer)).id) + List.length (uintB (List.getD p.prods k.val (@default P.Producer P.instInhabitedProducer)).seq) + List.length [if (List.getD p.prods k.val (@default P.Producer P.instInhabitedProducer)).here = true then (1 : Int) else (0 : Int)]) (appRow (List.length (prB p k.val) + List.length (uintB (List.getD p.prods k.val (@default P.Producer P.instInhabitedProducer)).id) + List.length (uintB (List.getD p.prods k.val (@default P.Producer P.instInhabitedProducer)).seq)) (appRow (List.length (prB p k.val) + List.length (uintB (List.getD p.prods k.val (@default P.Producer P.instInhabitedProducer)).id)) (appRow (List.length (prB p k.val)) (cellsOf' encB (prB p k.val)) fun (k_1 : Nat) => cellsOf' encB (uintB (List.getD p.prods k.val (@default P.Producer P.instInhabitedProducer)).id) ((0 : Nat) + k_1)) fun (k_1 : Nat) => cellsOf' encB (uintB (List.getD p.prods k.val (@default P.Producer P.instInhabitedProducer)).seq) ((0 : Nat) + k_1)) fun (k_1 : Nat) => cellsOf' encB [if (List.getD p.prods k.val (@default P.Producer P.instInhabitedProducer)).here = true then (1 : Int) else (0 : Int)] ((0 : Nat) + k_1)) fun (k_1 : Nat) => cellsOf' encB (uintB (List.getD p.prods k.val (@default P.Producer P.instInhabitedProducer)).offset) ((0 : Nat) + k_1)) (cellsOf' encB (prB p j.val))) ∧ True) ∧ true = true) ∧ true = true ∧ () = ()) ∧ (decide ((↑k.val : Int) < (↑(List.length p.prods) : Int)) = false → (((0 : Nat) = (0 : Nat) ∧ (0 : Nat) = (0 : Nat)) ∧ ((0 : Nat) = (0 : Nat) ∧ List.length (prB p k.val) = List.length (prB p (List.length p.prods))) ∧ True) ∧ ((p.rng.lo = p.rng.lo ∧ p.rng.hi = p.rng.hi ∧ p.epoch = p.epoch ∧ p.frozen = p.frozen ∧ (b = b ∧ List.length p.recs = List.length p.recs ∧ contLe (List.length p.recs) (5 : Nat) (cellsOf' encR p.recs) (cellsOf' encR p.recs)) ∧ (b = b ∧ List.length p.prods = List.length p.prods ∧ contLe (List.length p.prods) (4 : Nat) (cellsOf' P.encP p.prods) (cellsOf' P.encP p.prods)) ∧ (b = b ∧ List.length p.cons = List.length p.cons ∧ contLe (List.length p.cons) (2 : Nat) (cellsOf' encC p.cons) (cellsOf' encC p.cons)) ∧ True) ∧ (List.length (prB p k.val) = List.length (prB p (List.length p.prods)) ∧ contLe (List.length (prB p k.val)) (1 : Nat) (cellsOf' encB (prB p k.val)) (cellsOf' encB (prB p (List.length p.prods)))) ∧ True) ∧ true = true)
theorem vcB1_eq (b : Bool) (p : Part) (k : { k : Nat // k ≤ p.prods.length }) : (loopVC Tryd.prog (b1H p k.1) 6 6 (fun (k : { k : Nat // k ≤ p.prods.length }) => p.prods.length - k.1) (fun k => b1T p k.1) (fun k => byM b p (prB p k.1)) bX (fun _ => .ret ()) (b1S b p) k) = vcB1 b p k := by kernel_rfl
def b2T (p : Part) (k : Nat) : List AV := mkT 97 [(1, .ptr 0 0 0 0), (3, .own 1 1 0 (coB p k).length), (6, .y (.int .i64 k))]
def b2S (b : Bool) (p : Part) (_ : Unit) : Exit × List AV × List Blk := (.exit 2, mkT 97 [(3, .own 1 1 0 (partB p).length)], byM b p (partB p))
noncomputable def b2H (p : Part) (k : Nat) : HintsT Tryd.prog := hh _ noLp (cs1 6 17 8 (txC true (strB (p.cons.getD k default).name)) (cs1 6 18 7 (uwC (p.cons.getD k default).off) noCs)) noOp
def vcB2 (b : Bool) (p : Part) (k : { k : Nat // k ≤ p.cons.length }) : Prop :=
  (decide ((↑k.val : Int) < (↑(List.length p.cons) : Int)) = true → (true && decide ((↑k.val : Int) < (↑(List.length p.cons) : Int))) = true ∧ ((true = true ∧ ByteArray.size (List.getD p.cons (Int.toNat (↑k.val : Int)) (@default Con instInhabitedCon)).name = List.length (strB (List.getD p.cons k.val (@default Con instInhabitedCon)).name) ∧ contLe (ByteArray.size (List.getD p.cons (Int.toNat (↑k.val : Int)) (@default Con instInhabitedCon)).name) (1 : Nat) (fun (k_1 x : Nat) => AV.y (Value.int IntKind.u8 (↑(UInt8.toNat (List.getD (List.getD p.cons (Int.toNat (↑k.val : Int)) (@default Con instInhabitedCon)).name.data.toList k_1 (0 : UInt8))) : Int))) (cellsOf' encB (strB (List.getD p.cons k.val (@default Con instInhabitedCon)).name))) ∧ True) ∧ True ∧ List.length (strB (List.getD p.cons k.val (@default Con instInhabitedCon)).name) ≤ (1099511627776 : Nat) ∧ (decide (List.length (coB p k.val) = List.length (coB p k.val)) && decide (List.length (coB p k.val) + List.length (textB (strB (List.getD p.cons k.val (@default Con instInhabitedCon)).name)) ≤ (9223372036854775807 : Nat)) && decide ((List.length (coB p k.val) + List.length (textB (strB (List.getD p.cons k.val (@default Con instInhabitedCon)).name))) * (1 : Nat) ≤ (140737488355328 : Nat))) = true ∧ (true && decide ((↑k.val : Int) < (↑(List.length p.cons) : Int))) = true ∧ ((List.getD p.cons (Int.toNat (↑k.val : Int)) (@default Con instInhabitedCon)).off = (List.getD p.cons k.val (@default Con instInhabitedCon)).off ∧ True) ∧ True ∧ UwOk (List.getD p.cons k.val (@default Con instInhabitedCon)).off ∧ (decide (List.length (coB p k.val) + List.length (textB (strB (List.getD p.cons k.val (@default Con instInhabitedCon)).name)) = List.length (coB p k.val) + List.length (textB (strB (List.getD p.cons k.val (@default Con instInhabitedCon)).name))) && decide (List.length (coB p k.val) + List.length (textB (strB (List.getD p.cons k.val (@default Con instInhabitedCon)).name)) + List.length (uintB (List.getD p.cons k.val (@default Con instInhabitedCon)).off) ≤ (9223372036854775807 : Nat)) && decide ((List.length (coB p k.val) + List.length (textB (strB (List.getD p.cons k.val (@default Con instInhabitedCon)).name)) + List.length (uintB (List.getD p.cons k.val (@default Con instInhabitedCon)).off)) * (1 : Nat) ≤ (140737488355328 : Nat))) = true ∧ ∃ (j : { k : Nat // k ≤ List.length p.cons }), List.length p.cons - j.val < List.length p.cons - k.val ∧ ((((0 : Nat) = (0 : Nat) ∧ (0 : Nat) = (0 : Nat)) ∧ ((0 : Nat) = (0 : Nat) ∧ List.length (coB p k.val) + List.length (textB (strB (List.getD p.cons k.val (@default Con instInhabitedCon)).name)) + List.length (uintB (List.getD p.cons k.val (@default Con instInhabitedCon)).off) = List.length (coB p j.val)) ∧ IntKind.wrap IntKind.i64 ((↑k.val : Int) + (1 : Int)) = (↑j.val : Int) ∧ True) ∧ ((p.rng.lo = p.rng.lo ∧ p.rng.hi = p.rng.hi ∧ p.epoch = p.epoch ∧ p.frozen = p.frozen ∧ (b = b ∧ List.length p.recs = List.length p.recs ∧ contLe (List.length p.recs) (5 : Nat) (cellsOf' encR p.recs) (cellsOf' encR p.recs)) ∧ (b = b ∧ List.length p.prods = List.length p.prods ∧ contLe (List.length p.prods) (4 : Nat) (cellsOf' P.encP p.prods) (cellsOf' P.encP p.prods)) ∧ (b = b ∧ List.length p.cons = List.length p.cons ∧ contLe (List.length p.cons) (2 : Nat) (cellsOf' encC p.cons) (cellsOf' encC p.cons)) ∧ True) ∧ (List.length (coB p k.val) + List.length (textB (strB (List.getD p.cons k.val (@default Con instInhabitedCon)).name)) + List.length (uintB (List.getD p.cons k.val (@default Con instInhabitedCon)).off) = List.length (coB p j.val) ∧ contLe (List.length (coB p k.val) + List.length (textB (strB (List.getD p.cons k.val (@default Con instInhabitedCon)).name)) + List.length (uintB (List.getD p.cons k.val (@default Con instInhabitedCon)).off)) (1 : Nat) (appRow (List.length (coB p k.val) + List.length (textB (strB (List.getD p.cons k.val (@default Con instInhabitedCon)).name))) (appRow (List.length (coB p k.val)) (cellsOf' encB (coB p k.val)) fun (k_1 : Nat) => cellsOf' encB (textB (strB (List.getD p.cons k.val (@default Con instInhabitedCon)).name)) ((0 : Nat) + k_1)) fun (k_1 : Nat) => cellsOf' encB (uintB (List.getD p.cons k.val (@default Con instInhabitedCon)).off) ((0 : Nat) + k_1)) (cellsOf' encB (coB p j.val))) ∧ True) ∧ true = true) ∧ true = true ∧ () = ()) ∧ (decide ((↑k.val : Int) < (↑(List.length p.cons) : Int)) = false → (((0 : Nat) = (0 : Nat) ∧ List.length (coB p k.val) = List.length (partB p)) ∧ True) ∧ ((p.rng.lo = p.rng.lo ∧ p.rng.hi = p.rng.hi ∧ p.epoch = p.epoch ∧ p.frozen = p.frozen ∧ (b = b ∧ List.length p.recs = List.length p.recs ∧ contLe (List.length p.recs) (5 : Nat) (cellsOf' encR p.recs) (cellsOf' encR p.recs)) ∧ (b = b ∧ List.length p.prods = List.length p.prods ∧ contLe (List.length p.prods) (4 : Nat) (cellsOf' P.encP p.prods) (cellsOf' P.encP p.prods)) ∧ (b = b ∧ List.length p.cons = List.length p.cons ∧ contLe (List.length p.cons) (2 : Nat) (cellsOf' encC p.cons) (cellsOf' encC p.cons)) ∧ True) ∧ (List.length (coB p k.val) = List.length (partB p) ∧ contLe (List.length (coB p k.val)) (1 : Nat) (cellsOf' encB (coB p k.val)) (cellsOf' encB (partB p))) ∧ True) ∧ true = true)
theorem vcB2_eq (b : Bool) (p : Part) (k : { k : Nat // k ≤ p.cons.length }) : (loopVC Tryd.prog (b2H p k.1) 6 15 (fun (k : { k : Nat // k ≤ p.cons.length }) => p.cons.length - k.1) (fun k => b2T p k.1) (fun k => byM b p (coB p k.1)) bX (fun _ => .ret ()) (b2S b p) k) = vcB2 b p k := by kernel_rfl
noncomputable def byH (b : Bool) (p : Part) : HintsT Tryd.prog := hh _ (lp1 6 6 (jobOf (fun (k : { k : Nat // k ≤ p.prods.length }) => b1T p k.1) (fun k => byM b p (prB p k.1)) bX (fun _ => .ret ()) (b1S b p) ⟨0, Nat.zero_le _⟩) (lp1 6 15 (jobOf (fun (k : { k : Nat // k ≤ p.cons.length }) => b2T p k.1) (fun k => byM b p (coB p k.1)) bX (fun _ => .ret ()) (b2S b p) ⟨0, Nat.zero_le _⟩) noLp))
  (cs1 6 1 2 (rgC p.rng) (cs1 6 1 5 (uwC p.epoch) (cs1 6 2 3 (uwC p.frozen) (cs1 6 3 3 (lsC b p.recs) (cs1 6 4 5 (uwC (p.prods.length : Int)) (cs1 6 13 5 (uwC (p.cons.length : Int)) noCs)))))) noOp
def vcBy (b : Bool) (p : Part) : Prop :=
  ((p.rng.lo = p.rng.lo ∧ p.rng.hi = p.rng.hi ∧ True) ∧ True) ∧ True ∧ RgOk p.rng ∧ (p.epoch = p.epoch ∧ True) ∧ True ∧ UwOk p.epoch ∧ (decide (List.length (rngB p.rng) = List.length (rngB p.rng)) && decide (List.length (rngB p.rng) + List.length (uintB p.epoch) ≤ (9223372036854775807 : Nat)) && decide ((List.length (rngB p.rng) + List.length (uintB p.epoch)) * (1 : Nat) ≤ (140737488355328 : Nat))) = true ∧ (p.frozen = p.frozen ∧ True) ∧ True ∧ UwOk p.frozen ∧ (decide (List.length (rngB p.rng) + List.length (uintB p.epoch) = List.length (rngB p.rng) + List.length (uintB p.epoch)) && decide (List.length (rngB p.rng) + List.length (uintB p.epoch) + List.length (uintB p.frozen) ≤ (9223372036854775807 : Nat)) && decide ((List.length (rngB p.rng) + List.length (uintB p.epoch) + List.length (uintB p.frozen)) * (1 : Nat) ≤ (140737488355328 : Nat))) = true ∧ ((b = b ∧ List.length p.recs = List.length p.recs ∧ contLe (List.length p.recs) (5 : Nat) (cellsOf' encR p.recs) (cellsOf' encR p.recs)) ∧ True) ∧ True ∧ LsOk p.recs ∧ (decide (List.length (rngB p.rng) + List.length (uintB p.epoch) + List.length (uintB p.frozen) = List.length (rngB p.rng) + List.length (uintB p.epoch) + List.length (uintB p.frozen)) && decide (List.length (rngB p.rng) + List.length (uintB p.epoch) + List.length (uintB p.frozen) + List.length (recsB p.recs) ≤ (9223372036854775807 : Nat)) && decide ((List.length (rngB p.rng) + List.length (uintB p.epoch) + List.length (uintB p.frozen) + List.length (recsB p.recs)) * (1 : Nat) ≤ (140737488355328 : Nat))) = true ∧ (IntKind.wrap IntKind.u64 (↑(List.length p.prods) : Int) = (↑(List.length p.prods) : Int) ∧ True) ∧ True ∧ UwOk (↑(List.length p.prods) : Int) ∧ (decide (List.length (rngB p.rng) + List.length (uintB p.epoch) + List.length (uintB p.frozen) + List.length (recsB p.recs) = List.length (rngB p.rng) + List.length (uintB p.epoch) + List.length (uintB p.frozen) + List.length (recsB p.recs)) && decide (List.length (rngB p.rng) + List.length (uintB p.epoch) + List.length (uintB p.frozen) + List.length (recsB p.recs) + List.length (uintB (↑(List.length p.prods) : Int)) ≤ (9223372036854775807 : Nat)) && decide ((List.length (rngB p.rng) + List.length (uintB p.epoch) + List.length (uintB p.frozen) + List.length (recsB p.recs) + List.length (uintB (↑(List.length p.prods) : Int))) * (1 : Nat) ≤ (140737488355328 : Nat))) = true ∧ ((((0 : Nat) = (0 : Nat) ∧ (0 : Nat) = (0 : Nat)) ∧ ((0 : Nat) = (0 : Nat) ∧ List.length (rngB p.rng) + List.length (uintB p.epoch) + List.length (uintB p.frozen) + List.length (recsB p.recs) + List.length (uintB (↑(List.length p.prods) : Int)) = List.length (prB p (0 : Nat))) ∧ (0 : Int) = (0 : Int) ∧ True) ∧ ((p.rng.lo = p.rng.lo ∧ p.rng.hi = p.rng.hi ∧ p.epoch = p.epoch ∧ p.frozen = p.frozen ∧ (b = b ∧ List.length p.recs = List.length p.recs ∧ contLe (List.length p.recs) (5 : Nat) (cellsOf' encR p.recs) (cellsOf' encR p.recs)) ∧ (b = b ∧ List.length p.prods = List.length p.prods ∧ contLe (List.length p.prods) (4 : Nat) (cellsOf' P.encP p.prods) (cellsOf' P.encP p.prods)) ∧ (b = b ∧ List.length p.cons = List.length p.cons ∧ contLe (List.length p.cons) (2 : Nat) (cellsOf' encC p.cons) (cellsOf' encC p.cons)) ∧ True) ∧ (List.length (rngB p.rng) + List.length (uintB p.epoch) + List.length (uintB p.frozen) + List.length (recsB p.recs) + List.length (uintB (↑(List.length p.prods) : Int)) = List.length (prB p (0 : Nat)) ∧ contLe (List.length (rngB p.rng) + List.length (uintB p.epoch) + List.length (uintB p.frozen) + List.length (recsB p.recs) + List.length (uintB (↑(List.length p.prods) : Int))) (1 : Nat) (appRow (List.length (rngB p.rng) + List.length (uintB p.epoch) + List.length (uintB p.frozen) + List.length (recsB p.recs)) (appRow (List.length (rngB p.rng) + List.length (uintB p.epoch) + List.length (uintB p.frozen)) (appRow (List.length (rngB p.rng) + List.length (uintB p.epoch)) (appRow (List.length (rngB p.rng)) (cellsOf' encB (rngB p.rng)) fun (k : Nat) => cellsOf' encB (uintB p.epoch) ((0 : Nat) + k)) fun (k : Nat) => cellsOf' encB (uintB p.frozen) ((0 : Nat) + k)) fun (k : Nat) => cellsOf' encB (recsB p.recs) ((0 : Nat) + k)) fun (k : Nat) => cellsOf' encB (uintB (↑(List.length p.prods) : Int)) ((0 : Nat) + k)) (cellsOf' encB (prB p (0 : Nat)))) ∧ True) ∧ true = true) ∧ LoopOk Tryd.prog (6 : Nat) (6 : Nat) (loopAt Tryd.prog (6 : Nat) (6 : Nat)) { t := b1T p (⟨(0 : Nat), byH._proof_1 p⟩ : { k : Nat // k ≤ List.length p.prods }).val, m := byM b p (prB p (⟨(0 : Nat), byH._proof_1 p⟩ : { k : Nat // k ≤ List.length p.prods }).val), mv := [] : St } (T.map (lout bX (b1S b p)) ((fun (x : { k : Nat // k ≤ List.length p.prods }) => T.ret ()) (⟨(0 : Nat), byH._proof_1 p⟩ : { k : Nat // k ≤ List.length p.prods }))) ∧ (IntKind.wrap IntKind.u64 (↑(List.length p.cons) : Int) = (↑(List.length p.cons) : Int) ∧ True) ∧ True ∧ UwOk (↑(List.length p.cons) : Int) ∧ (decide (List.length (prB p (List.length p.prods)) = List.length (prB p (List.length p.prods))) && decide (List.length (prB p (List.length p.prods)) + List.length (uintB (↑(List.length p.cons) : Int)) ≤ (9223372036854775807 : Nat)) && decide ((List.length (prB p (List.length p.prods)) + List.length (uintB (↑(List.length p.cons) : Int))) * (1 : Nat) ≤ (140737488355328 : Nat))) = true ∧ ((((0 : Nat) = (0 : Nat) ∧ (0 : Nat) = (0 : Nat)) ∧ ((0 : Nat) = (0 : Nat) ∧ List.length (prB p (List.length p.prods)) + List.length (uintB (↑(List.length p.cons) : Int)) = List.length (coB p (0 : Nat))) ∧ (0 : Int) = (0 : Int) ∧ True) ∧ ((p.rng.lo = p.rng.lo ∧ p.rng.hi = p.rng.hi ∧ p.epoch = p.epoch ∧ p.frozen = p.frozen ∧ (b = b ∧ List.length p.recs = List.length p.recs ∧ contLe (List.length p.recs) (5 : Nat) (cellsOf' encR p.recs) (cellsOf' encR p.recs)) ∧ (b = b ∧ List.length p.prods = List.length p.prods ∧ contLe (List.length p.prods) (4 : Nat) (cellsOf' P.encP p.prods) (cellsOf' P.encP p.prods)) ∧ (b = b ∧ List.length p.cons = List.length p.cons ∧ contLe (List.length p.cons) (2 : Nat) (cellsOf' encC p.cons) (cellsOf' encC p.cons)) ∧ True) ∧ (List.length (prB p (List.length p.prods)) + List.length (uintB (↑(List.length p.cons) : Int)) = List.length (coB p (0 : Nat)) ∧ contLe (List.length (prB p (List.length p.prods)) + List.length (uintB (↑(List.length p.cons) : Int))) (1 : Nat) (appRow (List.length (prB p (List.length p.prods))) (cellsOf' encB (prB p (List.length p.prods))) fun (k : Nat) => cellsOf' encB (uintB (↑(List.length p.cons) : Int)) ((0 : Nat) + k)) (cellsOf' encB (coB p (0 : Nat)))) ∧ True) ∧ true = true) ∧ LoopOk Tryd.prog (6 : Nat) (15 : Nat) (loopAt Tryd.prog (6 : Nat) (15 : Nat)) { t := b2T p (⟨(0 : Nat), byH._proof_2 p⟩ : { k : Nat // k ≤ List.length p.cons }).val, m := byM b p (coB p (⟨(0 : Nat), byH._proof_2 p⟩ : { k : Nat // k ≤ List.length p.cons }).val), mv := [] : St } (T.map (lout bX (b2S b p)) ((fun (x : { k : Nat // k ≤ List.length p.cons }) => T.ret ()) (⟨(0 : Nat), byH._proof_2 p⟩ : { k : Nat // k ≤ List.length p.cons }))) ∧ ((0 : Nat) = (0 : Nat) ∧ List.length (partB p) = List.length (partB p)) ∧ (List.length (partB p) = List.length (partB p) ∧ contLe (List.length (partB p)) (1 : Nat) (cellsOf' encB (partB p)) (cellsOf' encB (partB p))) ∧ True
theorem vcBy_eq (b : Bool) (p : Part) : (ctrVC Tryd.prog (byH b p) 6 [.agg (encPt b p)] [] (bytesR (partB p))) = vcBy b p := by kernel_rfl
structure ByOk (p : Part) : Prop where
  rg : RgOk p.rng
  ep : UwOk p.epoch
  fr : UwOk p.frozen
  ls : LsOk p.recs
  pn : p.prods.length ≤ 1099511627776
  cn : p.cons.length ≤ 1099511627776
  n : (partB p).length ≤ 70368744177664
  pr : ∀ k, k < p.prods.length → UwOk (p.prods.getD k default).id ∧ UwOk (p.prods.getD k default).seq ∧ UwOk (p.prods.getD k default).offset
  co : ∀ k, k < p.cons.length → (p.cons.getD k default).name.size ≤ 1099511627776 ∧ UwOk (p.cons.getD k default).off
theorem prB_le (p : Part) (k : Nat) : (prB p k).length ≤ (partB p).length := by
  have := fm_le prodB p.prods k
  simp only [partB, coB, prB, List.length_append, List.take_length]
  omega
theorem coB_le (p : Part) (k : Nat) : (coB p k).length ≤ (partB p).length := by
  have := fm_le conB p.cons k
  simp only [partB, coB, List.length_append, List.take_length]
  omega
theorem prB_step {p : Part} {k : Nat} (h : k < p.prods.length) : prB p (k + 1) = prB p k ++ uintB (p.prods.getD k default).id ++ uintB (p.prods.getD k default).seq ++ boolB (p.prods.getD k default).here ++ uintB (p.prods.getD k default).offset := by
  unfold prB
  rw [fm_step _ h]
  simp only [prodB, List.append_assoc]
theorem coB_step {p : Part} {k : Nat} (h : k < p.cons.length) : coB p (k + 1) = coB p k ++ textB (strB (p.cons.getD k default).name) ++ uintB (p.cons.getD k default).off := by
  unfold coB
  rw [fm_step _ h]
  simp only [conB, List.append_assoc]
end Go.Proofs.YtckklclehofddaaDoor.Q

namespace Go.Proofs.YtckklclehofddaaDoor.Q
open Go.Ax Go.Proofs.YtckklclehofddaaDoor Go.Proofs.YtckklclehofddaaDoor.J
set_option maxRecDepth 1000000
attribute [local irreducible] prB coB partB rngB recsB uintB textB strB boolB hdB
theorem boB_eq (b : Bool) : boolB b = [if b = true then 1 else 0] := by unfold boolB; rfl
theorem b1_loop (b : Bool) (p : Part) (h : ByOk p) (k : { k : Nat // k ≤ p.prods.length }) : LoopOk Tryd.prog 6 6 (loopAt Tryd.prog 6 6) ⟨b1T p k.1, byM b p (prB p k.1), []⟩ (T.map (lout bX (b1S b p)) (.ret ())) := by
  refine loop_vcH (o := fun _ => .ret ()) (stT := fun (k : { k : Nat // k ≤ p.prods.length }) => b1T p k.1) (stM := fun k => byM b p (prB p k.1)) Tryd.mixed (fun _ => rfl) (fun k => (vcB1_eq b p k).mpr ?_) k
  unfold vcB1
  obtain ⟨k, hk⟩ := k
  have hn := h.n
  have hpn := h.pn
  by_cases hkl : k < p.prods.length
  · obtain ⟨r1, r2, r3⟩ := h.pr k hkl
    have hex : ∀ q : { k : Nat // k ≤ p.prods.length } → Prop, q ⟨k + 1, hkl⟩ → ∃ j, q j := fun q hq => ⟨_, hq⟩
    have hw : IntKind.i64.wrap ((k : Int) + 1) = ((k + 1 : Nat) : Int) := by rw [wrap_i64 (by omega) (by omega)]; omega
    have hs := prB_step hkl
    have hl := prB_le p k
    simp only [Int.toNat_natCast, Nat.zero_add, ← List.length_append, catB_eq] at *
    generalize p.prods.getD k default = x at *
    have l1 := uintB_len x.id
    have l2 := uintB_len x.seq
    have l3 := uintB_len x.offset
    have l4 := boB_eq x.here
    rw [l4] at hs
    clear l4
    have hs' : (prB p (k + 1)).length = (prB p k).length + (uintB x.id).length + (uintB x.seq).length + 1 + (uintB x.offset).length := by rw [hs]; simp; omega
    refine ⟨fun _ => ?_, fun h => by simp at h; omega⟩
    repeat' with_reducible apply And.intro
    all_goals first
      | with_reducible rfl
      | exact trivial
      | assumption
      | omega
      | exact contLe_refl _ _ _
      | (simp; done)
      | (simp; omega)
      | (refine hex _ ?_
         rw [← hs]
         simp [hw]
         omega)
  · obtain rfl : k = p.prods.length := by omega
    refine ⟨fun h => by simp at h, fun _ => ?_⟩
    simp
theorem b2_loop (b : Bool) (p : Part) (h : ByOk p) (k : { k : Nat // k ≤ p.cons.length }) : LoopOk Tryd.prog 6 15 (loopAt Tryd.prog 6 15) ⟨b2T p k.1, byM b p (coB p k.1), []⟩ (T.map (lout bX (b2S b p)) (.ret ())) := by
  refine loop_vcH (o := fun _ => .ret ()) (stT := fun (k : { k : Nat // k ≤ p.cons.length }) => b2T p k.1) (stM := fun k => byM b p (coB p k.1)) Tryd.mixed (fun _ => rfl) (fun k => (vcB2_eq b p k).mpr ?_) k
  unfold vcB2
  obtain ⟨k, hk⟩ := k
  have hn := h.n
  have hcn := h.cn
  by_cases hkl : k < p.cons.length
  · obtain ⟨r1, r2⟩ := h.co k hkl
    have hex : ∀ q : { k : Nat // k ≤ p.cons.length } → Prop, q ⟨k + 1, hkl⟩ → ∃ j, q j := fun q hq => ⟨_, hq⟩
    have hw : IntKind.i64.wrap ((k : Int) + 1) = ((k + 1 : Nat) : Int) := by rw [wrap_i64 (by omega) (by omega)]; omega
    have hs := coB_step hkl
    have hl := coB_le p k
    simp only [Int.toNat_natCast, Nat.zero_add, ← List.length_append, catB_eq] at *
    generalize p.cons.getD k default = x at *
    have l1 := uintB_len x.off
    have l2 := textB_len (strB x.name)
    have l3 := strB_len x.name
    have c1 := str_le x.name
    have hs' : (coB p (k + 1)).length = (coB p k).length + (textB (strB x.name)).length + (uintB x.off).length := by rw [hs]; simp; omega
    refine ⟨fun _ => ?_, fun h => by simp at h; omega⟩
    repeat' with_reducible apply And.intro
    all_goals first
      | with_reducible rfl
      | exact trivial
      | assumption
      | omega
      | exact contLe_refl _ _ _
      | (simp; done)
      | (simp; omega)
      | (refine hex _ ?_
         rw [← hs]
         simp [hw]
         omega)
  · obtain rfl : k = p.cons.length := by omega
    refine ⟨fun h => by simp at h, fun _ => ?_⟩
    simp [partB]
theorem by_c (b : Bool) (p : Part) (h : ByOk p) : (bytesR (partB p)).Sat (ACall' Tryd.prog 6 [.agg (encPt b p)] []) := by
  refine ctr_vc (ht := byH b p) Tryd.mixed rfl ?_
  rw [vcBy_eq b p]
  unfold vcBy
  have lp1 := b1_loop b p h ⟨0, Nat.zero_le _⟩
  have lp2 := b2_loop b p h ⟨0, Nat.zero_le _⟩
  obtain ⟨h1, h2, h3, h4, h5, h6, h7, h8, h9⟩ := h
  have w1 : IntKind.u64.wrap (p.prods.length : Int) = (p.prods.length : Int) := wrap_u64 (by omega) (by omega)
  have w2 : IntKind.u64.wrap (p.cons.length : Int) = (p.cons.length : Int) := wrap_u64 (by omega) (by omega)
  have u1 : UwOk (p.prods.length : Int) := ⟨by omega, by omega⟩
  have u2 : UwOk (p.cons.length : Int) := ⟨by omega, by omega⟩
  have e1 : prB p 0 = rngB p.rng ++ uintB p.epoch ++ uintB p.frozen ++ recsB p.recs ++ uintB (p.prods.length : Int) := by simp [prB, hdB]
  have e2 : coB p 0 = prB p p.prods.length ++ uintB (p.cons.length : Int) := by simp [coB]
  have n1 : (prB p 0).length = (rngB p.rng).length + (uintB p.epoch).length + (uintB p.frozen).length + (recsB p.recs).length + (uintB (p.prods.length : Int)).length := by rw [e1]; simp only [List.length_append]
  have n2 : (coB p 0).length = (prB p p.prods.length).length + (uintB (p.cons.length : Int)).length := by rw [e2]; simp only [List.length_append]
  have m1 := coB_le p 0
  have m2 := prB_le p p.prods.length
  have m3 := prB_le p 0
  simp only [Nat.zero_add, ← List.length_append, catB_eq, w1, w2, ← e1, ← e2]
  repeat' with_reducible apply And.intro
  all_goals first
    | with_reducible rfl
    | exact trivial
    | assumption
    | omega
    | exact contLe_refl _ _ _
    | (simp; done)
    | (simp; omega)
noncomputable def byC (b : Bool) (p : Part) : Ctr Tryd.prog := ⟨6, [.agg (encPt b p)], [], .need (ByOk p) (bytesR (partB p)), T.Sat.need fun h => by_c b p h⟩
end Go.Proofs.YtckklclehofddaaDoor.Q

namespace Go.Proofs.YtckklclehofddaaDoor.D
open Go.Ax Go.Proofs.YtckklclehofddaaDoor
set_option maxRecDepth 1000000
noncomputable def psC (b1 b2 : Bool) (a : List P.Producer) : Ctr Tryd.prog := ⟨27, [P.encPs b1 a, P.encPs b2 a], [], .need (a.length ≤ 9223372036854775806) (P.smR a a), T.Sat.need fun h => P.same_c b1 b2 a a h⟩
noncomputable def samH (p : Part) : HintsT Tryd.prog := hh _ noLp (cs1 9 1 4 (sameC true true p.recs p.recs) (cs1 9 2 4 (psC true true p.prods) (cs1 9 3 4 (scC true true p.cons p.cons) noCs))) noOp
def vcSam (p : Part) : Prop :=
  ((true = true ∧ List.length p.recs = List.length p.recs ∧ contLe (List.length p.recs) (5 : Nat) (cellsOf' encR p.recs) (cellsOf' encR p.recs)) ∧ (true = true ∧ List.length p.recs = List.length p.recs ∧ contLe (List.length p.recs) (5 : Nat) (cellsOf' encR p.recs) (cellsOf' encR p.recs)) ∧ True) ∧ True ∧ (List.length p.recs ≤ (9223372036854775806 : Nat) ∧ p.recs = p.recs) ∧ ((true = true ∧ List.length p.prods = List.length p.prods ∧ contLe (List.length p.prods) (4 : Nat) (cellsOf' P.encP p.prods) (cellsOf' P.encP p.prods)) ∧ (true = true ∧ List.length p.prods = List.length p.prods ∧ contLe (List.length p.prods) (4 : Nat) (cellsOf' P.encP p.prods) (cellsOf' P.encP p.prods)) ∧ True) ∧ True ∧ List.length p.prods ≤ (9223372036854775806 : Nat) ∧ ((true = true ∧ List.length p.cons = List.length p.cons ∧ contLe (List.length p.cons) (2 : Nat) (cellsOf' encC p.cons) (cellsOf' encC p.cons)) ∧ (true = true ∧ List.length p.cons = List.length p.cons ∧ contLe (List.length p.cons) (2 : Nat) (cellsOf' encC p.cons) (cellsOf' encC p.cons)) ∧ True) ∧ True ∧ (List.length p.cons ≤ (9223372036854775806 : Nat) ∧ p.cons = p.cons) ∧ (true = true → (P.sameP p.prods p.prods = true → (true = true → ((p.rng.lo.data.toList == p.rng.lo.data.toList && (p.rng.hi.data.toList == p.rng.hi.data.toList && true)) = true → ((p.epoch == p.epoch) = true → (p.frozen == p.frozen) = true ∧ True) ∧ ((p.epoch == p.epoch) = false → false = true ∧ True)) ∧ ((p.rng.lo.data.toList == p.rng.lo.data.toList && (p.rng.hi.data.toList == p.rng.hi.data.toList && true)) = false → false = true ∧ True)) ∧ (true = false → false = true ∧ True)) ∧ (P.sameP p.prods p.prods = false → false = true ∧ True)) ∧ (true = false → false = true ∧ True)
theorem vcSam_eq (p : Part) : (ctrVC Tryd.prog (samH p) 9 [.agg (encPt true p), .agg (encPt true p)] [] (boolR true)) = vcSam p := by kernel_rfl
theorem sameP_refl (a : List P.Producer) : P.sameP a a = true := by
  unfold P.sameP P.sameFrom
  simp [P.eqP]
theorem sam_c (p : Part) (hp : PartTy p) : (boolR true).Sat (ACall' Tryd.prog 9 [.agg (encPt true p), .agg (encPt true p)] []) := by
  refine ctr_vc (ht := samH p) Tryd.mixed rfl ?_
  rw [vcSam_eq p]
  unfold vcSam
  obtain ⟨h1, h2, h3, _, _⟩ := hp
  have g1 : p.recs.length ≤ 9223372036854775806 := by omega
  have g2 : p.prods.length ≤ 9223372036854775806 := by omega
  have g3 : p.cons.length ≤ 9223372036854775806 := by omega
  simp [g1, g2, g3, sameP_refl]
noncomputable def samC (p q : Part) : Ctr Tryd.prog := ⟨9, [.agg (encPt true p), .agg (encPt true q)], [], .need (PartTy p ∧ p = q) (boolR true), T.Sat.need fun h => by obtain ⟨h1, rfl⟩ := h; exact sam_c p h1⟩
def okT (A B : Part) : T An := .ret (.tup [.agg (encPt true A), .agg (encPt true B), .s (.int .i64 0)], [], [])
def erT (e : Int) : T An := .ret (.tup [.agg (encPt true default), .agg (encPt true default), .y (.int .i64 e)], [], [])
structure SplOk (p : Part) (k : ByteArray) (A B : Part) : Prop where
  ty : PartTy p
  sz : k.size ≤ 9223372036854775807
  v : splitE p k = 0
  a : A = partOf p (rLow p.rng k)
  b : B = partOf p (rHigh p.rng k)
noncomputable def okC (p : Part) (k : ByteArray) (A B : Part) : Ctr Tryd.prog := ⟨7, [.agg (encPt true p), .y (.string k)], [], .need (SplOk p k A B) (okT A B), T.Sat.need fun h => by
  have := split_c p k h.ty h.sz
  unfold splitT at this
  rw [h.v] at this
  intro Q hq
  rw [h.a, h.b] at hq
  exact this Q ⟨fun _ => hq, fun e => by simp at e⟩⟩
def kc : ByteArray := ⟨#[99]⟩
def someP : Part := ⟨⟨ByteArray.empty, ByteArray.empty⟩, 3, 1, [⟨0, ⟨#[97]⟩, [], 7, 1⟩, ⟨1, ⟨#[109]⟩, [], 7, 2⟩, ⟨2, ⟨#[98]⟩, [], 8, 1⟩], [⟨7, 2, true, 1⟩, ⟨8, 1, true, 2⟩], [⟨⟨#[99]⟩, 2⟩]⟩
noncomputable def livH : HintsT Tryd.prog := withSh (hh _ noLp (cs1 5 1 1 (okC someP kc (partOf someP (rLow someP.rng kc)) (partOf someP (rHigh someP.rng kc))) noCs) noOp) (sh1 10 1 9 779 noSh)
def vcLiv (u : Unit) : Prop :=
  (({ data := #[] : ByteArray } = ByteArray.empty ∧ { data := #[] : ByteArray } = ByteArray.empty ∧ (3 : Int) = (3 : Int) ∧ (1 : Int) = (1 : Int) ∧ (true = true ∧ (3 : Nat) = (3 : Nat) ∧ contLe (3 : Nat) (5 : Nat) (Ax.rowAt (0 : Nat) fun (k j : Nat) => Ax.get [AV.s (Value.int IntKind.u64 (0 : Int)), AV.s (Value.string { data := #[(97 : UInt8)] : ByteArray }), AV.s (Value.slice none (0 : Nat) (0 : Nat)), AV.s (Value.int IntKind.u64 (7 : Int)), AV.s (Value.int IntKind.u64 (1 : Int)), AV.s (Value.int IntKind.u64 (1 : Int)), AV.s (Value.string { data := #[(109 : UInt8)] : ByteArray }), AV.s (Value.slice none (0 : Nat) (0 : Nat)), AV.s (Value.int IntKind.u64 (7 : Int)), AV.s (Value.int IntKind.u64 (2 : Int)), AV.s (Value.int IntKind.u64 (2 : Int)), AV.s (Value.string { data := #[(98 : UInt8)] : ByteArray }), AV.s (Value.slice none (0 : Nat) (0 : Nat)), AV.s (Value.int IntKind.u64 (8 : Int)), AV.s (Value.int IntKind.u64 (1 : Int))] (k * (5 : Nat) + j)) (cellsOf' encR [{ off := (0 : Int), key := { data := #[(97 : UInt8)] : ByteArray }, val := [], prod := (7 : Int), seq := (1 : Int) : Rec }, { off := (1 : Int), key := { data := #[(109 : UInt8)] : ByteArray }, val := [], prod := (7 : Int), seq := (2 : Int) : Rec }, { off := (2 : Int), key := { data := #[(98 : UInt8)] : ByteArray }, val := [], prod := (8 : Int), seq := (1 : Int) : Rec }])) ∧ (true = true ∧ (2 : Nat) = (2 : Nat) ∧ contLe (2 : Nat) (4 : Nat) (Ax.rowAt (0 : Nat) fun (k j : Nat) => Ax.get [AV.s (Value.int IntKind.u64 (7 : Int)), AV.s (Value.int IntKind.u64 (2 : Int)), AV.s (Value.bool true), AV.s (Value.int IntKind.u64 (1 : Int)), AV.s (Value.int IntKind.u64 (8 : Int)), AV.s (Value.int IntKind.u64 (1 : Int)), AV.s (Value.bool true), AV.s (Value.int IntKind.u64 (2 : Int))] (k * (4 : Nat) + j)) (cellsOf' P.encP [{ id := (7 : Int), seq := (2 : Int), here := true, offset := (1 : Int) : P.Producer }, { id := (8 : Int), seq := (1 : Int), here := true, offset := (2 : Int) : P.Producer }])) ∧ (true = true ∧ (1 : Nat) = (1 : Nat) ∧ contLe (1 : Nat) (2 : Nat) (Ax.rowAt (0 : Nat) fun (k j : Nat) => Ax.get [AV.s (Value.string { data := #[(99 : UInt8)] : ByteArray }), AV.s (Value.int IntKind.u64 (2 : Int))] (k * (2 : Nat) + j)) (cellsOf' encC [{ name := { data := #[(99 : UInt8)] : ByteArray }, off := (2 : Int) : Con }])) ∧ True) ∧ { data := #[(99 : UInt8)] : ByteArray } = kc ∧ True) ∧ True ∧ SplOk someP kc (partOf someP (rLow { lo := ByteArray.empty, hi := ByteArray.empty : Rng } kc)) (partOf someP (rHigh { lo := ByteArray.empty, hi := ByteArray.empty : Rng } kc)) ∧ (true = true → (true = true → true = true ∧ True) ∧ (true = false → false = true ∧ True)) ∧ (true = false → false = true ∧ True)
theorem vcLiv_eq (u : Unit) : (ctrVC Tryd.prog livH 5 [] [] (boolR true)) = vcLiv u := by kernel_rfl
theorem liv_c : (boolR true).Sat (ACall' Tryd.prog 5 [] []) := by
  refine ctr_vc (ht := livH) Tryd.mixed rfl ?_
  rw [vcLiv_eq ()]
  unfold vcLiv
  have h1 : PartTy someP := by
    refine ⟨by decide, by decide, by decide, ?_, ?_⟩
    · intro x hx
      simp [someP] at hx
      rcases hx with rfl | rfl <;> decide
    · intro x hx
      simp [someP] at hx
      subst hx
      exact ⟨by decide, by decide⟩
  have two : ∀ {a b : Nat} {c c' : Nat → Nat → AV}, (∀ k, k < a → ∀ j, j < b → le0 (c k j) (c' k j)) → contLe a b c c' := fun h => h
  refine ⟨⟨⟨rfl, rfl, rfl, rfl, ⟨rfl, rfl, ?_⟩, ⟨rfl, rfl, ?_⟩, ⟨rfl, rfl, ?_⟩, trivial⟩, rfl, trivial⟩, trivial, ⟨h1, by decide, rfl, rfl, rfl⟩, fun _ => ⟨fun _ => ⟨rfl, trivial⟩, fun e => by cases e⟩, fun e => by cases e⟩
  · intro k hk j hj
    match k, hk, j, hj with
    | 0, _, 0, _ | 0, _, 1, _ | 0, _, 3, _ | 0, _, 4, _ | 1, _, 0, _ | 1, _, 1, _ | 1, _, 3, _ | 1, _, 4, _ | 2, _, 0, _ | 2, _, 1, _ | 2, _, 3, _ | 2, _, 4, _ => rfl
    | 0, _, 2, _ | 1, _, 2, _ | 2, _, 2, _ => rfl
  · intro k hk j hj
    match k, hk, j, hj with
    | 0, _, 0, _ | 0, _, 1, _ | 0, _, 2, _ | 0, _, 3, _ | 1, _, 0, _ | 1, _, 1, _ | 1, _, 2, _ | 1, _, 3, _ => rfl
  · intro k hk j hj
    match k, hk, j, hj with
    | 0, _, 0, _ | 0, _, 1, _ => rfl
noncomputable def livC : Ctr Tryd.prog := ⟨5, [], [], boolR true, liv_c⟩
end Go.Proofs.YtckklclehofddaaDoor.D
