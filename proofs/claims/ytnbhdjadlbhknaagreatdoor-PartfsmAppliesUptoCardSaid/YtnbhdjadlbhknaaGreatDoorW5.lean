import Derived.Test.YtnbhdjadlbhknaaGreatDoorW1
import Derived.Test.YtnbhdjadlbhknaaGreatDoorW4
set_option linter.unusedVariables false
set_option linter.unusedSimpArgs false
set_option linter.unusedSectionVars false
namespace Go.Proofs.YtnbhdjadlbhknaaGreatDoor.J
open Go.Ax
set_option maxRecDepth 1000000
def vcRF (l : List Int) (s : RS) (e : Int) : Prop :=
  (((0 : Nat) = (0 : Nat) ∧ (0 : Nat) = (0 : Nat)) ∧ e = e ∧ (↑s.at_ : Int) = (↑s.at_ : Int) ∧ True) ∧ ((rmLe l s s) ∧ True) ∧ e ≠ (0 : Int) ∧ True ∧ (rmLe l (failS s e s.at_) (failS s e s.at_)) ∧ True
theorem vcRF_eq (l : List Int) (s : RS) (e : Int) : (ctrVCg Tryz.prog (rFH l s e) 125 [rP, .y (.int .i64 e)] (rM l s) (rR l (failS s e s.at_) [])) = vcRF l s e := by kernel_rfl
theorem rF_c (l : List Int) (s : RS) (e : Int) (he : e ≠ 0) : (rR l (failS s e s.at_) []).Sat (ACall' Tryz.prog 125 [rP, .y (.int .i64 e)] (rM l s)) := by
  refine ctr_vcg (ht := rFH l s e) Tryz.mixed rfl ?_
  rw [vcRF_eq l s e]
  unfold vcRF
  simp [he]
noncomputable def rFC (l : List Int) (s : RS) (e : Int) : Ctr Tryz.prog := ⟨125, [rP, .y (.int .i64 e)], rM l s, .need (e ≠ 0) (rR l (failS s e s.at_) []), T.Sat.need fun h => rF_c l s e h⟩
structure UQ (l : List Int) (s : RS) where
  i : Nat
  v : Int
  hi : i ≤ (l.drop s.at_).length
  hi9 : i ≤ 9
  e : uGo ((l.drop s.at_).drop i) i v = uRes l s
  v0 : 0 ≤ v
  v1 : v < 2 ^ (7 * i)
def uT (l : List Int) (s : RS) (i : Nat) (v : Int) : List AV := mkT 65 [(0, rP), (3, .y (.int .u64 v)), (19, encBs true (l.drop s.at_)), (20, .y (.int .i64 (l.drop s.at_).length)), (21, .y (.int .i64 i))]
def uS (l : List Int) (s : RS) (w : Int) (s' : RS) : Bool → Exit × List AV × List Blk
  | true => (.exit 0, mkT 65 [(0, rP)], rM l s)
  | false => (.ret, mkT 65 [(2, .y (.int .u64 w))], rM l s')
noncomputable def uH (l : List Int) (s : RS) : HintsT Tryz.prog := suR (hh _ noLp (cs1 83 8 1 (rFC l s 12) (cs1 83 13 1 (rFC l s 12) (cs1 83 18 1 (rFC l s 11) noCs))) noOp)
def vcUL_q1 (l : List Int) (s : RS) (sh : Bool) (w : Int) (s' : RS) (q : UQ l s) : Prop := (sh = false → (IntKind.wrap IntKind.u64 (↑(BitVec.toNat (BitVec.ofInt (64 : Nat) q.v ||| BitVec.ofInt (64 : Nat) (IntKind.wrap IntKind.u64 (IntKind.wrap IntKind.u64 (IntKind.wrap IntKind.u8 (↑(BitVec.toNat (BitVec.ofInt (8 : Nat) (List.getD (List.drop s.at_ l) (Int.toNat (↑q.i : Int)) (0 : Int)) &&& BitVec.ofInt (8 : Nat) (127 : Int))) : Int)) * (2 : Int) ^ min (Int.toNat (IntKind.wrap IntKind.i64 ((7 : Int) * (↑q.i : Int)))) (64 : Nat))))) : Int) = w ∧ True) ∧ (((bsLe l l) ∧ IntKind.wrap IntKind.i64 ((↑s.at_ : Int) + IntKind.wrap IntKind.i64 ((↑q.i : Int) + (1 : Int))) = (↑s'.at_ : Int) ∧ (RS.f s = RS.f s' ∧ true = true ∧ (2 : Nat) ≤ (2 : Nat) ∧ cellLe (2 : Nat) (Ax.get [AV.y (Value.int IntKind.i64 s.bad), AV.ifc (31 : Nat) (AV.y (Value.int IntKind.i64 s.e))]) (Ax.get [AV.y (Value.int IntKind.i64 s'.bad), AV.ifc (31 : Nat) (AV.y (Value.int IntKind.i64 s'.e))])) ∧ True) ∧ True) ∧ true = true)
def vcUL_q2 (l : List Int) (s : RS) (sh : Bool) (q : UQ l s) : Prop := (decide ((128 : Int) ≤ List.getD (List.drop s.at_ l) (Int.toNat (↑q.i : Int)) (0 : Int)) = true → ∃ (j : UQ l s), (10 : Nat) - j.i < (10 : Nat) - q.i ∧ ((((0 : Nat) = (0 : Nat) ∧ (0 : Nat) = (0 : Nat)) ∧ IntKind.wrap IntKind.u64 (↑(BitVec.toNat (BitVec.ofInt (64 : Nat) q.v ||| BitVec.ofInt (64 : Nat) (IntKind.wrap IntKind.u64 (IntKind.wrap IntKind.u64 (IntKind.wrap IntKind.u8 (↑(BitVec.toNat (BitVec.ofInt (8 : Nat) (List.getD (List.drop s.at_ l) (Int.toNat (↑q.i : Int)) (0 : Int)) &&& BitVec.ofInt (8 : Nat) (127 : Int))) : Int)) * (2 : Int) ^ min (Int.toNat (IntKind.wrap IntKind.i64 ((7 : Int) * (↑q.i : Int)))) (64 : Nat))))) : Int) = j.v ∧ (bsLe (List.drop s.at_ l) (List.drop s.at_ l)) ∧ (↑(List.length (List.drop s.at_ l)) : Int) = (↑(List.length (List.drop s.at_ l)) : Int) ∧ IntKind.wrap IntKind.i64 ((↑q.i : Int) + (1 : Int)) = (↑j.i : Int) ∧ True) ∧ ((rmLe l s s) ∧ True) ∧ true = true) ∧ true = true ∧ (sh = true → (sh = true → true = true) ∧ (sh = false → true = false)) ∧ (sh = false → (sh = true → false = true) ∧ (sh = false → false = false)))
def vcUL_q3 (l : List Int) (s : RS) (sh : Bool) (w : Int) (s' : RS) (q : UQ l s) : Prop := (decide ((128 : Int) ≤ List.getD (List.drop s.at_ l) (Int.toNat (↑q.i : Int)) (0 : Int)) = false → ((List.getD (List.drop s.at_ l) (Int.toNat (↑q.i : Int)) (0 : Int) == (0 : Int)) = true → (decide ((0 : Int) < (↑q.i : Int)) = true → (((0 : Nat) = (0 : Nat) ∧ (0 : Nat) = (0 : Nat)) ∧ (12 : Int) = (12 : Int) ∧ True) ∧ ((rmLe l s s) ∧ True) ∧ (12 : Int) ≠ (0 : Int) ∧ (sh = true → False) ∧ (sh = false → ((0 : Int) = w ∧ True) ∧ ((rmLe l (failS s (12 : Int) s.at_) s') ∧ True) ∧ true = true)) ∧ (decide ((0 : Int) < (↑q.i : Int)) = false → (sh = true → False) ∧ (vcUL_q1 l s sh w s' q))) ∧ ((List.getD (List.drop s.at_ l) (Int.toNat (↑q.i : Int)) (0 : Int) == (0 : Int)) = false → (sh = true → False) ∧ (vcUL_q1 l s sh w s' q)))
def vcUL (l : List Int) (s : RS) (sh : Bool) (w : Int) (s' : RS) (q : UQ l s) : Prop :=
  (decide ((↑q.i : Int) < (↑(List.length (List.drop s.at_ l)) : Int)) = true → (true && decide ((↑q.i : Int) < (↑(List.length (List.drop s.at_ l)) : Int))) = true ∧ (((↑q.i : Int) == (9 : Int)) = true → ((List.getD (List.drop s.at_ l) (Int.toNat (↑q.i : Int)) (0 : Int) != (1 : Int)) = true → (((0 : Nat) = (0 : Nat) ∧ (0 : Nat) = (0 : Nat)) ∧ (12 : Int) = (12 : Int) ∧ True) ∧ ((rmLe l s s) ∧ True) ∧ (12 : Int) ≠ (0 : Int) ∧ (sh = true → False) ∧ (sh = false → ((0 : Int) = w ∧ True) ∧ ((rmLe l (failS s (12 : Int) s.at_) s') ∧ True) ∧ true = true)) ∧ ((List.getD (List.drop s.at_ l) (Int.toNat (↑q.i : Int)) (0 : Int) != (1 : Int)) = false → true = true ∧ decide ((0 : Int) ≤ IntKind.wrap IntKind.i64 ((7 : Int) * (↑q.i : Int))) = true ∧ true = true ∧ (vcUL_q2 l s sh q) ∧ (vcUL_q3 l s sh w s' q))) ∧ (((↑q.i : Int) == (9 : Int)) = false → true = true ∧ decide ((0 : Int) ≤ IntKind.wrap IntKind.i64 ((7 : Int) * (↑q.i : Int))) = true ∧ true = true ∧ (vcUL_q2 l s sh q) ∧ (vcUL_q3 l s sh w s' q))) ∧ (decide ((↑q.i : Int) < (↑(List.length (List.drop s.at_ l)) : Int)) = false → (sh = true → (((0 : Nat) = (0 : Nat) ∧ (0 : Nat) = (0 : Nat)) ∧ True) ∧ ((rmLe l s s) ∧ True) ∧ true = true) ∧ (sh = false → False))
theorem vcUL_eq (l : List Int) (s : RS) (sh : Bool) (w : Int) (s' : RS) (q : UQ l s) : (loopVC Tryz.prog (uH l s) 83 5 (fun q : UQ l s => 10 - q.i) (fun q => uT l s q.i q.v) (fun q => rM l s) [] (fun _ => .ite sh (.ret true) (.ret false)) (uS l s w s') q) = vcUL l s sh w s' q := by kernel_rfl
noncomputable def uH2 (l : List Int) (s : RS) (sh : Bool) (w : Int) (s' : RS) (q : UQ l s) : HintsT Tryz.prog := suR (hh _ (lp1 83 5 (jobOf (fun q : UQ l s => uT l s q.i q.v) (fun _ => rM l s) [] (fun _ => .ite sh (.ret true) (.ret false)) (uS l s w s') q) noLp) (cs1 83 18 1 (rFC l s 11) noCs) noOp)
def uR (l : List Int) (w : Int) (s' : RS) : T An := .ret (.y (.int .u64 w), rM l s', [])
def vcU (l : List Int) (s : RS) (sh : Bool) (w : Int) (s' : RS) (q : UQ l s) : Prop :=
  (RS.f s = true → (0 : Int) = w ∧ (rmLe l s s') ∧ True) ∧ (RS.f s = false → (true && decide ((↑s.at_ : Int) ≤ (↑(List.length l) : Int)) && decide ((↑(List.length l) : Int) ≤ (↑(List.length l) : Int))) = true ∧ ((((0 : Nat) = (0 : Nat) ∧ (0 : Nat) = (0 : Nat)) ∧ (0 : Int) = q.v ∧ (true = true ∧ Int.toNat (↑(List.length l) : Int) - Int.toNat (↑s.at_ : Int) = List.length (List.drop s.at_ l) ∧ contLe (Int.toNat (↑(List.length l) : Int) - Int.toNat (↑s.at_ : Int)) (1 : Nat) (fun (k : Nat) => cellsOf' encB l (Int.toNat (↑s.at_ : Int) + k)) (cellsOf' encB (List.drop s.at_ l))) ∧ (↑(Int.toNat (↑(List.length l) : Int) - Int.toNat (↑s.at_ : Int)) : Int) = (↑(List.length (List.drop s.at_ l)) : Int) ∧ (0 : Int) = (↑q.i : Int) ∧ True) ∧ ((rmLe l s s) ∧ True) ∧ true = true) ∧ LoopOk Tryz.prog (83 : Nat) (5 : Nat) (loopAt Tryz.prog (83 : Nat) (5 : Nat)) { t := uT l s q.i q.v, m := rM l s, mv := [] : St } (T.map (lout [] (uS l s w s')) ((fun (x : UQ l s) => T.ite sh (T.ret true) (T.ret false)) q)) ∧ (sh = true → (((0 : Nat) = (0 : Nat) ∧ (0 : Nat) = (0 : Nat)) ∧ (11 : Int) = (11 : Int) ∧ True) ∧ ((rmLe l s s) ∧ True) ∧ (11 : Int) ≠ (0 : Int) ∧ (0 : Int) = w ∧ (rmLe l (failS s (11 : Int) s.at_) s') ∧ True) ∧ (sh = false → w = w ∧ (rmLe l s' s') ∧ True))
theorem vcU_eq (l : List Int) (s : RS) (sh : Bool) (w : Int) (s' : RS) (q : UQ l s) : (ctrVCg Tryz.prog (uH2 l s sh w s' q) 83 [rP] (rM l s) (uR l w s')) = vcU l s sh w s' q := by kernel_rfl
end Go.Proofs.YtnbhdjadlbhknaaGreatDoor.J

namespace Go.Proofs.YtnbhdjadlbhknaaGreatDoor.J
open Go.Ax
set_option maxRecDepth 1000000
theorem and127_8 (c : Int) (h0 : 0 ≤ c) (h1 : c < 256) : (↑(BitVec.toNat (BitVec.ofInt 8 c &&& BitVec.ofInt 8 127)) : Int) = c % 128 := by
  rw [BitVec.toNat_and]
  have e : (BitVec.ofInt 8 127).toNat = 2 ^ 7 - 1 := by decide
  rw [e, Nat.and_two_pow_sub_one_eq_mod, BitVec.toNat_ofInt]
  omega
theorem wrU (x : Int) : IntKind.wrap IntKind.u64 x = x % 18446744073709551616 := by
  unfold IntKind.wrap
  simp [IntKind.bits, IntKind.signed]
theorem pow7 {i : Nat} (h : i ≤ 9) : (2 : Int) ^ (7 * i) ≤ 9223372036854775808 ∧ (1 : Int) ≤ 2 ^ (7 * i) ∧ (i ≤ 8 → (2 : Int) ^ (7 * i) ≤ 72057594037927936) := by
  have : i = 0 ∨ i = 1 ∨ i = 2 ∨ i = 3 ∨ i = 4 ∨ i = 5 ∨ i = 6 ∨ i = 7 ∨ i = 8 ∨ i = 9 := by omega
  rcases this with rfl | rfl | rfl | rfl | rfl | rfl | rfl | rfl | rfl | rfl <;> decide
theorem mulB {i : Nat} {d : Int} (h : i ≤ 9) (h0 : 0 ≤ d) (h1 : d < 128) (h9 : i = 9 → d ≤ 1) : 0 ≤ d * 2 ^ (7 * i) ∧ d * 2 ^ (7 * i) < 18446744073709551616 := by
  obtain ⟨p1, p2, p3⟩ := pow7 h
  generalize (2 : Int) ^ (7 * i) = p at p1 p2 p3
  refine ⟨Int.mul_nonneg h0 (by omega), ?_⟩
  by_cases hi : i = 9
  · have : d = 0 ∨ d = 1 := by have := h9 hi; omega
    rcases this with rfl | rfl <;> omega
  · have p4 := p3 (by omega)
    have : d * p ≤ 127 * p := Int.mul_le_mul_of_nonneg_right (by omega) (by omega)
    omega
theorem orU {v c : Int} {i : Nat} (hi : i ≤ 9) (v0 : 0 ≤ v) (v1 : v < 2 ^ (7 * i)) (c0 : 0 ≤ c) (c1 : c < 256) (h9 : i = 9 → c = 1) :
    IntKind.wrap IntKind.u64 (↑(BitVec.toNat (BitVec.ofInt (64 : Nat) v ||| BitVec.ofInt (64 : Nat) (IntKind.wrap IntKind.u64 (IntKind.wrap IntKind.u64 (IntKind.wrap IntKind.u8 (↑(BitVec.toNat (BitVec.ofInt (8 : Nat) c &&& BitVec.ofInt (8 : Nat) (127 : Int))) : Int)) * (2 : Int) ^ min (Int.toNat (IntKind.wrap IntKind.i64 ((7 : Int) * (↑i : Int)))) (64 : Nat))))) : Int) = v + (c % 128) * 2 ^ (7 * i) := by
  rw [and127_8 c c0 c1, u8_mod, wrap_i64 (by omega) (by omega)]
  have e1 : c % 128 % 256 = c % 128 := by omega
  have e2 : min (Int.toNat (7 * (i : Int))) 64 = 7 * i := by omega
  rw [e1, e2, wrU (c % 128)]
  have e3 : c % 128 % 18446744073709551616 = c % 128 := by omega
  rw [e3]
  obtain ⟨m0, m1⟩ := mulB (d := c % 128) hi (by omega) (by omega) (fun h => by have := h9 h; omega)
  rw [wrU (c % 128 * 2 ^ (7 * i)), Int.emod_eq_of_lt m0 m1]
  obtain ⟨vn, rfl⟩ := Int.eq_ofNat_of_zero_le v0
  obtain ⟨dn, hdn⟩ := Int.eq_ofNat_of_zero_le (show 0 ≤ c % 128 by omega)
  rw [hdn] at m0 m1 ⊢
  have hm : ((dn : Int) * 2 ^ (7 * i)) = ((dn * 2 ^ (7 * i) : Nat) : Int) := by simp
  rw [hm] at m1 ⊢
  have hv : vn < 2 ^ (7 * i) := by
    have : ((vn : Nat) : Int) < ((2 ^ (7 * i) : Nat) : Int) := by simpa using v1
    omega
  have p := (pow7 hi).1
  have hvb : (vn : Int) < 9223372036854775808 := by omega
  have hor : vn ||| dn * 2 ^ (7 * i) = vn + dn * 2 ^ (7 * i) := by
    have := Nat.two_pow_add_eq_or_of_lt hv dn
    rw [Nat.mul_comm dn, Nat.or_comm, ← this, Nat.add_comm]
  rw [BitVec.toNat_or, BitVec.toNat_ofInt, BitVec.toNat_ofInt]
  have f1 : (((vn : Int) % ((2 ^ 64 : Nat) : Int)).toNat) = vn := by omega
  have f2 : ((((dn * 2 ^ (7 * i) : Nat) : Int) % ((2 ^ 64 : Nat) : Int)).toNat) = dn * 2 ^ (7 * i) := by
    generalize dn * 2 ^ (7 * i) = z at m1
    omega
  rw [f1, f2, hor, wrU]
  have hsum : vn + dn * 2 ^ (7 * i) < 2 ^ 64 := by
    rw [← hor]
    refine Nat.or_lt_two_pow ?_ ?_
    · omega
    · generalize dn * 2 ^ (7 * i) = z at m1
      omega
  generalize dn * 2 ^ (7 * i) = z at hsum
  omega
theorem nextB {v c : Int} {i : Nat} (v0 : 0 ≤ v) (v1 : v < 2 ^ (7 * i)) : 0 ≤ v + (c % 128) * 2 ^ (7 * i) ∧ v + (c % 128) * 2 ^ (7 * i) < 2 ^ (7 * (i + 1)) := by
  have e : (2 : Int) ^ (7 * (i + 1)) = 128 * 2 ^ (7 * i) := by
    rw [show 7 * (i + 1) = 7 * i + 7 by omega, Int.pow_add]
    omega
  have p : (0 : Int) < 2 ^ (7 * i) := Int.pow_pos (by decide)
  rw [e]
  generalize (2 : Int) ^ (7 * i) = q at *
  have h0 : 0 ≤ c % 128 := by omega
  have h1 : c % 128 ≤ 127 := by omega
  generalize c % 128 = d at *
  have := Int.mul_nonneg h0 (by omega : 0 ≤ q)
  have : d * q ≤ 127 * q := Int.mul_le_mul_of_nonneg_right h1 (by omega)
  omega
end Go.Proofs.YtnbhdjadlbhknaaGreatDoor.J

namespace Go.Proofs.YtnbhdjadlbhknaaGreatDoor.J
open Go.Ax
set_option maxRecDepth 1000000
theorem drop_get (l : List Int) (i : Nat) (h : i < l.length) : l.drop i = l.getD i 0 :: l.drop (i + 1) := by
  rw [List.drop_eq_getElem_cons h]
  simp [List.getD, h]
structure USpec (l : List Int) (s : RS) (sh : Bool) (w : Int) (s' : RS) : Prop where
  a : sh = decide ((uRes l s).1 = 11)
  b : (uRes l s).1 = 0 → w = (uRes l s).2.1 ∧ s' = ⟨s.at_ + (uRes l s).2.2, s.e, s.bad⟩
  c : (uRes l s).1 ≠ 0 → w = 0 ∧ s' = failS s (uRes l s).1 s.at_
theorem u_loop (l : List Int) (s : RS) (hs : ROk l s) (sh : Bool) (w : Int) (s' : RS) (hp : USpec l s sh w s') (q : UQ l s) : LoopOk Tryz.prog 83 5 (loopAt Tryz.prog 83 5) ⟨uT l s q.i q.v, rM l s, []⟩ (T.map (lout [] (uS l s w s')) (.ite sh (.ret true) (.ret false))) := by
  refine loop_vcH (P := Tryz.prog) (f := 83) (k := 5) (ι := UQ l s) (μ := fun q => 10 - q.i) (ht := fun _ => uH l s) (stT := fun q => uT l s q.i q.v) (stM := fun q => rM l s) (X := []) (o := fun _ => .ite sh (.ret true) (.ret false)) (S := uS l s w s') Tryz.mixed (fun _ => rfl) (fun q => ?_) q
  rw [vcUL_eq l s sh w s' q]
  unfold vcUL vcUL_q3 vcUL_q2 vcUL_q1
  obtain ⟨i, v, hi, hi9, he, v0, v1⟩ := q
  have hlen : (l.drop s.at_).length ≤ 140737488355328 := by have := hs.n; rw [List.length_drop]; omega
  simp only [Int.toNat_natCast]
  by_cases h : i < (l.drop s.at_).length
  · have hd : decide ((i : Int) < ((l.drop s.at_).length : Int)) = true := by simp only [decide_eq_true_eq]; omega
    have hcm : (l.drop s.at_).getD i 0 ∈ l := by
      refine List.mem_of_mem_drop (i := s.at_) ?_
      simp only [List.getD, List.getElem?_eq_getElem h, Option.getD_some]
      exact List.getElem_mem h
    obtain ⟨c0, c1⟩ := hs.b.b _ hcm
    rw [drop_get _ i h, uGo] at he
    obtain ⟨c, hc⟩ : ∃ c, (l.drop s.at_).getD i 0 = c := ⟨_, rfl⟩
    rw [hc] at he c0 c1
    simp only [hc]
    have hw1 : IntKind.wrap IntKind.i64 ((i : Int) + 1) = (i : Int) + 1 := wrap_i64 (by omega) (by omega)
    have hw7 : decide ((0 : Int) ≤ IntKind.wrap IntKind.i64 ((7 : Int) * (i : Int))) = true := by rw [wrap_i64 (by omega) (by omega)]; simp; omega
    simp only [hd, hw1, hw7]
    by_cases hA : i = 9 ∧ c ≠ 1
    · rw [if_pos hA] at he
      have e1 : (uRes l s).1 = 12 := by rw [← he]
      obtain ⟨k1, k2⟩ := hp.c (by rw [e1]; decide)
      have k3 : sh = false := by rw [hp.a, e1]; rfl
      rw [e1] at k2
      have b1 : ((i : Int) == 9) = true := by simp; omega
      have b2 : (c != 1) = true := by simpa using hA.2
      simp [b1, b2, k1, k2, k3]
    · rw [if_neg hA] at he
      have h9 : i = 9 → c = 1 := fun h => by
        by_cases hc : c = 1
        · exact hc
        · exact absurd ⟨h, hc⟩ hA
      have hor := orU hi9 v0 v1 c0 c1 h9
      obtain ⟨n0, n1⟩ := nextB (c := c) v0 v1
      simp only [hor]
      have b12 : (((i : Int) == 9) = true → (c != 1) = false) := fun hb => by
        have : i = 9 := by simp at hb; omega
        rw [h9 this]
        rfl
      by_cases h128 : 128 ≤ c
      · rw [if_pos h128] at he
        have hi8 : i ≤ 8 := by
          by_cases h : i = 9
          · have := h9 h; omega
          · omega
        have b1 : ((i : Int) == 9) = false := by simp; omega
        have b2 : decide ((128 : Int) ≤ c) = true := by simpa using h128
        simp only [b1, b2]
        simp
        refine ⟨⟨i + 1, v + (c % 128) * 2 ^ (7 * i), by omega, by omega, he, n0, n1⟩, by show 10 - (i + 1) < 10 - i; omega, rfl, rfl⟩
      · rw [if_neg h128] at he
        have b2 : decide ((128 : Int) ≤ c) = false := by simpa using h128
        by_cases h0 : c = 0 ∧ 0 < i
        · rw [if_pos h0] at he
          have e1 : (uRes l s).1 = 12 := by rw [← he]
          obtain ⟨k1, k2⟩ := hp.c (by rw [e1]; decide)
          have k3 : sh = false := by rw [hp.a, e1]; rfl
          rw [e1] at k2
          have b1 : ((i : Int) == 9) = false := by
            by_cases h : i = 9
            · have := h9 h; omega
            · simp; omega
          have b3 : decide ((0 : Int) < (i : Int)) = true := by simp; omega
          simp [b1, b2, b3, h0.1, k1, k2, k3]
          intro hz
          exact absurd hz (by omega)
        · rw [if_neg h0] at he
          have e1 : (uRes l s).1 = 0 := by rw [← he]
          obtain ⟨k1, k2⟩ := hp.b e1
          have k3 : sh = false := by rw [hp.a, e1]; rfl
          have e2 : (uRes l s).2.1 = v + (c % 128) * 2 ^ (7 * i) := by rw [← he]
          have e3 : (uRes l s).2.2 = i + 1 := by rw [← he]
          rw [e2] at k1
          rw [e3] at k2
          have hat := hs.at_
          have hw2 : IntKind.wrap IntKind.i64 ((s.at_ : Int) + ((i : Int) + 1)) = (s.at_ : Int) + ((i : Int) + 1) := wrap_i64 (by omega) (by have := hs.n; omega)
          have b3 : ((c == 0) = true → decide ((0 : Int) < (i : Int)) = false) := fun hb => by
            have : c = 0 := by simpa using hb
            simp
            by_cases hh : 0 < i
            · exact absurd ⟨this, hh⟩ h0
            · omega
          simp only [b2, hw2]
          rw [k1, k2, k3]
          have fin : ∀ x : Bool, ((c == 0) = x) → (x = true → decide ((0 : Int) < (i : Int)) = false) := fun x hx hb => b3 (hx.trans hb)
          by_cases hi9' : i = 9
          · have hc1 := h9 hi9'
            have b1 : ((i : Int) == 9) = true := by simp; omega
            simp only [b1, b12 b1]
            simp [hc1, RS.f]
          · have b1 : ((i : Int) == 9) = false := by simp; omega
            simp only [b1]
            cases hz : (c == 0)
            · simp [RS.f]
            · simp only [b3 hz]
              simp [RS.f]
  · obtain rfl : i = (l.drop s.at_).length := by omega
    have e0 : (l.drop s.at_).drop (l.drop s.at_).length = [] := List.drop_length
    rw [e0, uGo] at he
    have e1 : (uRes l s).1 = 11 := by rw [← he]
    have k3 : sh = true := by rw [hp.a, e1]; rfl
    simp [k3]
theorem uintS_spec (l : List Int) (s : RS) (he : s.e = 0) : USpec l s (decide ((uRes l s).1 = 11)) (uintS l s).1 (uintS l s).2 := by
  have h0 : (s.e != 0) = false := by simp [he]
  refine ⟨rfl, fun h => ?_, fun h => ?_⟩
  · unfold uintS
    simp [h0, h]
  · unfold uintS
    simp [h0, h]
theorem u_c (l : List Int) (s : RS) (hs : ROk l s) : (uR l (uintS l s).1 (uintS l s).2).Sat (ACall' Tryz.prog 83 [rP] (rM l s)) := by
  have hat := hs.at_
  have hn := hs.n
  have q : UQ l s := ⟨0, 0, by omega, by omega, rfl, by decide, by decide⟩
  have lp := fun he => u_loop l s hs _ _ _ (uintS_spec l s he) ⟨0, 0, by omega, by omega, rfl, by decide, by decide⟩
  refine ctr_vcg (ht := uH2 l s (decide ((uRes l s).1 = 11)) (uintS l s).1 (uintS l s).2 ⟨0, 0, by omega, by omega, rfl, by decide, by decide⟩) Tryz.mixed rfl ?_
  rw [vcU_eq l s (decide ((uRes l s).1 = 11)) (uintS l s).1 (uintS l s).2 ⟨0, 0, by omega, by omega, rfl, by decide, by decide⟩]
  unfold vcU
  cases hf : s.f
  · have he : s.e = 0 := by simpa [RS.f] using hf
    have hp := uintS_spec l s he
    have lp := lp he
    have hc : contLe (l.length - s.at_) 1 (fun k => cellsOf' encB l (s.at_ + k)) (cellsOf' encB (l.drop s.at_)) := by
      intro k hk j hj
      unfold cellsOf'
      have : (l.drop s.at_).getD k default = l.getD (s.at_ + k) default := by simp [List.getD]
      rw [this]
      exact le0_refl _
    have hl : (l.drop s.at_).length = l.length - s.at_ := List.length_drop
    simp only [Int.toNat_natCast, hl]
    by_cases h11 : (uRes l s).1 = 11
    · obtain ⟨k1, k2⟩ := hp.c (by rw [h11]; decide)
      rw [h11] at k2
      simp only [h11] at lp
      simp [h11, hc]
      simp [h11] at lp
      refine ⟨by omega, by simpa using lp, ?_⟩
      rw [k1, k2]
      simp
    · simp only [h11] at lp
      simp [h11, hc]
      simp [h11] at lp
      exact ⟨by omega, by simpa using lp⟩
  · have hw : uintS l s = (0, s) := by unfold uintS; rw [show (s.e != 0) = true from hf]; rfl
    rw [hw]
    simp [hf]
noncomputable def uC (l : List Int) (s : RS) (w : Int) (s' : RS) : Ctr Tryz.prog := ⟨83, [rP], rM l s, .need (ROk l s) (.need ((w, s') = uintS l s) (uR l w s')), T.Sat.need fun h => T.Sat.need fun e => by
  have e1 : w = (uintS l s).1 := congrArg Prod.fst e
  have e2 : s' = (uintS l s).2 := congrArg Prod.snd e
  rw [e1, e2]
  exact u_c l s h⟩
end Go.Proofs.YtnbhdjadlbhknaaGreatDoor.J

namespace Go.Proofs.YtnbhdjadlbhknaaGreatDoor.J
open Go.Ax
set_option maxRecDepth 1000000
def zag (v : Int) : Int := if v % 2 = 0 then v / 2 else -(v / 2) - 1
def intS (l : List Int) (s : RS) : Int × RS := (zag (uintS l s).1, (uintS l s).2)
noncomputable def iH (l : List Int) (s : RS) (w : Int) (s' : RS) : HintsT Tryz.prog := suR (hh _ noLp (cs1 82 1 1 (uC l s w s') noCs) noOp)
def iR (l : List Int) (w : Int) (s' : RS) : T An := .ret (.y (.int .i64 w), rM l s', [])
def vcI (l : List Int) (s : RS) (w : Int) (s' : RS) : Prop :=
  (((0 : Nat) = (0 : Nat) ∧ (0 : Nat) = (0 : Nat)) ∧ True) ∧ ((rmLe l s s) ∧ True) ∧ ROk l s ∧ (w, s') = uintS l s ∧ true = true ∧ true = true ∧ IntKind.wrap IntKind.i64 (↑(BitVec.toNat (BitVec.ofInt (64 : Nat) (IntKind.wrap IntKind.i64 (w / (2 : Int))) ^^^ BitVec.ofInt (64 : Nat) (IntKind.wrap IntKind.i64 ((0 : Int) - IntKind.wrap IntKind.i64 (IntKind.wrap IntKind.u64 (↑(BitVec.toNat (BitVec.ofInt (64 : Nat) w &&& BitVec.ofInt (64 : Nat) (1 : Int))) : Int)))))) : Int) = zag w ∧ (rmLe l s' s') ∧ True
theorem vcI_eq (l : List Int) (s : RS) (w : Int) (s' : RS) : (ctrVCg Tryz.prog (iH l s w s') 82 [rP] (rM l s) (iR l (zag w) s')) = vcI l s w s' := by kernel_rfl
def boolS (l : List Int) (s : RS) : Bool × RS := if s.e != 0 then (false, s) else if s.at_ = l.length then (false, failS s 11 s.at_) else if 1 < l.getD s.at_ 0 then (false, failS s 16 s.at_) else (l.getD s.at_ 0 == 1, ⟨s.at_ + 1, s.e, s.bad⟩)
def bR (l : List Int) (w : Bool) (s' : RS) : T An := .ret (.y (.bool w), rM l s', [])
noncomputable def bH (l : List Int) (s : RS) : HintsT Tryz.prog := suR (hh _ noLp (cs1 84 4 1 (rFC l s 11) (cs1 84 7 1 (rFC l s 16) noCs)) noOp)
def vcB (l : List Int) (s : RS) (w : Bool) (s' : RS) : Prop :=
  (RS.f s = true → false = w ∧ (rmLe l s s') ∧ True) ∧ (RS.f s = false → (((↑s.at_ : Int) == (↑(List.length l) : Int)) = true → (((0 : Nat) = (0 : Nat) ∧ (0 : Nat) = (0 : Nat)) ∧ (11 : Int) = (11 : Int) ∧ True) ∧ ((rmLe l s s) ∧ True) ∧ (11 : Int) ≠ (0 : Int) ∧ false = w ∧ (rmLe l (failS s (11 : Int) s.at_) s') ∧ True) ∧ (((↑s.at_ : Int) == (↑(List.length l) : Int)) = false → (true && decide ((↑s.at_ : Int) < (↑(List.length l) : Int))) = true ∧ (decide ((1 : Int) < List.getD l (Int.toNat (↑s.at_ : Int)) (0 : Int)) = true → (((0 : Nat) = (0 : Nat) ∧ (0 : Nat) = (0 : Nat)) ∧ (16 : Int) = (16 : Int) ∧ True) ∧ ((rmLe l s s) ∧ True) ∧ (16 : Int) ≠ (0 : Int) ∧ false = w ∧ (rmLe l (failS s (16 : Int) s.at_) s') ∧ True) ∧ (decide ((1 : Int) < List.getD l (Int.toNat (↑s.at_ : Int)) (0 : Int)) = false → (decide ((0 : Int) ≤ IntKind.wrap IntKind.i64 (IntKind.wrap IntKind.i64 ((↑s.at_ : Int) + (1 : Int)) - (1 : Int))) && decide (IntKind.wrap IntKind.i64 (IntKind.wrap IntKind.i64 ((↑s.at_ : Int) + (1 : Int)) - (1 : Int)) < (↑(List.length l) : Int))) = true ∧ (List.getD l (Int.toNat (IntKind.wrap IntKind.i64 (IntKind.wrap IntKind.i64 ((↑s.at_ : Int) + (1 : Int)) - (1 : Int)))) (0 : Int) == (1 : Int)) = w ∧ ((bsLe l l) ∧ IntKind.wrap IntKind.i64 ((↑s.at_ : Int) + (1 : Int)) = (↑s'.at_ : Int) ∧ (RS.f s = RS.f s' ∧ true = true ∧ (2 : Nat) ≤ (2 : Nat) ∧ cellLe (2 : Nat) (Ax.get [AV.y (Value.int IntKind.i64 s.bad), AV.ifc (31 : Nat) (AV.y (Value.int IntKind.i64 s.e))]) (Ax.get [AV.y (Value.int IntKind.i64 s'.bad), AV.ifc (31 : Nat) (AV.y (Value.int IntKind.i64 s'.e))])) ∧ True) ∧ True)))
theorem vcB_eq (l : List Int) (s : RS) (w : Bool) (s' : RS) : (ctrVCg Tryz.prog (bH l s) 84 [rP] (rM l s) (bR l w s')) = vcB l s w s' := by kernel_rfl
def countS (l : List Int) (s : RS) (most : Int) : Int × RS := if (uintS l s).2.e != 0 then (0, (uintS l s).2) else if most < 0 ∨ most < (uintS l s).1 then (0, failS (uintS l s).2 13 s.at_) else if (l.length - (uintS l s).2.at_ : Int) < (uintS l s).1 then (0, failS (uintS l s).2 11 s.at_) else uintS l s
noncomputable def cH (l : List Int) (s : RS) (v : Int) (s1 : RS) : HintsT Tryz.prog := suR (hh _ noLp (cs1 90 2 1 (uC l s v s1) (cs1 90 6 2 (rfC l s1 13 s.at_) (cs1 90 9 2 (rfC l s1 11 s.at_) noCs))) noOp)
def vcC (l : List Int) (s : RS) (most : Int) (v : Int) (s1 : RS) (w : Int) (s' : RS) : Prop :=
  (((0 : Nat) = (0 : Nat) ∧ (0 : Nat) = (0 : Nat)) ∧ True) ∧ ((rmLe l s s) ∧ True) ∧ ROk l s ∧ (v, s1) = uintS l s ∧ (RS.f s1 = true → (0 : Int) = w ∧ (rmLe l s1 s') ∧ True) ∧ (RS.f s1 = false → (decide (most < (0 : Int)) = true → (((0 : Nat) = (0 : Nat) ∧ (0 : Nat) = (0 : Nat)) ∧ (13 : Int) = (13 : Int) ∧ (↑s.at_ : Int) = (↑s.at_ : Int) ∧ True) ∧ ((rmLe l s1 s1) ∧ True) ∧ (13 : Int) ≠ (0 : Int) ∧ (0 : Int) = w ∧ (rmLe l (failS s1 (13 : Int) s.at_) s') ∧ True) ∧ (decide (most < (0 : Int)) = false → (decide (IntKind.wrap IntKind.u64 most < v) = true → (((0 : Nat) = (0 : Nat) ∧ (0 : Nat) = (0 : Nat)) ∧ (13 : Int) = (13 : Int) ∧ (↑s.at_ : Int) = (↑s.at_ : Int) ∧ True) ∧ ((rmLe l s1 s1) ∧ True) ∧ (13 : Int) ≠ (0 : Int) ∧ (0 : Int) = w ∧ (rmLe l (failS s1 (13 : Int) s.at_) s') ∧ True) ∧ (decide (IntKind.wrap IntKind.u64 most < v) = false → (decide (IntKind.wrap IntKind.u64 (IntKind.wrap IntKind.i64 ((↑(List.length l) : Int) - (↑s1.at_ : Int))) < v) = true → (((0 : Nat) = (0 : Nat) ∧ (0 : Nat) = (0 : Nat)) ∧ (11 : Int) = (11 : Int) ∧ (↑s.at_ : Int) = (↑s.at_ : Int) ∧ True) ∧ ((rmLe l s1 s1) ∧ True) ∧ (11 : Int) ≠ (0 : Int) ∧ (0 : Int) = w ∧ (rmLe l (failS s1 (11 : Int) s.at_) s') ∧ True) ∧ (decide (IntKind.wrap IntKind.u64 (IntKind.wrap IntKind.i64 ((↑(List.length l) : Int) - (↑s1.at_ : Int))) < v) = false → IntKind.wrap IntKind.i64 v = w ∧ (rmLe l s1 s') ∧ True))))
theorem vcC_eq (l : List Int) (s : RS) (most : Int) (v : Int) (s1 : RS) (w : Int) (s' : RS) : (ctrVCg Tryz.prog (cH l s v s1) 90 [rP, .y (.int .i64 most)] (rM l s) (iR l w s')) = vcC l s most v s1 w s' := by kernel_rfl
end Go.Proofs.YtnbhdjadlbhknaaGreatDoor.J

namespace Go.Proofs.YtnbhdjadlbhknaaGreatDoor.J
open Go.Ax
set_option maxRecDepth 1000000
theorem wrI (x : Int) (h0 : -9223372036854775808 ≤ x) (h1 : x ≤ 9223372036854775807) : IntKind.wrap IntKind.i64 x = x := wrap_i64 h0 h1
theorem and1_64 (v : Int) : (↑(BitVec.toNat (BitVec.ofInt 64 v &&& BitVec.ofInt 64 1)) : Int) = v % 2 := by
  rw [BitVec.toNat_and]
  have e : (BitVec.ofInt 64 1).toNat = 2 ^ 1 - 1 := by decide
  rw [e, Nat.and_two_pow_sub_one_eq_mod, BitVec.toNat_ofInt]
  omega
theorem wrI2 (x : Int) : IntKind.wrap IntKind.i64 x = (x + 9223372036854775808) % 18446744073709551616 - 9223372036854775808 := by
  unfold IntKind.wrap
  simp [IntKind.bits, IntKind.signed]
  omega
theorem zag_xor (w : Int) (h0 : 0 ≤ w) (h1 : w < 18446744073709551616) : IntKind.wrap IntKind.i64 (↑(BitVec.toNat (BitVec.ofInt (64 : Nat) (IntKind.wrap IntKind.i64 (w / (2 : Int))) ^^^ BitVec.ofInt (64 : Nat) (IntKind.wrap IntKind.i64 ((0 : Int) - IntKind.wrap IntKind.i64 (IntKind.wrap IntKind.u64 (↑(BitVec.toNat (BitVec.ofInt (64 : Nat) w &&& BitVec.ofInt (64 : Nat) (1 : Int))) : Int)))))) : Int) = zag w := by
  rw [and1_64, wrU, wrI (w / 2) (by omega) (by omega)]
  have e1 : w % 2 % 18446744073709551616 = w % 2 := by omega
  rw [e1, wrI (w % 2) (by omega) (by omega), wrI (0 - w % 2) (by omega) (by omega)]
  unfold zag
  by_cases h : w % 2 = 0
  · rw [if_pos h, h]
    have e3 : BitVec.ofInt 64 (0 - 0) = 0#64 := by decide
    rw [e3, BitVec.xor_zero, BitVec.toNat_ofInt, wrI2]
    omega
  · rw [if_neg h]
    have h2 : w % 2 = 1 := by omega
    rw [h2]
    have e3 : BitVec.ofInt 64 (0 - 1) = BitVec.allOnes 64 := by decide
    rw [e3, BitVec.xor_allOnes, BitVec.toNat_not, BitVec.toNat_ofInt, wrI2]
    omega
theorem uGo_bnd : ∀ (bs : List Int) (i : Nat) (v : Int), (∀ x ∈ bs, 0 ≤ x ∧ x < 256) → i ≤ 9 → 0 ≤ v → v < 2 ^ (7 * i) → 0 ≤ (uGo bs i v).2.1 ∧ (uGo bs i v).2.1 < 18446744073709551616 ∧ (uGo bs i v).2.2 ≤ i + bs.length
  | [], i, v, _, _, _, _ => by simp [uGo]
  | c :: r, i, v, hb, hi, h0, h1 => by
    obtain ⟨c0, c1⟩ := hb c (by simp)
    unfold uGo
    by_cases hA : i = 9 ∧ c ≠ 1
    · rw [if_pos hA]; simp
    · rw [if_neg hA]
      obtain ⟨n0, n1⟩ := nextB (c := c) h0 h1
      have h9 : i = 9 → c = 1 := fun h => by
        by_cases hc : c = 1
        · exact hc
        · exact absurd ⟨h, hc⟩ hA
      by_cases h2 : 128 ≤ c
      · rw [if_pos h2]
        have hi8 : i + 1 ≤ 9 := by
          by_cases h : i = 9
          · have := h9 h; omega
          · omega
        have := uGo_bnd r (i + 1) (v + (c % 128) * 2 ^ (7 * i)) (fun x hx => hb x (by simp [hx])) hi8 n0 n1
        refine ⟨this.1, this.2.1, ?_⟩
        simp only [List.length_cons]
        omega
      · rw [if_neg h2]
        by_cases h3 : c = 0 ∧ 0 < i
        · rw [if_pos h3]; simp
        · rw [if_neg h3]
          obtain ⟨m0, m1⟩ := mulB (d := c % 128) hi (by omega) (by omega) (fun h => by have := h9 h; omega)
          have hp := (pow7 hi).1
          refine ⟨n0, ?_, by simp only [List.length_cons]; omega⟩
          by_cases hi9 : i = 9
          · have := h9 hi9
            subst this
            subst hi9
            have e : ((1 : Int) % 128) * 2 ^ (7 * 9) = 9223372036854775808 := by decide
            have e2 : (2 : Int) ^ (7 * 9) = 9223372036854775808 := by decide
            rw [e2] at h1
            show v + 1 % 128 * 2 ^ (7 * 9) < _
            rw [e]
            omega
          · have hp9 : (2 : Int) ^ (7 * (i + 1)) ≤ 9223372036854775808 := (pow7 (by omega)).1
            show v + c % 128 * 2 ^ (7 * i) < _
            omega
theorem uRes_bnd {l : List Int} {s : RS} (h : ROk l s) : 0 ≤ (uRes l s).2.1 ∧ (uRes l s).2.1 < 18446744073709551616 ∧ s.at_ + (uRes l s).2.2 ≤ l.length := by
  have := uGo_bnd (l.drop s.at_) 0 0 (fun x hx => h.b.b x (List.mem_of_mem_drop hx)) (by decide) (by decide) (by decide)
  have hat := h.at_
  rw [List.length_drop] at this
  refine ⟨this.1, this.2.1, ?_⟩
  unfold uRes
  omega
theorem failS_ok {l : List Int} {s : RS} (h : ROk l s) {e : Int} (he : e ≠ 0) {p : Nat} (hp : p ≤ l.length) : ROk l (failS s e p) := by
  unfold failS
  split
  · exact h
  · exact ⟨h.n, hp, h.b, fun h => absurd h he⟩
theorem u64_0 : U64 0 := ⟨by decide, by decide⟩
theorem uintS_ok {l : List Int} {s : RS} (h : ROk l s) : ROk l (uintS l s).2 ∧ U64 (uintS l s).1 := by
  obtain ⟨b0, b1, b2⟩ := uRes_bnd h
  unfold uintS
  split
  · exact ⟨h, u64_0⟩
  · split
    · exact ⟨⟨h.n, b2, h.b, h.bad⟩, b0, b1⟩
    · rename_i hz
      exact ⟨failS_ok h hz h.at_, u64_0⟩
theorem rd_ok {l : List Int} {s : RS} (h : ROk l s) {v : Int} {s' : RS} (e : (v, s') = uintS l s) : ROk l s' ∧ U64 v := by
  have := uintS_ok h
  rw [← e] at this
  exact this
theorem i_c (l : List Int) (s : RS) (hs : ROk l s) : (iR l (intS l s).1 (intS l s).2).Sat (ACall' Tryz.prog 82 [rP] (rM l s)) := by
  have hu := (uintS_ok hs).2
  have hz := zag_xor _ hu.lo hu.hi
  refine ctr_vcg (ht := iH l s (uintS l s).1 (uintS l s).2) Tryz.mixed rfl ?_
  unfold intS
  rw [vcI_eq l s (uintS l s).1 (uintS l s).2]
  unfold vcI
  simp only [hz]
  simp [hs]
noncomputable def iC (l : List Int) (s : RS) (w : Int) (s' : RS) : Ctr Tryz.prog := ⟨82, [rP], rM l s, .need (ROk l s) (.need ((w, s') = intS l s) (iR l w s')), T.Sat.need fun h => T.Sat.need fun e => by
  have e1 : w = (intS l s).1 := congrArg Prod.fst e
  have e2 : s' = (intS l s).2 := congrArg Prod.snd e
  rw [e1, e2]
  exact i_c l s h⟩
theorem b_c (l : List Int) (s : RS) (hs : ROk l s) : (bR l (boolS l s).1 (boolS l s).2).Sat (ACall' Tryz.prog 84 [rP] (rM l s)) := by
  have hat := hs.at_
  have hn := hs.n
  refine ctr_vcg (ht := bH l s) Tryz.mixed rfl ?_
  rw [vcB_eq l s (boolS l s).1 (boolS l s).2]
  unfold vcB
  cases hf : s.f
  · have h0 : (s.e != 0) = false := hf
    have he : s.e = 0 := by simpa [RS.f] using hf
    by_cases h1 : s.at_ = l.length
    · have hw : boolS l s = (false, failS s 11 s.at_) := by unfold boolS; simp [h0, h1]
      have b1 : ((s.at_ : Int) == (l.length : Int)) = true := by simp; omega
      rw [hw]
      simp only [b1]
      simp
    · have b1 : ((s.at_ : Int) == (l.length : Int)) = false := by simp; omega
      have hlt : s.at_ < l.length := by omega
      have b2 : decide ((s.at_ : Int) < (l.length : Int)) = true := by simp; omega
      by_cases h2 : 1 < l.getD s.at_ 0
      · have hw : boolS l s = (false, failS s 16 s.at_) := by unfold boolS; simp only [h0, h1, h2]; simp
        have b3 : decide ((1 : Int) < l.getD s.at_ 0) = true := by simpa using h2
        rw [hw]
        simp only [b1, b2, Int.toNat_natCast, b3]
        simp
      · have hw : boolS l s = (l.getD s.at_ 0 == 1, ⟨s.at_ + 1, s.e, s.bad⟩) := by unfold boolS; simp only [h0, h1, h2]; simp
        have b3 : decide ((1 : Int) < l.getD s.at_ 0) = false := by simpa using h2
        have w1 : IntKind.wrap IntKind.i64 ((s.at_ : Int) + 1) = (s.at_ : Int) + 1 := wrap_i64 (by omega) (by omega)
        have w2 : IntKind.wrap IntKind.i64 ((s.at_ : Int) + 1 - 1) = (s.at_ : Int) := by rw [wrap_i64 (by omega) (by omega)]; omega
        rw [hw]
        simp only [b1, b2, Int.toNat_natCast, b3, w1, w2]
        simp [RS.f, he]
  · have hw : boolS l s = (false, s) := by unfold boolS; rw [show (s.e != 0) = true from hf]; rfl
    rw [hw]
    simp [hf]
noncomputable def bC (l : List Int) (s : RS) (w : Bool) (s' : RS) : Ctr Tryz.prog := ⟨84, [rP], rM l s, .need (ROk l s) (.need ((w, s') = boolS l s) (bR l w s')), T.Sat.need fun h => T.Sat.need fun e => by
  have e1 : w = (boolS l s).1 := congrArg Prod.fst e
  have e2 : s' = (boolS l s).2 := congrArg Prod.snd e
  rw [e1, e2]
  exact b_c l s h⟩
theorem c_c (l : List Int) (s : RS) (most : Int) (hm : I64 most) (hs : ROk l s) : (iR l (countS l s most).1 (countS l s most).2).Sat (ACall' Tryz.prog 90 [rP, .y (.int .i64 most)] (rM l s)) := by
  obtain ⟨hs1, hu⟩ := uintS_ok hs
  have hn := hs.n
  have hat := hs1.at_
  refine ctr_vcg (ht := cH l s (uintS l s).1 (uintS l s).2) Tryz.mixed rfl ?_
  rw [vcC_eq l s most (uintS l s).1 (uintS l s).2 (countS l s most).1 (countS l s most).2]
  unfold vcC
  obtain ⟨v, s1, hv⟩ : ∃ v s1, uintS l s = (v, s1) := ⟨_, _, rfl⟩
  unfold countS
  rw [hv] at hs1 hu hat ⊢
  simp only at hs1 hu hat ⊢
  have hv0 := hu.lo
  have hv1 := hu.hi
  cases hf : s1.f
  · have h0 : (s1.e != 0) = false := hf
    have he : s1.e = 0 := by simpa [RS.f] using hf
    by_cases h1 : most < 0
    · have b1 : decide (most < 0) = true := by simpa using h1
      simp only [b1]
      simp [hs, h0, h1, RS.f, he]
    · have b1 : decide (most < 0) = false := by simpa using h1
      have w1 : IntKind.wrap IntKind.u64 most = most := wrap_u64 (by omega) (by have := hm.hi; omega)
      have w2 : IntKind.wrap IntKind.i64 ((l.length : Int) - s1.at_) = (l.length : Int) - s1.at_ := wrap_i64 (by omega) (by omega)
      have w3 : IntKind.wrap IntKind.u64 ((l.length : Int) - s1.at_) = (l.length : Int) - s1.at_ := wrap_u64 (by omega) (by omega)
      simp only [b1, w1, w2, w3]
      by_cases h2 : most < v
      · have b2 : decide (most < v) = true := by simpa using h2
        simp only [b2]
        simp [hs, h0, h1, h2, RS.f, he]
      · have b2 : decide (most < v) = false := by simpa using h2
        simp only [b2]
        by_cases h3 : (l.length : Int) - s1.at_ < v
        · have b3 : decide ((l.length : Int) - s1.at_ < v) = true := by simpa using h3
          simp only [b3]
          simp [hs, h0, h1, h2, h3, RS.f, he]
        · have b3 : decide ((l.length : Int) - s1.at_ < v) = false := by simpa using h3
          have w4 : IntKind.wrap IntKind.i64 v = v := wrap_i64 (by omega) (by omega)
          simp only [b3, w4]
          simp [hs, h0, h1, h2, h3, RS.f, he]
  · have h0 : (s1.e != 0) = true := hf
    simp [hs, h0, hf]
noncomputable def cC (l : List Int) (s : RS) (most : Int) (w : Int) (s' : RS) : Ctr Tryz.prog := ⟨90, [rP, .y (.int .i64 most)], rM l s, .need (ROk l s ∧ I64 most) (.need ((w, s') = countS l s most) (iR l w s')), T.Sat.need fun h => T.Sat.need fun e => by
  have e1 : w = (countS l s most).1 := congrArg Prod.fst e
  have e2 : s' = (countS l s most).2 := congrArg Prod.snd e
  rw [e1, e2]
  exact c_c l s most h.2 h.1⟩
end Go.Proofs.YtnbhdjadlbhknaaGreatDoor.J

namespace Go.Proofs.YtnbhdjadlbhknaaGreatDoor.J
open Go.Ax
set_option maxRecDepth 1000000
def bytesS (l : List Int) (s : RS) (most : Int) : List Int × RS := if (countS l s most).2.e != 0 then ([], (countS l s most).2) else ((l.drop (countS l s most).2.at_).take (countS l s most).1.toNat, ⟨(countS l s most).2.at_ + (countS l s most).1.toNat, (countS l s most).2.e, (countS l s most).2.bad⟩)
def yR (l : List Int) (t : List Int) (s' : RS) : T An := .ret (encBs true t, rM l s', [2])
noncomputable def yH (l : List Int) (s : RS) (most : Int) (n : Int) (s1 : RS) (t : List Int) : HintsT Tryz.prog := suR (withSh (hh _ noLp (cs1 88 1 2 (cC l s most n s1) (cs1 88 5 15 (clnC true t.length (cellsOf' encB t)) noCs)) noOp) (sh1 88 5 16 779 noSh))
def vcY (l : List Int) (s : RS) (most : Int) (n : Int) (s1 : RS) (t : List Int) (s' : RS) : Prop :=
  (((0 : Nat) = (0 : Nat) ∧ (0 : Nat) = (0 : Nat)) ∧ most = most ∧ True) ∧ ((rmLe l s s) ∧ True) ∧ (ROk l s ∧ I64 most) ∧ (n, s1) = countS l s most ∧ (RS.f s1 = true → List.length t = (0 : Nat) ∧ (rmLe l s1 s') ∧ True) ∧ (RS.f s1 = false → (decide ((0 : Int) ≤ IntKind.wrap IntKind.i64 (IntKind.wrap IntKind.i64 ((↑s1.at_ : Int) + n) - n)) && decide (IntKind.wrap IntKind.i64 (IntKind.wrap IntKind.i64 ((↑s1.at_ : Int) + n) - n) ≤ IntKind.wrap IntKind.i64 ((↑s1.at_ : Int) + n)) && decide (IntKind.wrap IntKind.i64 ((↑s1.at_ : Int) + n) ≤ (↑(List.length l) : Int))) = true ∧ ((true = true ∧ Int.toNat (IntKind.wrap IntKind.i64 ((↑s1.at_ : Int) + n)) - Int.toNat (IntKind.wrap IntKind.i64 (IntKind.wrap IntKind.i64 ((↑s1.at_ : Int) + n) - n)) = List.length t ∧ contLe (Int.toNat (IntKind.wrap IntKind.i64 ((↑s1.at_ : Int) + n)) - Int.toNat (IntKind.wrap IntKind.i64 (IntKind.wrap IntKind.i64 ((↑s1.at_ : Int) + n) - n))) (1 : Nat) (fun (k : Nat) => cellsOf' encB l (Int.toNat (IntKind.wrap IntKind.i64 (IntKind.wrap IntKind.i64 ((↑s1.at_ : Int) + n) - n)) + k)) (cellsOf' encB t)) ∧ True) ∧ True ∧ List.length t ≤ (140737488355328 : Nat) ∧ (∀ (k : Nat), k < List.length t → ∀ (j : Nat), j < (1 : Nat) → tagT (cellsOf' encB t k j) = true) ∧ (true = true ∧ List.length t = List.length t ∧ contLe (List.length t) (1 : Nat) (Ax.rowAt (0 : Nat) (cellsOf' encB t)) (cellsOf' encB t)) ∧ ((bsLe l l) ∧ IntKind.wrap IntKind.i64 ((↑s1.at_ : Int) + n) = (↑s'.at_ : Int) ∧ (RS.f s1 = RS.f s' ∧ true = true ∧ (2 : Nat) ≤ (2 : Nat) ∧ cellLe (2 : Nat) (Ax.get [AV.y (Value.int IntKind.i64 s1.bad), AV.ifc (31 : Nat) (AV.y (Value.int IntKind.i64 s1.e))]) (Ax.get [AV.y (Value.int IntKind.i64 s'.bad), AV.ifc (31 : Nat) (AV.y (Value.int IntKind.i64 s'.e))])) ∧ True) ∧ True)
theorem vcY_eq (l : List Int) (s : RS) (most : Int) (n : Int) (s1 : RS) (t : List Int) (s' : RS) : (ctrVCg Tryz.prog (yH l s most n s1 t) 88 [rP, .y (.int .i64 most)] (rM l s) (yR l t s')) = vcY l s most n s1 t s' := by kernel_rfl
def doneE (l : List Int) (s : RS) : Int := if s.e = 0 ∧ s.at_ < l.length then 15 else s.e
noncomputable def dH (l : List Int) (s : RS) : HintsT Tryz.prog := suR (hh _ noLp (cs1 86 1 1 (erC l s) noCs) noOp)
def vcD (l : List Int) (s : RS) (w : Int) : Prop :=
  (((0 : Nat) = (0 : Nat) ∧ (0 : Nat) = (0 : Nat)) ∧ True) ∧ ((rmLe l s s) ∧ True) ∧ RSOk s ∧ ((s.e == (0 : Int)) = true → (decide ((↑s.at_ : Int) < (↑(List.length l) : Int)) = true → (15 : Int) = w ∧ (rmLe l s s) ∧ True) ∧ (decide ((↑s.at_ : Int) < (↑(List.length l) : Int)) = false → s.e = w ∧ (rmLe l s s) ∧ True)) ∧ ((s.e == (0 : Int)) = false → s.e = w ∧ (rmLe l s s) ∧ True)
theorem vcD_eq (l : List Int) (s : RS) (w : Int) : (ctrVCg Tryz.prog (dH l s) 86 [rP] (rM l s) (iR l w s)) = vcD l s w := by kernel_rfl
end Go.Proofs.YtnbhdjadlbhknaaGreatDoor.J

namespace Go.Proofs.YtnbhdjadlbhknaaGreatDoor.J
open Go.Ax
set_option maxRecDepth 1000000
theorem failS_ne {s : RS} {e : Int} {p : Nat} (he : e ≠ 0) : (failS s e p).e ≠ 0 := by
  unfold failS
  split
  · rename_i h; simpa using h
  · exact he
theorem countS_ok {l : List Int} {s : RS} {most : Int} (h : ROk l s) : ROk l (countS l s most).2 ∧ U64 (countS l s most).1 ∧ ((countS l s most).2.e = 0 → ((countS l s most).2.at_ : Int) + (countS l s most).1 ≤ l.length) := by
  obtain ⟨h1, h2⟩ := uintS_ok h
  have hat := h.at_
  unfold countS
  split
  · rename_i he
    refine ⟨h1, u64_0, fun hz => ?_⟩
    have hz : (uintS l s).2.e = 0 := hz
    simp [hz] at he
  · split
    · refine ⟨failS_ok h1 (by decide) hat, u64_0, fun hz => ?_⟩
      exfalso
      exact absurd hz (failS_ne (by decide))
    · split
      · refine ⟨failS_ok h1 (by decide) hat, u64_0, fun hz => ?_⟩
        exfalso
        exact absurd hz (failS_ne (by decide))
      · exact ⟨h1, h2, fun _ => by omega⟩
theorem bytesS_ok {l : List Int} {s : RS} {most : Int} (h : ROk l s) : ROk l (bytesS l s most).2 := by
  obtain ⟨h1, h2, h3⟩ := countS_ok (most := most) h
  unfold bytesS
  split
  · exact h1
  · rename_i he
    have he : (countS l s most).2.e = 0 := by simpa using he
    have := h3 he
    have := h2.lo
    exact ⟨h1.n, by show (countS l s most).2.at_ + (countS l s most).1.toNat ≤ l.length; omega, h1.b, h1.bad⟩
theorem y_mv {f : FuncId} {args : List AV} {M : List Blk} {l t : List Int} {s : RS} (hM : getM M 2 = .dead) (h : (yR l t s).Sat (ACall' Tryz.prog f args M)) : (T.ret (encBs true t, rM l s, []) : T An).Sat (ACall' Tryz.prog f args M) := by
  have h1 : ACall' Tryz.prog f args M (encBs true t, rM l s, [2]) := of_retJ h
  have h2 : ACall' Tryz.prog f args M (encBs true t, rM l s, []) := acall_mv h1 fun i hi => by
    obtain rfl := List.mem_singleton.1 hi
    exact .inr hM
  exact T.Sat.ret h2
theorem y_c (l : List Int) (s : RS) (most : Int) (hm : I64 most) (hs : ROk l s) : (T.ret (encBs true (bytesS l s most).1, rM l (bytesS l s most).2, []) : T An).Sat (ACall' Tryz.prog 88 [rP, .y (.int .i64 most)] (rM l s)) := by
  refine y_mv rfl ?_
  obtain ⟨hs1, hu, hle⟩ := countS_ok (most := most) hs
  have hn := hs.n
  have hat := hs1.at_
  refine ctr_vcg (ht := yH l s most (countS l s most).1 (countS l s most).2 (bytesS l s most).1) Tryz.mixed rfl ?_
  rw [vcY_eq l s most (countS l s most).1 (countS l s most).2 (bytesS l s most).1 (bytesS l s most).2]
  unfold vcY
  unfold bytesS
  obtain ⟨n, s1, hv⟩ : ∃ v s1, countS l s most = (v, s1) := ⟨_, _, rfl⟩
  rw [hv] at hs1 hu hat hle ⊢
  simp only at hs1 hu hat hle ⊢
  have hv0 := hu.lo
  cases hf : s1.f
  · have h0 : (s1.e != 0) = false := hf
    have he : s1.e = 0 := by simpa [RS.f] using hf
    have hle := hle he
    have w1 : IntKind.wrap IntKind.i64 ((s1.at_ : Int) + n) = (s1.at_ : Int) + n := wrap_i64 (by omega) (by omega)
    have w2 : IntKind.wrap IntKind.i64 ((s1.at_ : Int) + n - n) = (s1.at_ : Int) := by rw [wrap_i64 (by omega) (by omega)]; omega
    simp only [w1, w2, Int.toNat_natCast, h0]
    obtain ⟨m, rfl⟩ := Int.eq_ofNat_of_zero_le hv0
    have e1 : ((s1.at_ : Int) + (m : Int)).toNat - s1.at_ = m := by omega
    have e2 : ((l.drop s1.at_).take m).length = m := by rw [List.length_take, List.length_drop]; omega
    have hc : contLe m 1 (fun k => cellsOf' encB l (s1.at_ + k)) (cellsOf' encB ((l.drop s1.at_).take m)) := by
      intro k hk j hj
      unfold cellsOf'
      have : ((l.drop s1.at_).take m).getD k default = l.getD (s1.at_ + k) default := by simp [List.getD, List.getElem?_take, hk]
      rw [this]
      exact le0_refl _
    have hr : ∀ t : List Int, contLe t.length 1 (Ax.rowAt 0 (cellsOf' encB t)) (cellsOf' encB t) := fun t k hk j hj => le0_refl _
    simp only [e1, Int.toNat_natCast]
    obtain ⟨t, et⟩ : ∃ t, (l.drop s1.at_).take m = t := ⟨_, rfl⟩
    rw [et] at e2 hc
    have ht := tagBs t
    simp at ht
    have hr := hr t
    rw [e2] at hr ht
    simp only [et]
    simp [hs, hm, hr, hc, e2, RS.f]
    exact ⟨by omega, by omega, ht, he⟩
  · have h0 : (s1.e != 0) = true := hf
    simp [hs, hm, h0, hf]
theorem d_c (l : List Int) (s : RS) (hs : ROk l s) : (iR l (doneE l s) s).Sat (ACall' Tryz.prog 86 [rP] (rM l s)) := by
  refine ctr_vcg (ht := dH l s) Tryz.mixed rfl ?_
  rw [vcD_eq l s (doneE l s)]
  unfold vcD doneE
  have h1 : RSOk s := ⟨hs.bad⟩
  by_cases h : s.e = 0
  · by_cases h2 : s.at_ < l.length
    · simp [h, h1, h2]
    · simp [h, h1, h2]
  · simp [h, h1]
noncomputable def dC (l : List Int) (s : RS) : Ctr Tryz.prog := ⟨86, [rP], rM l s, .need (ROk l s) (iR l (doneE l s) s), T.Sat.need fun h => d_c l s h⟩
noncomputable def yC (l : List Int) (s : RS) (most : Int) (t : List Int) (s' : RS) : Ctr Tryz.prog := ⟨88, [rP, .y (.int .i64 most)], rM l s, .need (ROk l s ∧ I64 most) (.need ((t, s') = bytesS l s most) (.ret (encBs true t, rM l s', []))), T.Sat.need fun h => T.Sat.need fun e => by
  have e1 : t = (bytesS l s most).1 := congrArg Prod.fst e
  have e2 : s' = (bytesS l s most).2 := congrArg Prod.snd e
  rw [e1, e2]
  exact y_c l s most h.2 h.1⟩
def strOf (t : List Int) : ByteArray := strN t.length (cellsOf' encB t)
def strS (l : List Int) (s : RS) (most : Int) : ByteArray × RS := (strOf (bytesS l s most).1, (bytesS l s most).2)
def sR (l : List Int) (t : ByteArray) (s' : RS) : T An := .ret (.y (.string t), rM l s', [])
noncomputable def sH (l : List Int) (s : RS) (most : Int) (t : List Int) (s' : RS) : HintsT Tryz.prog := suR (hh _ noLp (cs1 87 1 2 (yC l s most t s') noCs) noOp)
def vcS (l : List Int) (s : RS) (most : Int) (t : List Int) (s' : RS) (u : ByteArray) : Prop :=
  (((0 : Nat) = (0 : Nat) ∧ (0 : Nat) = (0 : Nat)) ∧ most = most ∧ True) ∧ ((rmLe l s s) ∧ True) ∧ (ROk l s ∧ I64 most) ∧ (t, s') = bytesS l s most ∧ (∀ (k : Nat), k < List.length t → true = true) ∧ strN (List.length t) (cellsOf' encB t) = u ∧ (rmLe l s' s') ∧ True
theorem vcS_eq (l : List Int) (s : RS) (most : Int) (t : List Int) (s' : RS) (u : ByteArray) : (ctrVCg Tryz.prog (sH l s most t s') 87 [rP, .y (.int .i64 most)] (rM l s) (sR l u s')) = vcS l s most t s' u := by kernel_rfl
theorem s_c (l : List Int) (s : RS) (most : Int) (hm : I64 most) (hs : ROk l s) : (sR l (strS l s most).1 (strS l s most).2).Sat (ACall' Tryz.prog 87 [rP, .y (.int .i64 most)] (rM l s)) := by
  refine ctr_vcg (ht := sH l s most (bytesS l s most).1 (bytesS l s most).2) Tryz.mixed rfl ?_
  unfold strS
  rw [vcS_eq l s most (bytesS l s most).1 (bytesS l s most).2 (strOf (bytesS l s most).1)]
  unfold vcS strOf
  simp [hs, hm]
noncomputable def sC (l : List Int) (s : RS) (most : Int) (t : ByteArray) (s' : RS) : Ctr Tryz.prog := ⟨87, [rP, .y (.int .i64 most)], rM l s, .need (ROk l s ∧ I64 most) (.need ((t, s') = strS l s most) (sR l t s')), T.Sat.need fun h => T.Sat.need fun e => by
  have e1 : t = (strS l s most).1 := congrArg Prod.fst e
  have e2 : s' = (strS l s most).2 := congrArg Prod.snd e
  rw [e1, e2]
  exact s_c l s most h.2 h.1⟩
end Go.Proofs.YtnbhdjadlbhknaaGreatDoor.J

namespace Go.Proofs.YtnbhdjadlbhknaaGreatDoor.J
open Go.Ax
set_option maxRecDepth 1000000
def recS (l : List Int) (s : RS) : Rec × RS :=
  let a := uintS l s; let b := strS l a.2 32; let c := bytesS l b.2 256; let d := uintS l c.2; let e := uintS l d.2
  if e.2.e != 0 then (default, e.2) else (⟨a.1, b.1, c.1, d.1, e.1⟩, e.2)
def xR (l : List Int) (r : Rec) (s' : RS) : T An := .ret (.agg (encR r), rM l s', [])
noncomputable def xH (l : List Int) (s : RS) (a : Int) (s1 : RS) (b : ByteArray) (s2 : RS) (c : List Int) (s3 : RS) (d : Int) (s4 : RS) (e : Int) (s5 : RS) : HintsT Tryz.prog := suR (hh _ noLp (cs1 127 2 1 (uC l s a s1) (cs1 127 3 1 (sC l s1 32 b s2) (cs1 127 4 1 (yC l s2 256 c s3) (cs1 127 5 1 (uC l s3 d s4) (cs1 127 6 1 (uC l s4 e s5) noCs))))) noOp)
def vcX (l : List Int) (s : RS) (a : Int) (s1 : RS) (b : ByteArray) (s2 : RS) (c : List Int) (s3 : RS) (d : Int) (s4 : RS) (e : Int) (s5 : RS) (r : Rec) : Prop :=
  (((0 : Nat) = (0 : Nat) ∧ (0 : Nat) = (0 : Nat)) ∧ True) ∧ ((rmLe l s s) ∧ True) ∧ ROk l s ∧ (a, s1) = uintS l s ∧ (((0 : Nat) = (0 : Nat) ∧ (0 : Nat) = (0 : Nat)) ∧ (32 : Int) = (32 : Int) ∧ True) ∧ ((rmLe l s1 s1) ∧ True) ∧ (ROk l s1 ∧ I64 (32 : Int)) ∧ (b, s2) = (strOf (bytesS l s1 (32 : Int)).fst, (bytesS l s1 (32 : Int)).snd) ∧ (((0 : Nat) = (0 : Nat) ∧ (0 : Nat) = (0 : Nat)) ∧ (256 : Int) = (256 : Int) ∧ True) ∧ ((rmLe l s2 s2) ∧ True) ∧ (ROk l s2 ∧ I64 (256 : Int)) ∧ (c, s3) = bytesS l s2 (256 : Int) ∧ (((0 : Nat) = (0 : Nat) ∧ (0 : Nat) = (0 : Nat)) ∧ True) ∧ ((rmLe l s3 s3) ∧ True) ∧ ROk l s3 ∧ (d, s4) = uintS l s3 ∧ (((0 : Nat) = (0 : Nat) ∧ (0 : Nat) = (0 : Nat)) ∧ True) ∧ ((rmLe l s4 s4) ∧ True) ∧ ROk l s4 ∧ (e, s5) = uintS l s4 ∧ (RS.f s5 = true → true = true ∧ True ∧ ((0 : Int) = r.off ∧ { data := #[] : ByteArray } = r.key ∧ List.length r.val = (0 : Nat) ∧ (0 : Int) = r.prod ∧ (0 : Int) = r.seq ∧ True) ∧ (rmLe l s5 s5) ∧ True) ∧ (RS.f s5 = false → true = true ∧ True ∧ (a = r.off ∧ b = r.key ∧ (bsLe c r.val) ∧ d = r.prod ∧ e = r.seq ∧ True) ∧ (rmLe l s5 s5) ∧ True)
theorem vcX_eq (l : List Int) (s : RS) (a : Int) (s1 : RS) (b : ByteArray) (s2 : RS) (c : List Int) (s3 : RS) (d : Int) (s4 : RS) (e : Int) (s5 : RS) (r : Rec) : (ctrVCg Tryz.prog (xH l s a s1 b s2 c s3 d s4 e s5) 127 [rP] (rM l s) (xR l r s5)) = vcX l s a s1 b s2 c s3 d s4 e s5 r := by kernel_rfl
end Go.Proofs.YtnbhdjadlbhknaaGreatDoor.J

namespace Go.Proofs.YtnbhdjadlbhknaaGreatDoor.J
open Go.Ax
set_option maxRecDepth 1000000
theorem i64_32 : I64 32 := ⟨by decide, by decide⟩
theorem i64_256 : I64 256 := ⟨by decide, by decide⟩
theorem str_ok {l : List Int} {s : RS} {most : Int} (h : ROk l s) {v : ByteArray} {s' : RS} (e : (v, s') = strS l s most) : ROk l s' := by
  rw [show s' = (bytesS l s most).2 from congrArg Prod.snd e]
  exact bytesS_ok h
theorem byt_ok {l : List Int} {s : RS} {most : Int} (h : ROk l s) {v : List Int} {s' : RS} (e : (v, s') = bytesS l s most) : ROk l s' := by
  rw [show s' = (bytesS l s most).2 from congrArg Prod.snd e]
  exact bytesS_ok h
theorem rec_ok {l : List Int} {s : RS} (h : ROk l s) : ROk l (recS l s).2 := by
  have h1 : ROk l (uintS l (uintS l (bytesS l (strS l (uintS l s).2 32).2 256).2).2).2 := (uintS_ok (uintS_ok (bytesS_ok (str_ok (uintS_ok h).1 rfl))).1).1
  unfold recS
  simp only
  split <;> exact h1
theorem x_c (l : List Int) (s : RS) (hs : ROk l s) : (xR l (recS l s).1 (recS l s).2).Sat (ACall' Tryz.prog 127 [rP] (rM l s)) := by
  obtain ⟨a, s1, e1⟩ : ∃ v t, (v, t) = uintS l s := ⟨_, _, rfl⟩
  have h1 := (rd_ok hs e1).1
  obtain ⟨b, s2, e2⟩ : ∃ v t, (v, t) = strS l s1 32 := ⟨_, _, rfl⟩
  have h2 := str_ok h1 e2
  obtain ⟨c, s3, e3⟩ : ∃ v t, (v, t) = bytesS l s2 256 := ⟨_, _, rfl⟩
  have h3 := byt_ok h2 e3
  obtain ⟨d, s4, e4⟩ : ∃ v t, (v, t) = uintS l s3 := ⟨_, _, rfl⟩
  have h4 := (rd_ok h3 e4).1
  obtain ⟨e, s5, e5⟩ : ∃ v t, (v, t) = uintS l s4 := ⟨_, _, rfl⟩
  have hr : recS l s = (if s5.e != 0 then (default, s5) else (⟨a, b, c, d, e⟩, s5)) := by
    unfold recS
    simp only [← e1, ← e2, ← e3, ← e4, ← e5]
  have hr2 : (recS l s).2 = s5 := by rw [hr]; split <;> rfl
  refine ctr_vcg (ht := xH l s a s1 b s2 c s3 d s4 e s5) Tryz.mixed rfl ?_
  rw [hr2, vcX_eq l s a s1 b s2 c s3 d s4 e s5 (recS l s).1]
  unfold vcX
  rw [hr]
  have q := i64_32
  have q2 := i64_256
  cases hf : s5.f
  · have h0 : (s5.e != 0) = false := hf
    simp [hs, h1, h2, h3, h4, q, q2, e1, e2, e3, e4, e5, h0]
    rfl
  · have h0 : (s5.e != 0) = true := hf
    simp [hs, h1, h2, h3, h4, q, q2, e1, e2, e3, e4, e5, h0]
    repeat' with_reducible apply And.intro
    all_goals rfl
noncomputable def xC (l : List Int) (s : RS) (r : Rec) (s' : RS) : Ctr Tryz.prog := ⟨127, [rP], rM l s, .need (ROk l s) (.need ((r, s') = recS l s) (xR l r s')), T.Sat.need fun h => T.Sat.need fun e => by
  have e1 : r = (recS l s).1 := congrArg Prod.fst e
  have e2 : s' = (recS l s).2 := congrArg Prod.snd e
  rw [e1, e2]
  exact x_c l s h⟩
def recsN (l : List Int) : Nat → RS → List Rec → List Rec × RS
  | 0, s, a => (a, s)
  | n + 1, s, a => if s.e != 0 then ([], s) else recsN l n (recS l s).2 (a ++ [(recS l s).1])
def listS (l : List Int) (s : RS) (most : Int) : List Rec × RS := recsN l (countS l s most).1.toNat (countS l s most).2 []
end Go.Proofs.YtnbhdjadlbhknaaGreatDoor.J

namespace Go.Proofs.YtnbhdjadlbhknaaGreatDoor.J
open Go.Ax
set_option maxRecDepth 1000000
def endN (l : List Int) : Nat → RS → Bool
  | 0, _ => true
  | n + 1, s => if s.e != 0 then false else endN l n (recS l s).2
structure LQ (l : List Int) (sh : Bool) (t : List Rec) (s' : RS) where
  n : Nat
  s : RS
  a : List Rec
  e : recsN l n s a = (t, s')
  f : endN l n s = sh
  h : ROk l s
  m : a.length + n ≤ 100000
def lqT (n : Nat) (a : List Rec) : List AV := mkT 29 [(0, rP), (5, .own 2 5 0 a.length), (6, .y (.int .i64 n))]
def lqM (l : List Int) (s : RS) (a : List Rec) : List Blk := [.dead, .box 175 [encBs true l, .y (.int .i64 s.at_), .opt s.f 206 (rerr s)], rowR a]
def lqS (l : List Int) (t : List Rec) (s' : RS) : Bool → Exit × List AV × List Blk
  | true => (.exit 0, mkT 29 [(0, rP), (5, .own 2 5 0 t.length)], lqM l s' t)
  | false => (.ret, mkT 29 [(4, .s (.slice none 0 0))], rM l s')
noncomputable def lqH (l : List Int) (s : RS) (r : Rec) (s1 : RS) : HintsT Tryz.prog := suR (withSh (hh _ noLp (cs1 85 5 1 (erC l s) (cs1 85 8 2 (xC l s r s1) noCs)) noOp) (sh1 85 8 5 4 noSh))
def vcL (l : List Int) (sh : Bool) (t : List Rec) (s' : RS) (q : LQ l sh t s') (r : Rec) (s1 : RS) : Prop :=
  (decide ((0 : Int) < (↑q.n : Int)) = true → (((0 : Nat) = (0 : Nat) ∧ (0 : Nat) = (0 : Nat)) ∧ True) ∧ ((rmLe l q.s q.s) ∧ True) ∧ RSOk q.s ∧ ((q.s.e != (0 : Int)) = true → (sh = true → False) ∧ (sh = false → (True ∧ True) ∧ ((rmLe l q.s s') ∧ True) ∧ true = true)) ∧ ((q.s.e != (0 : Int)) = false → (((0 : Nat) = (0 : Nat) ∧ (0 : Nat) = (0 : Nat)) ∧ True) ∧ ((rmLe l q.s q.s) ∧ True) ∧ ROk l q.s ∧ (r, s1) = recS l q.s ∧ (decide (List.length q.a = List.length q.a) && decide (List.length q.a + (1 : Nat) ≤ (9223372036854775807 : Nat)) && decide ((List.length q.a + (1 : Nat)) * (64 : Nat) ≤ (140737488355328 : Nat))) = true ∧ ∃ (j : LQ l sh t s'), j.n < q.n ∧ ((((0 : Nat) = (0 : Nat) ∧ (0 : Nat) = (0 : Nat)) ∧ ((0 : Nat) = (0 : Nat) ∧ List.length q.a + (1 : Nat) = List.length j.a) ∧ IntKind.wrap IntKind.i64 ((↑q.n : Int) - (1 : Int)) = (↑j.n : Int) ∧ True) ∧ ((rmLe l s1 j.s) ∧ (List.length q.a + (1 : Nat) = List.length j.a ∧ contLe (List.length q.a + (1 : Nat)) (5 : Nat) (appRow (List.length q.a) (cellsOf' encR q.a) fun (k j : Nat) => Ax.get [AV.y (Value.int IntKind.u64 r.off), AV.y (Value.string r.key), AV.ys true (1 : Nat) (List.length r.val) (cellsOf' encB r.val), AV.y (Value.int IntKind.u64 r.prod), AV.y (Value.int IntKind.u64 r.seq)] (k * (5 : Nat) + j)) (cellsOf' encR j.a)) ∧ True) ∧ true = true) ∧ true = true ∧ (sh = true → (sh = true → true = true) ∧ (sh = false → true = false)) ∧ (sh = false → (sh = true → false = true) ∧ (sh = false → false = false)))) ∧ (decide ((0 : Int) < (↑q.n : Int)) = false → (sh = true → (((0 : Nat) = (0 : Nat) ∧ (0 : Nat) = (0 : Nat)) ∧ ((0 : Nat) = (0 : Nat) ∧ List.length q.a = List.length t) ∧ True) ∧ ((rmLe l q.s s') ∧ (List.length q.a = List.length t ∧ contLe (List.length q.a) (5 : Nat) (cellsOf' encR q.a) (cellsOf' encR t)) ∧ True) ∧ true = true) ∧ (sh = false → False))
theorem vcL_eq (l : List Int) (sh : Bool) (t : List Rec) (s' : RS) (q : LQ l sh t s') (r : Rec) (s1 : RS) : (loopVC Tryz.prog (lqH l q.s r s1) 85 3 (fun q : LQ l sh t s' => q.n) (fun q => lqT q.n q.a) (fun q => lqM l q.s q.a) [2, 3] (fun _ => .ite sh (.ret true) (.ret false)) (lqS l t s') q) = vcL l sh t s' q r s1 := by kernel_rfl
noncomputable def lqH2 (l : List Int) (s : RS) (most : Int) (n : Int) (s1 : RS) (sh : Bool) (t : List Rec) (s' : RS) (q : LQ l sh t s') : HintsT Tryz.prog := suR (withSh (hh _ (lp1 85 3 (jobOf (fun q : LQ l sh t s' => lqT q.n q.a) (fun q => lqM l q.s q.a) [2, 3] (fun _ => .ite sh (.ret true) (.ret false)) (lqS l t s') q) noLp) (cs1 85 2 2 (cC l s most n s1) noCs) (op1 85 1 0 (.row 54 5) noOp)) (sh1 85 9 1 779 noSh))
def lR (l : List Int) (t : List Rec) (s' : RS) : T An := .ret (encRs true t, rM l s', [2, 3])
def vcLL (l : List Int) (s : RS) (most : Int) (n : Int) (s1 : RS) (sh : Bool) (t : List Rec) (s' : RS) (q : LQ l sh t s') : Prop :=
  (((0 : Nat) = (0 : Nat) ∧ (0 : Nat) = (0 : Nat)) ∧ most = most ∧ True) ∧ ((rmLe l s s) ∧ True) ∧ (ROk l s ∧ I64 most) ∧ (n, s1) = countS l s most ∧ ((((0 : Nat) = (0 : Nat) ∧ (0 : Nat) = (0 : Nat)) ∧ ((0 : Nat) = (0 : Nat) ∧ (0 : Nat) = List.length q.a) ∧ n = (↑q.n : Int) ∧ True) ∧ ((rmLe l s1 q.s) ∧ ((0 : Nat) = List.length q.a ∧ contLe (0 : Nat) (5 : Nat) (fun (x x_1 : Nat) => AV.junk) (cellsOf' encR q.a)) ∧ True) ∧ true = true) ∧ LoopOk Tryz.prog (85 : Nat) (3 : Nat) (loopAt Tryz.prog (85 : Nat) (3 : Nat)) { t := lqT q.n q.a, m := lqM l q.s q.a, mv := [] : St } (T.map (lout [(2 : Nat), (3 : Nat)] (lqS l t s')) ((fun (x : LQ l sh t s') => T.ite sh (T.ret true) (T.ret false)) q)) ∧ (sh = true → (∀ (k : Nat), k < List.length t → ∀ (j : Nat), j < (5 : Nat) → tagT (cellsOf' encR t k j) = true) ∧ (true = true ∧ List.length t = List.length t ∧ contLe (List.length t) (5 : Nat) (Ax.rowAt (0 : Nat) (cellsOf' encR t)) (cellsOf' encR t)) ∧ (rmLe l s' s') ∧ True) ∧ (sh = false → List.length t = (0 : Nat) ∧ (rmLe l s' s') ∧ True)
theorem vcLL_eq (l : List Int) (s : RS) (most : Int) (n : Int) (s1 : RS) (sh : Bool) (t : List Rec) (s' : RS) (q : LQ l sh t s') : (ctrVCg Tryz.prog (lqH2 l s most n s1 sh t s' q) 85 [rP, .y (.int .i64 most)] (rM l s) (lR l t s')) = vcLL l s most n s1 sh t s' q := by kernel_rfl
end Go.Proofs.YtnbhdjadlbhknaaGreatDoor.J

namespace Go.Proofs.YtnbhdjadlbhknaaGreatDoor.J
open Go.Ax
set_option maxRecDepth 1000000
theorem rs_eq {s t : RS} (h1 : s.at_ = t.at_) (h2 : s.e = t.e) (h3 : s.bad = t.bad) : s = t := by
  cases s; cases t; simp_all
theorem l_loop (l : List Int) (sh : Bool) (t : List Rec) (s' : RS) (q : LQ l sh t s') : LoopOk Tryz.prog 85 3 (loopAt Tryz.prog 85 3) ⟨lqT q.n q.a, lqM l q.s q.a, []⟩ (T.map (lout [2, 3] (lqS l t s')) (.ite sh (.ret true) (.ret false))) := by
  refine loop_vcH (P := Tryz.prog) (f := 85) (k := 3) (ι := LQ l sh t s') (μ := fun q => q.n) (ht := fun q => lqH l q.s (recS l q.s).1 (recS l q.s).2) (stT := fun q => lqT q.n q.a) (stM := fun q => lqM l q.s q.a) (X := [2, 3]) (o := fun _ => .ite sh (.ret true) (.ret false)) (S := lqS l t s') Tryz.mixed (fun _ => rfl) (fun q => ?_) q
  rw [vcL_eq l sh t s' q (recS l q.s).1 (recS l q.s).2]
  unfold vcL
  obtain ⟨n, s, a, e, f, h, m⟩ := q
  simp only
  cases n with
  | zero =>
    have e1 : a = t := congrArg Prod.fst e
    have e2 : s = s' := congrArg Prod.snd e
    have e3 : true = sh := f
    subst e1 e2 e3
    simp
  | succ n =>
    have hd : decide ((0 : Int) < ((n + 1 : Nat) : Int)) = true := by simp only [decide_eq_true_eq]; omega
    have ho : RSOk s := ⟨h.bad⟩
    simp only [hd]
    by_cases he : s.e = 0
    · have h0 : (s.e != 0) = false := by simp [he]
      have e1 : recsN l n (recS l s).2 (a ++ [(recS l s).1]) = (t, s') := by
        have := e
        unfold recsN at this
        simpa [h0] using this
      have e2 : endN l n (recS l s).2 = sh := by
        have := f
        unfold endN at this
        simpa [h0] using this
      have w : IntKind.wrap IntKind.i64 (((n + 1 : Nat) : Int) - 1) = (n : Int) := by rw [wrap_i64 (by omega) (by omega)]; omega
      have ha := app1_le (enc := encR) (l := a) (n := a.length) (sz := 5) (x := (recS l s).1) (cs := encR (recS l s).1) rfl (fun j hj => le0_refl _)
      simp only [h0, w]
      simp [h, ho]
      refine ⟨by omega, ⟨n, (recS l s).2, a ++ [(recS l s).1], e1, e2, rec_ok h, by simp; omega⟩, by show n < n + 1; omega, ⟨by simp, rfl⟩, by simp, by simp, ha⟩
    · have h0 : (s.e != 0) = true := by simpa using he
      have e1 : ([], s) = (t, s') := by
        have := e
        unfold recsN at this
        simpa [h0] using this
      have e2 : false = sh := by
        have := f
        unfold endN at this
        simpa [h0] using this
      have e3 : [] = t := congrArg Prod.fst e1
      have e4 : s = s' := congrArg Prod.snd e1
      subst e3 e4 e2
      simp [h0, ho, h]
def lR0 (l : List Int) (t : List Rec) (s' : RS) : T An := .ret (encRs true t, rM l s', [])
theorem l_mv {f : FuncId} {args : List AV} {M : List Blk} {l : List Int} {t : List Rec} {s : RS} (hM : ∀ i, 2 ≤ i → getM M i = .dead) (h : (lR l t s).Sat (ACall' Tryz.prog f args M)) : (lR0 l t s).Sat (ACall' Tryz.prog f args M) := by
  have h1 : ACall' Tryz.prog f args M (encRs true t, rM l s, [2, 3]) := of_retJ h
  have h2 : ACall' Tryz.prog f args M (encRs true t, rM l s, []) := acall_mv h1 fun i hi => by
    rcases List.mem_cons.1 hi with rfl | hi
    · exact .inr (hM _ (by decide))
    · obtain rfl := List.mem_singleton.1 hi
      exact .inr (hM _ (by decide))
  exact T.Sat.ret h2
theorem tagRs (l : List Rec) : ∀ k, k < l.length → ∀ j, j < 5 → tagT (cellsOf' encR l k j) = true := by
  intro k hk j hj
  have : j = 0 ∨ j = 1 ∨ j = 2 ∨ j = 3 ∨ j = 4 := by omega
  rcases this with rfl | rfl | rfl | rfl | rfl <;> rfl
theorem endN_false (l : List Int) : ∀ n s a, endN l n s = false → (recsN l n s a).1 = []
  | 0, s, a, h => by simp [endN] at h
  | n + 1, s, a, h => by
    unfold endN at h
    unfold recsN
    by_cases he : s.e = 0
    · have h0 : (s.e != 0) = false := by simp [he]
      rw [h0] at h ⊢
      exact endN_false l n _ _ h
    · have h0 : (s.e != 0) = true := by simpa using he
      rw [h0]
      rfl
theorem l_c (l : List Int) (s : RS) (most : Int) (hm : I64 most) (hm2 : most ≤ 4096) (hs : ROk l s) : (lR0 l (listS l s most).1 (listS l s most).2).Sat (ACall' Tryz.prog 85 [rP, .y (.int .i64 most)] (rM l s)) := by
  refine l_mv (fun i hi => by
    match i, hi with
    | i + 2, _ => exact getM_nil i) ?_
  obtain ⟨h1, h2, _⟩ := countS_ok (most := most) hs
  have hn : (countS l s most).1 ≤ 4096 := by
    unfold countS
    split
    · simp
    · split
      · simp
      · split
        · simp
        · rename_i a b c
          have : ¬ (most < 0 ∨ most < (uintS l s).1) := b
          omega
  have h0 := h2.lo
  obtain ⟨sh, hsh⟩ : ∃ sh, endN l (countS l s most).1.toNat (countS l s most).2 = sh := ⟨_, rfl⟩
  have hq : ∃ q : LQ l sh (listS l s most).1 (listS l s most).2, q.n = (countS l s most).1.toNat ∧ q.s = (countS l s most).2 ∧ q.a = [] := ⟨⟨(countS l s most).1.toNat, (countS l s most).2, [], rfl, hsh, h1, by simp; omega⟩, rfl, rfl, rfl⟩
  obtain ⟨q, q1, q2, q3⟩ := hq
  have h3 : sh = false → (listS l s most).1 = [] := fun h => endN_false l _ _ [] (hsh.trans h)
  have lp := l_loop l sh (listS l s most).1 (listS l s most).2 q
  refine ctr_vcg (ht := lqH2 l s most (countS l s most).1 (countS l s most).2 sh (listS l s most).1 (listS l s most).2 q) Tryz.mixed rfl ?_
  rw [vcLL_eq l s most (countS l s most).1 (countS l s most).2 sh (listS l s most).1 (listS l s most).2 q]
  unfold vcLL
  have e0 : (((countS l s most).1.toNat : Nat) : Int) = (countS l s most).1 := Int.toNat_of_nonneg h0
  have ht := tagRs (listS l s most).1
  have hr : contLe (listS l s most).1.length 5 (Ax.rowAt 0 (cellsOf' encR (listS l s most).1)) (cellsOf' encR (listS l s most).1) := fun k hk j hj => le0_refl _
  rw [q1, q2, q3] at lp
  simp only [q1, q2, q3, e0]
  cases sh
  · have h3 := h3 rfl
    rw [h3] at lp
    simp [hs, hm, lp, h3]
  · simp [hs, hm, lp, hr]
    exact ht
noncomputable def lC (l : List Int) (s : RS) (most : Int) (t : List Rec) (s' : RS) : Ctr Tryz.prog := ⟨85, [rP, .y (.int .i64 most)], rM l s, .need (ROk l s ∧ I64 most ∧ most ≤ 4096) (.need ((t, s') = listS l s most) (lR0 l t s')), T.Sat.need fun h => T.Sat.need fun e => by
  have e1 : t = (listS l s most).1 := congrArg Prod.fst e
  have e2 : s' = (listS l s most).2 := congrArg Prod.snd e
  rw [e1, e2]
  exact l_c l s most h.2.1 h.2.2 h.1⟩
end Go.Proofs.YtnbhdjadlbhknaaGreatDoor.J

namespace Go.Proofs.YtnbhdjadlbhknaaGreatDoor.R
open Go.Ax
set_option maxRecDepth 1000000
theorem app_rec (l : List Rec) (y : Rec) : contLe (l.length + 1) 5 (appRow l.length (cellsOf' encR l) fun k j => Ax.get [AV.y (Value.int IntKind.u64 y.off), AV.y (Value.string y.key), AV.ys true 1 y.val.length (cellsOf' encB y.val), AV.y (Value.int IntKind.u64 y.prod), AV.y (Value.int IntKind.u64 y.seq)] (k * 5 + j)) (cellsOf' encR (l ++ [y])) := app1_le rfl fun _ _ => le0_refl _
theorem ow_loop (b : Bool) (l : List Rec) (h : OwOk l) (k : Nat) : LoopOk Tryz.prog 141 3 (loopAt Tryz.prog 141 3) ⟨owT b l k, owM l k, []⟩ (T.map (lout [0, 1, 2, 3, 4] (owS l)) (.ret ())) := by
  refine loop_vcH (o := fun _ => .ret ()) (ht := owH l) (stT := owT b l) (stM := owM l) Tryz.mixed (fun _ => rfl) (fun k => (vcOwL_eq b l k).mpr ?_) k
  unfold vcOwL
  have hn := h.n
  by_cases hk : k < l.length
  · have hz : decide ((k : Int) < l.length) = true := by simp; omega
    obtain ⟨o1, o2⟩ := h.o k hk
    have hv := h.v k hk
    have hw : IntKind.i64.wrap ((k : Int) + 1) = ((k + 1 : Nat) : Int) := by rw [wrap_i64 (by omega) (by omega)]; omega
    have w1 : IntKind.i64.wrap (l.getD k default).off = (l.getD k default).off := wrap_i64 (by omega) (by omega)
    have w2 : IntKind.u64.wrap (l.getD k default).off = (l.getD k default).off := wrap_u64 (by omega) (by omega)
    have ht := take_one hk
    have hl : (l.take k).length = k := by simp; omega
    rw [Int.toNat_natCast]
    simp only [hz, hw, w1, w2]
    have e0 : (l.getD k default).to (l.getD k default).off = l.getD k default := rfl
    generalize l.getD k default = x at *
    simp
    have hm : min k l.length = k := by omega
    rw [hm]
    refine ⟨by omega, ⟨by omega, by omega⟩, k + 1, by omega, ⟨by omega, by omega⟩, by omega, ?_⟩
    rw [ht]
    have := app_rec (l.take k) x
    rw [hl] at this
    exact this
  · have hz : decide ((k : Int) < l.length) = false := by simp; omega
    have e1 : l.take k = l := List.take_of_length_le (by omega)
    simp only [hz]
    simp [e1]
theorem owd_c (b : Bool) (l : List Rec) (h : OwOk l) : (owR l).Sat (ACall' Tryz.prog 141 [encRs b l] []) := by
  refine ctr_vc (ht := owdH b l) Tryz.mixed rfl ?_
  rw [vcOwd_eq b l]
  unfold vcOwd
  have hn := h.n
  have lp := ow_loop b l h 0
  have hw : IntKind.i64.wrap ((l.length : Int) + 1) = ((l.length + 1 : Nat) : Int) := by rw [wrap_i64 (by omega) (by omega)]; omega
  rw [hw]
  simp [lp]
  omega
noncomputable def owdC (b : Bool) (l : List Rec) : Ctr Tryz.prog := ⟨141, [encRs b l], [], .need (OwOk l) (owR l), T.Sat.need fun h => owd_c b l h⟩
def appE (l : List Rec) (x : Rec) : Int := if !isLog l then 1 else if 32 < x.key.size then 131 else if 256 < x.val.length then 144 else if l.length = 4096 then 143 else 0
def appL (l : List Rec) (x : Rec) : List Rec := l ++ [x.to (IntKind.u64.wrap (l.length : Nat))]
def apT (l : List Rec) (x : Rec) : T An := .ite (appE l x == 0) (.ret (.tup [.own 0 5 0 (appL l x).length, .y (.int .u64 l.length), .s (.int .i64 0)], [rowR (appL l x)], [])) (.ret (.tup [.s (.slice none 0 0), .y (.int .u64 0), .y (.int .i64 (appE l x))], [], []))
noncomputable def apH (b : Bool) (l : List Rec) (x : Rec) : HintsT Tryz.prog := hh _ noLp (cs1 134 1 1 (lgC b l) (cs1 134 9 1 (owdC b l) (cs1 134 9 5 (ownC x l.length) noCs))) noOp
def vcAp (b : Bool) (l : List Rec) (x : Rec) : Prop :=
  ((b = b ∧ List.length l = List.length l ∧ contLe (List.length l) (5 : Nat) (cellsOf' encR l) (cellsOf' encR l)) ∧ True) ∧ True ∧ List.length l ≤ (9223372036854775806 : Nat) ∧ ((!isLog l) = true → ((appE l x == (0 : Int)) = true → (False ∧ (0 : Int) = (↑(List.length l) : Int) ∧ (1 : Int) = (0 : Int) ∧ True) ∧ False) ∧ ((appE l x == (0 : Int)) = false → (True ∧ (0 : Int) = (0 : Int) ∧ (1 : Int) = appE l x ∧ True) ∧ True)) ∧ ((!isLog l) = false → (decide ((32 : Int) < (↑(ByteArray.size x.key) : Int)) = true → ((appE l x == (0 : Int)) = true → (False ∧ (0 : Int) = (↑(List.length l) : Int) ∧ (131 : Int) = (0 : Int) ∧ True) ∧ False) ∧ ((appE l x == (0 : Int)) = false → (True ∧ (0 : Int) = (0 : Int) ∧ (131 : Int) = appE l x ∧ True) ∧ True)) ∧ (decide ((32 : Int) < (↑(ByteArray.size x.key) : Int)) = false → (decide ((256 : Int) < (↑(List.length x.val) : Int)) = true → ((appE l x == (0 : Int)) = true → (False ∧ (0 : Int) = (↑(List.length l) : Int) ∧ (144 : Int) = (0 : Int) ∧ True) ∧ False) ∧ ((appE l x == (0 : Int)) = false → (True ∧ (0 : Int) = (0 : Int) ∧ (144 : Int) = appE l x ∧ True) ∧ True)) ∧ (decide ((256 : Int) < (↑(List.length x.val) : Int)) = false → (((↑(List.length l) : Int) == (4096 : Int)) = true → ((appE l x == (0 : Int)) = true → (False ∧ (0 : Int) = (↑(List.length l) : Int) ∧ (143 : Int) = (0 : Int) ∧ True) ∧ False) ∧ ((appE l x == (0 : Int)) = false → (True ∧ (0 : Int) = (0 : Int) ∧ (143 : Int) = appE l x ∧ True) ∧ True)) ∧ (((↑(List.length l) : Int) == (4096 : Int)) = false → ((b = b ∧ List.length l = List.length l ∧ contLe (List.length l) (5 : Nat) (cellsOf' encR l) (cellsOf' encR l)) ∧ True) ∧ True ∧ OwOk l ∧ ((x.off = x.off ∧ x.key = x.key ∧ (bsLe x.val x.val) ∧ x.prod = x.prod ∧ x.seq = x.seq ∧ True) ∧ (↑(List.length l) : Int) = (↑(List.length l) : Int) ∧ True) ∧ True ∧ List.length x.val ≤ (140737488355328 : Nat) ∧ (decide (List.length l = List.length l) && decide (List.length l + (1 : Nat) ≤ (9223372036854775807 : Nat)) && decide ((List.length l + (1 : Nat)) * (64 : Nat) ≤ (140737488355328 : Nat))) = true ∧ ((appE l x == (0 : Int)) = true → (((0 : Nat) = (0 : Nat) ∧ List.length l + (1 : Nat) = List.length (appL l x)) ∧ IntKind.wrap IntKind.u64 (↑(List.length l) : Int) = (↑(List.length l) : Int) ∧ (0 : Int) = (0 : Int) ∧ True) ∧ (List.length l + (1 : Nat) = List.length (appL l x) ∧ contLe (List.length l + (1 : Nat)) (5 : Nat) (appRow (List.length l) (cellsOf' encR l) fun (k j : Nat) => Ax.get [AV.y (Value.int IntKind.u64 (IntKind.wrap IntKind.u64 (↑(List.length l) : Int))), AV.y (Value.string x.key), AV.ys true (1 : Nat) (List.length x.val) (cellsOf' encB x.val), AV.y (Value.int IntKind.u64 x.prod), AV.y (Value.int IntKind.u64 x.seq)] (k * (5 : Nat) + j)) (cellsOf' encR (appL l x))) ∧ True) ∧ ((appE l x == (0 : Int)) = false → False)))))
theorem vcAp_eq (b : Bool) (l : List Rec) (x : Rec) : (ctrVC Tryz.prog (apH b l x) 134 [encRs b l, .agg (encR x)] [] (apT l x)) = vcAp b l x := by kernel_rfl
def fetN (n : Nat) (o m : Int) : Int := if ((n - o.toNat : Nat) : Int) < (if (64 : Int) < (if (0 : Int) > m then (0 : Int) else m) then (64 : Int) else if (0 : Int) > m then (0 : Int) else m) then ((n - o.toNat : Nat) : Int) else (if (64 : Int) < (if (0 : Int) > m then (0 : Int) else m) then (64 : Int) else if (0 : Int) > m then (0 : Int) else m)
theorem fet_b (n : Nat) (o m : Int) : 0 ≤ fetN n o m ∧ fetN n o m ≤ (n - o.toNat : Nat) ∧ fetN n o m ≤ 64 := by
  unfold fetN
  split <;> split <;> split <;> omega
def fetL (l : List Rec) (o m : Int) : List Rec := (l.drop o.toNat).take (fetN l.length o m).toNat
def feE (l : List Rec) (o : Int) : Int := if !isLog l then 1 else if (l.length : Int) < o then 141 else 0
def feT (l : List Rec) (o m : Int) : T An := .ite (feE l o == 0) (.ret (.tup [.own 0 5 0 (fetL l o m).length, .s (.int .i64 0)], [rowR (fetL l o m)], [])) (.ret (.tup [.s (.slice none 0 0), .y (.int .i64 (feE l o))], [], []))
noncomputable def feH (b : Bool) (l : List Rec) (o m : Int) : HintsT Tryz.prog := hh _ noLp (cs1 109 1 1 (lgC b l) (cs1 109 6 7 (owdC b (fetL l o m)) noCs)) noOp
def vcFe (b : Bool) (l : List Rec) (o : Int) (m : Int) : Prop :=
  ((b = b ∧ List.length l = List.length l ∧ contLe (List.length l) (5 : Nat) (cellsOf' encR l) (cellsOf' encR l)) ∧ True) ∧ True ∧ List.length l ≤ (9223372036854775806 : Nat) ∧ ((!isLog l) = true → ((feE l o == (0 : Int)) = true → (False ∧ (1 : Int) = (0 : Int) ∧ True) ∧ False) ∧ ((feE l o == (0 : Int)) = false → (True ∧ (1 : Int) = feE l o ∧ True) ∧ True)) ∧ ((!isLog l) = false → (decide (IntKind.wrap IntKind.u64 (↑(List.length l) : Int) < o) = true → ((feE l o == (0 : Int)) = true → (False ∧ (141 : Int) = (0 : Int) ∧ True) ∧ False) ∧ ((feE l o == (0 : Int)) = false → (True ∧ (141 : Int) = feE l o ∧ True) ∧ True)) ∧ (decide (IntKind.wrap IntKind.u64 (↑(List.length l) : Int) < o) = false → (decide ((0 : Int) ≤ o) && decide (o ≤ (↑(List.length l) : Int)) && decide ((↑(List.length l) : Int) ≤ (↑(List.length l) : Int))) = true ∧ (true && decide ((0 : Int) ≤ if (↑(Int.toNat (↑(List.length l) : Int) - Int.toNat o) : Int) < if (64 : Int) < if (0 : Int) > m then (0 : Int) else m then (64 : Int) else if (0 : Int) > m then (0 : Int) else m then (↑(Int.toNat (↑(List.length l) : Int) - Int.toNat o) : Int) else if (64 : Int) < if (0 : Int) > m then (0 : Int) else m then (64 : Int) else if (0 : Int) > m then (0 : Int) else m) && decide ((if (↑(Int.toNat (↑(List.length l) : Int) - Int.toNat o) : Int) < if (64 : Int) < if (0 : Int) > m then (0 : Int) else m then (64 : Int) else if (0 : Int) > m then (0 : Int) else m then (↑(Int.toNat (↑(List.length l) : Int) - Int.toNat o) : Int) else if (64 : Int) < if (0 : Int) > m then (0 : Int) else m then (64 : Int) else if (0 : Int) > m then (0 : Int) else m) ≤ (↑(Int.toNat (↑(List.length l) : Int) - Int.toNat o) : Int))) = true ∧ ((b = b ∧ Int.toNat (if (↑(Int.toNat (↑(List.length l) : Int) - Int.toNat o) : Int) < if (64 : Int) < if (0 : Int) > m then (0 : Int) else m then (64 : Int) else if (0 : Int) > m then (0 : Int) else m then (↑(Int.toNat (↑(List.length l) : Int) - Int.toNat o) : Int) else if (64 : Int) < if (0 : Int) > m then (0 : Int) else m then (64 : Int) else if (0 : Int) > m then (0 : Int) else m) - (0 : Nat) = List.length (fetL l o m) ∧ contLe (Int.toNat (if (↑(Int.toNat (↑(List.length l) : Int) - Int.toNat o) : Int) < if (64 : Int) < if (0 : Int) > m then (0 : Int) else m then (64 : Int) else if (0 : Int) > m then (0 : Int) else m then (↑(Int.toNat (↑(List.length l) : Int) - Int.toNat o) : Int) else if (64 : Int) < if (0 : Int) > m then (0 : Int) else m then (64 : Int) else if (0 : Int) > m then (0 : Int) else m) - (0 : Nat)) (5 : Nat) (fun (k : Nat) => cellsOf' encR l (Int.toNat o + ((0 : Nat) + k))) (cellsOf' encR (fetL l o m))) ∧ True) ∧ True ∧ OwOk (fetL l o m) ∧ ((feE l o == (0 : Int)) = true → (((0 : Nat) = (0 : Nat) ∧ List.length (fetL l o m) = List.length (fetL l o m)) ∧ (0 : Int) = (0 : Int) ∧ True) ∧ (List.length (fetL l o m) = List.length (fetL l o m) ∧ contLe (List.length (fetL l o m)) (5 : Nat) (cellsOf' encR (fetL l o m)) (cellsOf' encR (fetL l o m))) ∧ True) ∧ ((feE l o == (0 : Int)) = false → False)))
theorem vcFe_eq (b : Bool) (l : List Rec) (o : Int) (m : Int) : (ctrVC Tryz.prog (feH b l o m) 109 [encRs b l, .y (.int .u64 o), .y (.int .i64 m)] [] (feT l o m)) = vcFe b l o m := by kernel_rfl
end Go.Proofs.YtnbhdjadlbhknaaGreatDoor.R

namespace Go.Proofs.YtnbhdjadlbhknaaGreatDoor.R
open Go.Ax
set_option maxRecDepth 1000000
theorem log_ow {l : List Rec} (h : isLog l = true) : OwOk l := by
  have h1 := log_len h
  refine ⟨h1, fun k hk => ?_, fun k hk => ?_⟩
  · simp only [isLog, Bool.and_eq_true] at h
    have h2 := h.1
    unfold logFrom at h2
    rw [List.all_eq_true] at h2
    have h3 := h2 k (by simp; omega)
    simp only [okR, Bool.and_eq_true] at h3
    have h4 := h3.1
    simp at h4
    rw [wrap_u64 (by omega) (by omega)] at h4
    simp
    omega
  · have := log_val h hk
    omega
theorem ow_sub {l : List Rec} (h : OwOk l) (a b : Nat) : OwOk ((l.drop a).take b) := by
  have h1 := h.n
  have e : ∀ k, k < ((l.drop a).take b).length → ((l.drop a).take b).getD k default = l.getD (a + k) default ∧ a + k < l.length := fun k hk => by
    simp at hk
    have h3 : a + k < l.length := by omega
    refine ⟨?_, h3⟩
    have h4 : k < b := by omega
    simp [List.getElem?_take, h3, h4]
  refine ⟨by simp; omega, fun k hk => ?_, fun k hk => ?_⟩
  · obtain ⟨e1, e2⟩ := e k hk
    rw [e1]; exact h.o _ e2
  · obtain ⟨e1, e2⟩ := e k hk
    rw [e1]; exact h.v _ e2
theorem ap_c (b : Bool) (l : List Rec) (x : Rec) (hl : l.length ≤ 9223372036854775806) : (apT l x).Sat (ACall' Tryz.prog 134 [encRs b l, .agg (encR x)] []) := by
  refine ctr_vc (ht := apH b l x) Tryz.mixed rfl ?_
  rw [vcAp_eq b l x]
  unfold vcAp
  cases h1 : isLog l
  · simp [appE, h1, hl]
  · have hn := log_len h1
    have ho := log_ow h1
    by_cases h2 : 32 < x.key.size
    · have h2' : (32 : Int) < x.key.size := by omega
      simp [appE, h1, hl, h2, h2']
    · have h2' : ¬ (32 : Int) < x.key.size := by omega
      by_cases h3 : 256 < x.val.length
      · have h3' : (256 : Int) < x.val.length := by omega
        simp [appE, h1, hl, h2, h2', h3, h3']
      · have h3' : ¬ (256 : Int) < x.val.length := by omega
        by_cases h4 : l.length = 4096
        · have h4' : (l.length : Int) = 4096 := by omega
          simp [appE, h1, hl, h2, h2', h3, h3', h4]
        · have h4' : ¬ (l.length : Int) = 4096 := by omega
          have hw : IntKind.u64.wrap (l.length : Int) = l.length := wrap_u64 (by omega) (by omega)
          have ha := app_rec l (x.to (IntKind.u64.wrap (l.length : Nat)))
          simp [appE, h1, hl, h2, h2', h3, h3', h4, h4', ho, hw, appL]
          rw [hw] at ha
          exact ⟨by omega, by omega, ha⟩
theorem fe_c (b : Bool) (l : List Rec) (o m : Int) (hl : l.length ≤ 9223372036854775806) (h0 : 0 ≤ o) : (feT l o m).Sat (ACall' Tryz.prog 109 [encRs b l, .y (.int .u64 o), .y (.int .i64 m)] []) := by
  refine ctr_vc (ht := feH b l o m) Tryz.mixed rfl ?_
  rw [vcFe_eq b l o m]
  unfold vcFe
  cases h1 : isLog l
  · simp [feE, h1, hl]
  · have hn := log_len h1
    have ho := log_ow h1
    have hw : IntKind.u64.wrap (l.length : Int) = l.length := wrap_u64 (by omega) (by omega)
    rw [hw]
    by_cases h2 : (l.length : Int) < o
    · simp [feE, h1, hl, h2]
    · have h2' : o ≤ (l.length : Int) := by omega
      have hs := ow_sub ho o.toNat (fetN l.length o m).toNat
      obtain ⟨b1, b2, b3⟩ := fet_b l.length o m
      have hL : (fetL l o m).length = (fetN l.length o m).toNat := by
        unfold fetL
        simp
        omega
      have hc : contLe (fetN l.length o m).toNat 5 (fun k => cellsOf' encR l (o.toNat + (0 + k))) (cellsOf' encR (fetL l o m)) := by
        intro k hk j hj
        unfold fetL cellsOf'
        simp [List.getElem?_take, hk]
      rw [Int.toNat_natCast]
      have e1 : (if ((l.length - o.toNat : Nat) : Int) < (if (64 : Int) < (if (0 : Int) > m then (0 : Int) else m) then (64 : Int) else if (0 : Int) > m then (0 : Int) else m) then ((l.length - o.toNat : Nat) : Int) else (if (64 : Int) < (if (0 : Int) > m then (0 : Int) else m) then (64 : Int) else if (0 : Int) > m then (0 : Int) else m)) = fetN l.length o m := rfl
      rw [e1]
      have hs2 : OwOk (fetL l o m) := hs
      clear hs
      generalize fetL l o m = z at *
      generalize fetN l.length o m = n at *
      simp only [Nat.sub_zero, hL]
      have t1 : decide (0 ≤ n) = true := by simp; omega
      have t2 : decide (n ≤ ((l.length - o.toNat : Nat) : Int)) = true := by simp; omega
      simp only [t1, t2, hc, hs2, hL]
      simp [feE, h1, hl, h2, h2', h0]
noncomputable def apC (l : List Rec) (x : Rec) (b : Bool) : Ctr Tryz.prog := ⟨134, [encRs b l, .agg (encR x)], [], .need (l.length ≤ 9223372036854775806) (apT l x), T.Sat.need fun h => ap_c b l x h⟩
noncomputable def feC (b : Bool) (l : List Rec) (o m : Int) : Ctr Tryz.prog := ⟨109, [encRs b l, .y (.int .u64 o), .y (.int .i64 m)], [], .need (l.length ≤ 9223372036854775806 ∧ 0 ≤ o) (feT l o m), T.Sat.need fun h => fe_c b l o m h.1 h.2⟩
end Go.Proofs.YtnbhdjadlbhknaaGreatDoor.R
