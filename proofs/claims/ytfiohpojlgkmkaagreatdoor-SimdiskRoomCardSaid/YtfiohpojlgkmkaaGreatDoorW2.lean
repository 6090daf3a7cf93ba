/- PROVED: whatever room and whatever calls come, the sizes of the files add up to what the disk says is used, never more than its room, in at most 64 files whose names come sorted. An invariant of the disk as a map ties the names to the sizes. -/
import Derived.KernelRfl
import Derived.Test.YtfiohpojlgkmkaaGreatDoorRows
import Derived.Test.YtfiohpojlgkmkaaGreatDoorTie
import Derived.Test.YtfiohpojlgkmkaaGreatDoorCards
import Derived.OpenShut
import Derived.Lay
import Derived.Handed
import Derived.SevenTiedAt
import Derived.LaidHandle
import Derived.Test.YtfiohpojlgkmkaaGreatDoorE12
import Derived.Test.YtfiohpojlgkmkaaGreatDoorW1
set_option linter.unusedVariables false
set_option linter.unusedSimpArgs false
set_option linter.unusedSectionVars false
namespace Go.Proofs.YtfiohpojlgkmkaaGreatDoor.O
open Go.Ax Go.Maps
set_option maxRecDepth 1000000
theorem op_inv {d d1 y : Dsk} {e : Int} (h : DInv d) (h1 : DInv d1) (hy : d.down = false → e = 0 → DInv y) : DInv (opD d e d1 y) := by
  unfold opD
  split
  · exact h
  · rename_i hd
    split
    · exact h1
    · rename_i he
      split
      · exact h1.dn true
      · exact hy (by simpa using hd) (by omega)
theorem apP_0 {d : Dsk} {s : ByteArray} {l : List Int} (h : DInv d) (h0 : apP d s l = 0) : nmd s = true ∧ (d.has s = false → d.n < 64) ∧ (l.length : Int) ≤ d.room - d.used := by
  unfold apP at h0
  split at h0
  · cases h0
  rename_i h1
  split at h0
  · cases h0
  split at h0
  · cases h0
  rename_i h3
  split at h0
  · cases h0
  rename_i h4
  have a1 := h.u0
  have a2 := h.us
  have a3 := h.r1
  have a4 := h.n
  rw [wrap_i64 (by omega) (by omega)] at h4
  refine ⟨by simpa using h1, fun hh => ?_, by omega⟩
  rcases Nat.lt_or_ge d.n 64 with q | q
  · exact q
  · exact absurd ⟨hh, by omega⟩ h3
theorem ap_room {d : Dsk} {s : ByteArray} {l : List Int} (h : DInv d) (h0 : apP d s l = 0) : (d.get s).b.length + l.length ≤ 16777216 := by
  obtain ⟨_, _, h1⟩ := apP_0 h h0
  have a1 := h.us
  have a2 := h.r1
  have a3 := h.u0
  obtain ⟨L, hL⟩ := h.cov
  cases hh : d.has s with
  | true =>
    rw [get_t hh]
    have := hL.le hh
    omega
  | false => rw [get_f hh]; simp; omega
theorem put_has {d : Dsk} {s x : ByteArray} {v : Fil} (h : (d.put s v).has x = true) : x = s ∨ d.has x = true := by
  have h : updBs d.has s x = true := h
  unfold updBs at h
  rw [Bool.or_eq_true, decide_eq_true_eq] at h
  exact h.imp Eq.symm id
theorem put_all {P : ByteArray → Fil → Prop} {d : Dsk} {s : ByteArray} {v : Fil} (h1 : P s v) (h2 : ∀ x, d.has x = true → P x (d.f x)) : ∀ x, (d.put s v).has x = true → P x ((d.put s v).f x) := fun x hx => by
  by_cases e : x = s
  · subst e; simpa [Dsk.put] using h1
  · have : (d.put s v).f x = d.f x := by simp [Dsk.put, e]
    rw [this]
    exact h2 x ((put_has hx).resolve_left e)
theorem apY_inv {d : Dsk} {s : ByteArray} {l : List Int} (h : DInv d) (h0 : apP d s l = 0) : DInv (apY d s l) := by
  obtain ⟨n1, n2, n3⟩ := apP_0 h h0
  have a1 := h.us
  have a2 := h.r1
  have a3 := h.u0
  have hw : IntKind.i64.wrap (d.used + l.length) = d.used + l.length := wrap_i64 (by omega) (by omega)
  have h' := h.fld.tick
  have hsyn : 0 ≤ (d.get s).syn ∧ (d.get s).syn ≤ ((d.get s).b ++ l).length := by
    cases hh : d.has s with
    | true =>
      rw [get_t hh]
      have := h.syn s hh
      rw [List.length_append]
      omega
    | false => rw [get_f hh]; simp
  have hc : ∃ L, Cov (apY d s l) L := by
    obtain ⟨L, hL⟩ := h'.cov
    unfold apY
    rw [hw]
    cases hh : d.has s with
    | true =>
      refine ⟨L, hL.put_t hh ?_⟩
      rw [get_t hh, List.length_append]
      show d.used + (l.length : Int) = d.used - ((d.f s).b.length : Int) + (((d.f s).b.length + l.length : Nat) : Int)
      omega
    | false =>
      refine ⟨s :: L, hL.put_f hh ?_⟩
      rw [get_f hh, List.length_append]
      show d.used + (l.length : Int) = d.used + ((0 + l.length : Nat) : Int)
      omega
  refine ⟨hc, h.r0, h.r1, ?_, ?_, ?_, ?_, h'.fl, h'.tr⟩
  · show IntKind.i64.wrap (d.used + l.length) ≤ d.room
    rw [hw]; omega
  · show (if d.has s then d.n else d.n + 1) ≤ 64
    have := h.n
    cases hh : d.has s with
    | true => simpa using this
    | false => have := n2 hh; simp; omega
  · intro x hx
    rcases put_has (d := d.fld.tick) (v := default) hx with rfl | hx
    · exact n1
    · exact h.nm x hx
  · exact put_all (P := fun _ v => 0 ≤ v.syn ∧ v.syn ≤ v.b.length) (d := d.fld.tick) hsyn h.syn
theorem ap_inv {d : Dsk} {s : ByteArray} {l : List Int} (h : DInv d) : DInv (apD d s l) := by
  refine op_inv h ?_ fun _ h0 => apY_inv h h0
  unfold apQ
  split
  · exact h
  · exact h.fld
theorem fnP_0 {d : Dsk} {s : ByteArray} (h : fnP d s = 0) : d.has s = true := by
  unfold fnP at h
  split at h
  · assumption
  · cases h
theorem putS_inv {d : Dsk} {s : ByteArray} {v : Fil} {u : Int} (h : DInv d) (hs : d.has s = true) (hu : u = d.used - (d.f s).b.length + v.b.length) (hr : u ≤ d.room) (hv : 0 ≤ v.syn ∧ v.syn ≤ v.b.length) : DInv { d.put s v with used := u } := by
  refine ⟨h.cov.imp fun _ hL => hL.put_t hs hu, h.r0, h.r1, hr, ?_, ?_, ?_, h.fl, h.tr⟩
  · show (if d.has s then d.n else d.n + 1) ≤ 64
    rw [if_pos hs]; exact h.n
  · intro x hx
    rcases put_has (d := d) (v := default) hx with rfl | hx
    · exact h.nm _ hs
    · exact h.nm x hx
  · exact put_all (P := fun _ v => 0 ≤ v.syn ∧ v.syn ≤ v.b.length) (d := d) hv h.syn
theorem tr_inv {d : Dsk} {s : ByteArray} {n : Int} (h : DInv d) : DInv (trD d s n) := by
  refine op_inv h h fun _ h0 => ?_
  unfold trP at h0
  split at h0
  case isFalse => cases h0
  rename_i hs
  split at h0
  · cases h0
  rename_i hn
  have hf := h.fok s hs
  have a1 := h.us
  have a2 := h.r1
  have a3 := h.u0
  obtain ⟨L, hL⟩ := h.cov
  have a4 := hL.le hs
  have f1 := hf.l
  have f2 := hf.u
  have f3 := hf.m
  have hl : ((d.f s).b.take n.toNat).length = n.toNat := by rw [List.length_take]; omega
  have hw : IntKind.i64.wrap (d.used - IntKind.i64.wrap ((d.f s).b.length - n)) = d.used - ((d.f s).b.length - n) := by
    rw [wrap_i64 (n := ((d.f s).b.length : Int) - n) (by omega) (by omega), wrap_i64 (by omega) (by omega)]
  unfold trY
  rw [hw]
  refine putS_inv h.tick hs ?_ ?_ ⟨?_, ?_⟩
  · show d.used - (((d.f s).b.length : Int) - n) = d.used - ((d.f s).b.length : Int) + _
    simp only [hl]
    omega
  · show d.used - (((d.f s).b.length : Int) - n) ≤ d.room
    omega
  · dsimp only; split <;> omega
  · simp only [hl]; split <;> omega
theorem rn_inv {d : Dsk} {s t : ByteArray} (h : DInv d) : DInv (rnD d s t) := by
  refine op_inv h h fun _ h0 => ?_
  unfold rnP at h0
  split at h0
  case isFalse => cases h0
  rename_i hs
  split at h0
  case isFalse => cases h0
  rename_i ht
  unfold rnY
  split
  · exact h.tick
  rename_i hst
  obtain ⟨L, hL⟩ := h.tick.cov
  have a1 := h.us
  have a2 := h.r1
  have a3 := h.u0
  have c1 := hL.del (s := s) (u := d.used - (d.f s).b.length) hs rfl
  have hsyn : ∀ x, (d.tick.del s).has x = true → 0 ≤ ((d.tick.del s).f x).syn ∧ ((d.tick.del s).f x).syn ≤ ((d.tick.del s).f x).b.length := fun x hx => by
    have hx : delBs d.has s x = true := hx
    unfold delBs at hx
    rw [Bool.and_eq_true] at hx
    exact h.syn x hx.2
  have hnm : ∀ x, (d.tick.del s).has x = true → nmd x = true := fun x hx => by
    have hx : delBs d.has s x = true := hx
    unfold delBs at hx
    rw [Bool.and_eq_true] at hx
    exact h.nm x hx.2
  have hn1 : 1 ≤ d.n := by
    have h1 := hL.len
    have hm := (hL.mem s).1 hs
    have h2 : 0 < L.length := List.length_pos_of_mem hm
    have h3 : d.tick.n = d.n := rfl
    omega
  cases hh : d.has t with
  | true =>
    have hle := hL.le (s := t) hh
    have hle : ((d.f t).b.length : Int) ≤ d.used := hle
    have hdt : delBs d.has s t = true := by simp [delBs, hst, hh]
    have hw : IntKind.i64.wrap (d.used - (d.f t).b.length) = d.used - (d.f t).b.length := wrap_i64 (by omega) (by omega)
    rw [if_pos rfl, hw]
    refine ⟨⟨_, c1.put_t (s := t) (v := d.f s) (u := d.used - (d.f t).b.length) hdt ?_⟩, h.r0, h.r1, ?_, ?_, ?_, ?_, h.fl, h.tick.tr⟩
    · show d.used - ((d.f t).b.length : Int) = d.used - ((d.f s).b.length : Int) - ((d.f t).b.length : Int) + ((d.f s).b.length : Int)
      omega
    · show d.used - ((d.f t).b.length : Int) ≤ d.room
      omega
    · show (if delBs d.has s t then d.n - 1 else d.n - 1 + 1) ≤ 64
      have := h.n
      rw [if_pos hdt]; omega
    · intro x hx
      rcases put_has (d := d.tick.del s) (v := default) hx with rfl | hx
      · exact ht
      · exact hnm x hx
    · exact put_all (P := fun _ v => 0 ≤ v.syn ∧ v.syn ≤ v.b.length) (d := d.tick.del s) (h.syn s hs) hsyn
  | false =>
    have hdt : delBs d.has s t = false := by simp [delBs, hh]
    rw [if_neg (by simp)]
    refine ⟨⟨_, c1.put_f (s := t) (v := d.f s) (u := d.used) hdt ?_⟩, h.r0, h.r1, h.us, ?_, ?_, ?_, h.fl, h.tick.tr⟩
    · show d.used = d.used - ((d.f s).b.length : Int) + ((d.f s).b.length : Int)
      omega
    · show (if delBs d.has s t then d.n - 1 else d.n - 1 + 1) ≤ 64
      have := h.n
      rw [if_neg (by simp [hdt])]; omega
    · intro x hx
      rcases put_has (d := d.tick.del s) (v := default) hx with rfl | hx
      · exact ht
      · exact hnm x hx
    · exact put_all (P := fun _ v => 0 ≤ v.syn ∧ v.syn ≤ v.b.length) (d := d.tick.del s) (h.syn s hs) hsyn
theorem rm_inv {d : Dsk} {s : ByteArray} (h : DInv d) : DInv (rmD d s) := by
  refine op_inv h h fun _ h0 => ?_
  have hs := fnP_0 h0
  obtain ⟨L, hL⟩ := h.tick.cov
  have a1 := h.us
  have a2 := h.r1
  have a3 := h.u0
  have hle : ((d.f s).b.length : Int) ≤ d.used := hL.le hs
  have hw : IntKind.i64.wrap (d.used - (d.f s).b.length) = d.used - (d.f s).b.length := wrap_i64 (by omega) (by omega)
  unfold rmY
  rw [hw]
  refine ⟨⟨_, hL.del hs rfl⟩, h.r0, h.r1, ?_, ?_, ?_, ?_, h.fl, h.tick.tr⟩
  · show d.used - ((d.f s).b.length : Int) ≤ d.room
    omega
  · show d.n - 1 ≤ 64
    have := h.n
    omega
  · intro x hx
    have hx : delBs d.has s x = true := hx
    unfold delBs at hx
    rw [Bool.and_eq_true] at hx
    exact h.nm x hx.2
  · intro x hx
    have hx : delBs d.has s x = true := hx
    unfold delBs at hx
    rw [Bool.and_eq_true] at hx
    exact h.syn x hx.2
end Go.Proofs.YtfiohpojlgkmkaaGreatDoor.O

namespace Go.Proofs.YtfiohpojlgkmkaaGreatDoor.O
open Go.Ax Go.Maps
set_option maxRecDepth 1000000
structure OpIs (y y' : Dsk) (e e' : Int) : Prop where
  d : y = y'
  n : e = e'
structure ApRoom (d : Dsk) (s : ByteArray) (l : List Int) : Prop where
  r : apP d s l = 0 → (d.get s).b.length + l.length ≤ 140737488355328
theorem apV_c (c : Bool) (d y : Dsk) (s : ByteArray) (l : List Int) (e : Int) (h : ApRoom d s l) (q : OpIs y (apD d s l) e (apE d s l)) : (opR y e).Sat (ACall' Tryz.prog 8 [.ptr 0 0 0 0, .y (.string s), encBs c l] (dkM d)) := by
  rw [q.d, q.n]; exact ap_c d s c l h.r
noncomputable def apV (c : Bool) (d y : Dsk) (s : ByteArray) (l : List Int) (e : Int) : Ctr Tryz.prog := ⟨8, [.ptr 0 0 0 0, .y (.string s), encBs c l], dkM d, .need (ApRoom d s l) (.need (OpIs y (apD d s l) e (apE d s l)) (opR y e)), T.Sat.need fun h => T.Sat.need fun q => apV_c c d y s l e h q⟩
theorem syV_c (d y : Dsk) (s : ByteArray) (e : Int) (q : OpIs y (syD d s) e (syE d s)) : (opR y e).Sat (ACall' Tryz.prog 15 [.ptr 0 0 0 0, .y (.string s)] (dkM d)) := by
  rw [q.d, q.n]; exact sy_c d s
noncomputable def syV (d y : Dsk) (s : ByteArray) (e : Int) : Ctr Tryz.prog := ⟨15, [.ptr 0 0 0 0, .y (.string s)], dkM d, .need (OpIs y (syD d s) e (syE d s)) (opR y e), T.Sat.need fun q => syV_c d y s e q⟩
def sA : ByteArray := ⟨#[97]⟩
noncomputable def lvH (d d1 d2 d3 : Dsk) (e1 e2 e3 : Int) : HintsT Tryz.prog := { withSh (hh _ noLp (cs1 6 1 0 (nwC 10) (cs1 6 4 3 (apV true d d1 sA [120, 121, 122] e1) (cs1 6 5 1 (syV d1 d2 sA e2) (cs1 6 6 3 (apV true d2 d3 sA [117, 118] e3) (cs1 6 7 1 (szC d3 sA) noCs))))) noOp) (sh1 6 4 1 779 (sh1 6 6 1 779 noSh)) with sub := fun _ => true }
def vcLv (d : Dsk) (d1 : Dsk) (d2 : Dsk) (d3 : Dsk) (e1 : Int) (e2 : Int) (e3 : Int) : Prop :=
  ((10 : Int) = (10 : Int) ∧ True) ∧ True ∧ (false = true → false = true ∧ True) ∧ (false = false → (((0 : Nat) = (0 : Nat) ∧ (0 : Nat) = (0 : Nat)) ∧ { data := #[(97 : UInt8)] : ByteArray } = sA ∧ (true = true ∧ (3 : Nat) = (3 : Nat) ∧ contLe (3 : Nat) (1 : Nat) (Ax.rowAt (0 : Nat) fun (k j : Nat) => Ax.get [AV.s (Value.int IntKind.u8 (120 : Int)), AV.s (Value.int IntKind.u8 (121 : Int)), AV.s (Value.int IntKind.u8 (122 : Int))] (k * (1 : Nat) + j)) (cellsOf' encB [(120 : Int), (121 : Int), (122 : Int)])) ∧ True) ∧ ((True ∧ (10 : Int) = d.room ∧ (0 : Int) = d.used ∧ false = d.down ∧ (-1 : Int) = d.trip ∧ (-1 : Int) = d.fail ∧ True) ∧ ((0 : Nat) = d.n ∧ (∀ (x : ByteArray), false = d.has x) ∧ ∀ (x : ByteArray), false = true → ((0 : Nat) = List.length (d.f x).b ∧ contLe (0 : Nat) (1 : Nat) (cellsOf' encB []) (cellsOf' encB (d.f x).b)) ∧ (0 : Int) = (d.f x).syn ∧ True) ∧ True) ∧ ApRoom d sA [(120 : Int), (121 : Int), (122 : Int)] ∧ OpIs d1 (apD d sA [(120 : Int), (121 : Int), (122 : Int)]) e1 (apE d sA [(120 : Int), (121 : Int), (122 : Int)]) ∧ (((0 : Nat) = (0 : Nat) ∧ (0 : Nat) = (0 : Nat)) ∧ { data := #[(97 : UInt8)] : ByteArray } = sA ∧ True) ∧ ((True ∧ d1.room = d1.room ∧ d1.used = d1.used ∧ d1.down = d1.down ∧ d1.trip = d1.trip ∧ d1.fail = d1.fail ∧ True) ∧ (d1.n = d1.n ∧ (∀ (x : ByteArray), d1.has x = d1.has x) ∧ ∀ (x : ByteArray), d1.has x = true → (List.length (d1.f x).b = List.length (d1.f x).b ∧ contLe (List.length (d1.f x).b) (1 : Nat) (cellsOf' encB (d1.f x).b) (cellsOf' encB (d1.f x).b)) ∧ (d1.f x).syn = (d1.f x).syn ∧ True) ∧ True) ∧ OpIs d2 (syD d1 sA) e2 (syE d1 sA) ∧ (((0 : Nat) = (0 : Nat) ∧ (0 : Nat) = (0 : Nat)) ∧ { data := #[(97 : UInt8)] : ByteArray } = sA ∧ (true = true ∧ (2 : Nat) = (2 : Nat) ∧ contLe (2 : Nat) (1 : Nat) (Ax.rowAt (0 : Nat) fun (k j : Nat) => Ax.get [AV.s (Value.int IntKind.u8 (117 : Int)), AV.s (Value.int IntKind.u8 (118 : Int))] (k * (1 : Nat) + j)) (cellsOf' encB [(117 : Int), (118 : Int)])) ∧ True) ∧ ((True ∧ d2.room = d2.room ∧ d2.used = d2.used ∧ d2.down = d2.down ∧ d2.trip = d2.trip ∧ d2.fail = d2.fail ∧ True) ∧ (d2.n = d2.n ∧ (∀ (x : ByteArray), d2.has x = d2.has x) ∧ ∀ (x : ByteArray), d2.has x = true → (List.length (d2.f x).b = List.length (d2.f x).b ∧ contLe (List.length (d2.f x).b) (1 : Nat) (cellsOf' encB (d2.f x).b) (cellsOf' encB (d2.f x).b)) ∧ (d2.f x).syn = (d2.f x).syn ∧ True) ∧ True) ∧ ApRoom d2 sA [(117 : Int), (118 : Int)] ∧ OpIs d3 (apD d2 sA [(117 : Int), (118 : Int)]) e3 (apE d2 sA [(117 : Int), (118 : Int)]) ∧ (((0 : Nat) = (0 : Nat) ∧ (0 : Nat) = (0 : Nat)) ∧ { data := #[(97 : UInt8)] : ByteArray } = sA ∧ True) ∧ ((True ∧ d3.room = d3.room ∧ d3.used = d3.used ∧ d3.down = d3.down ∧ d3.trip = d3.trip ∧ d3.fail = d3.fail ∧ True) ∧ (d3.n = d3.n ∧ (∀ (x : ByteArray), d3.has x = d3.has x) ∧ ∀ (x : ByteArray), d3.has x = true → (List.length (d3.f x).b = List.length (d3.f x).b ∧ contLe (List.length (d3.f x).b) (1 : Nat) (cellsOf' encB (d3.f x).b) (cellsOf' encB (d3.f x).b)) ∧ (d3.f x).syn = (d3.f x).syn ∧ True) ∧ True) ∧ ((e2 == (0 : Int)) = true → (((↑(List.length (Dsk.get d3 sA).b) : Int) == (5 : Int)) = true → (((Dsk.get d3 sA).syn == (3 : Int)) = true → d3.has sA = true ∧ True) ∧ (((Dsk.get d3 sA).syn == (3 : Int)) = false → false = true ∧ True)) ∧ (((↑(List.length (Dsk.get d3 sA).b) : Int) == (5 : Int)) = false → false = true ∧ True)) ∧ ((e2 == (0 : Int)) = false → false = true ∧ True))
theorem vcLv_eq (d : Dsk) (d1 : Dsk) (d2 : Dsk) (d3 : Dsk) (e1 : Int) (e2 : Int) (e3 : Int) : (ctrVC Tryz.prog (lvH d d1 d2 d3 e1 e2 e3) 6 [] [] (boR true)) = vcLv d d1 d2 d3 e1 e2 e3 := by kernel_rfl
end Go.Proofs.YtfiohpojlgkmkaaGreatDoor.O

namespace Go.Proofs.YtfiohpojlgkmkaaGreatDoor.O
open Go.Ax Go.Maps
set_option maxRecDepth 1000000
def lv1 : Dsk := apD (d0 10) sA [120, 121, 122]
def lv2 : Dsk := syD lv1 sA
def lv3 : Dsk := apD lv2 sA [117, 118]
theorem lv_nm : nmd sA = true := by decide
theorem w10 : IntKind.i64.wrap 10 = 10 := by decide
theorem w7 : IntKind.i64.wrap 7 = 7 := by decide
theorem w3 : IntKind.i64.wrap 3 = 3 := by decide
theorem wm2 : IntKind.i64.wrap (-2) = -2 := by decide
theorem mxm2 : mx (-2) = -1 := by decide
theorem d0_f : (d0 10).down = false ∧ (d0 10).trip = -1 ∧ (d0 10).fail = -1 ∧ (d0 10).n = 0 ∧ (d0 10).room = 10 ∧ (d0 10).used = 0 := ⟨rfl, rfl, rfl, rfl, rfl, rfl⟩
theorem d0_h (x : ByteArray) : (d0 10).has x = false := rfl
theorem lv_p1 : apP (d0 10) sA [120, 121, 122] = 0 := by simp [apP, lv_nm, d0_f, d0_h, w10]
theorem lv_1 : lv1 = apY (d0 10) sA [120, 121, 122] := by
  unfold lv1 apD opD
  simp [lv_p1, apQ, lv_nm, d0_f, Dsk.fld]
theorem lv_has1 : lv1.has sA = true := by rw [lv_1]; simp [apY, Dsk.put, updBs]
theorem lv_f1 : lv1.f sA = ⟨[120, 121, 122], 0⟩ := by rw [lv_1]; simp [apY, Dsk.put, Dsk.get, d0]
theorem lv_t1 : lv1.trip = -1 ∧ lv1.down = false ∧ lv1.fail = -1 ∧ lv1.n = 1 ∧ lv1.room = 10 ∧ lv1.used = 3 := by
  rw [lv_1]
  refine ⟨?_, rfl, ?_, rfl, rfl, ?_⟩
  · simp [apY, Dsk.put, Dsk.tick, Dsk.fld, d0_f, wm2, mxm2]
  · simp [apY, Dsk.put, Dsk.tick, Dsk.fld, d0_f, wm2, mxm2]
  · simp [apY, d0_f, w3]
theorem lv_e2 : syE lv1 sA = 0 := by simp [syE, opE, fnP, lv_has1, lv_t1]
theorem lv_2 : lv2 = syY lv1 sA := by simp [lv2, syD, opD, fnP, lv_has1, lv_t1]
theorem lv_f2 : lv2.f sA = ⟨[120, 121, 122], 3⟩ := by rw [lv_2]; simp [syY, Dsk.put, lv_f1]
theorem lv_has2 : lv2.has sA = true := by rw [lv_2]; simp [syY, Dsk.put, updBs]
theorem lv_t2 : lv2.trip = -1 ∧ lv2.down = false ∧ lv2.fail = -1 ∧ lv2.room = 10 ∧ lv2.used = 3 := by
  rw [lv_2]
  refine ⟨?_, lv_t1.2.1, lv_t1.2.2.1, lv_t1.2.2.2.2.1, lv_t1.2.2.2.2.2⟩
  simp [syY, Dsk.put, Dsk.tick, lv_t1, wm2, mxm2]
theorem lv_p3 : apP lv2 sA [117, 118] = 0 := by simp [apP, lv_nm, lv_t2, lv_has2, w7]
theorem lv_3 : lv3 = apY lv2 sA [117, 118] := by simp [lv3, apD, opD, lv_p3, apQ, lv_nm, lv_t2, Dsk.fld]
theorem lv_f3 : lv3.f sA = ⟨[120, 121, 122, 117, 118], 3⟩ := by rw [lv_3]; simp [apY, Dsk.put, get_t lv_has2, lv_f2]
theorem lv_has3 : lv3.has sA = true := by rw [lv_3]; simp [apY, Dsk.put, updBs]
theorem lv_c : (boR true).Sat (ACall' Tryz.prog 6 [] []) := by
  refine ctr_vc (ht := lvH (d0 10) lv1 lv2 lv3 (apE (d0 10) sA [120, 121, 122]) 0 (apE lv2 sA [117, 118])) Tryz.mixed rfl ?_
  rw [vcLv_eq (d0 10) lv1 lv2 lv3]
  unfold vcLv
  have a1 : ApRoom (d0 10) sA [120, 121, 122] := ⟨fun _ => by simp [Dsk.get, d0]⟩
  have a2 : OpIs lv1 (apD (d0 10) sA [120, 121, 122]) (apE (d0 10) sA [120, 121, 122]) (apE (d0 10) sA [120, 121, 122]) := ⟨rfl, rfl⟩
  have a3 : OpIs lv2 (syD lv1 sA) 0 (syE lv1 sA) := ⟨rfl, lv_e2.symm⟩
  have a4 : ApRoom lv2 sA [117, 118] := ⟨fun _ => by rw [get_t lv_has2, lv_f2]; simp⟩
  have a5 : OpIs lv3 (apD lv2 sA [117, 118]) (apE lv2 sA [117, 118]) (apE lv2 sA [117, 118]) := ⟨rfl, rfl⟩
  have h3 := lv_has3
  have f3 := get_t lv_has3
  rw [lv_f3] at f3
  have hs : ({ data := #[97] } : ByteArray) = sA := rfl
  have g1 : (d0 10).room = 10 ∧ (d0 10).used = 0 ∧ (d0 10).down = false ∧ (d0 10).trip = -1 ∧ (d0 10).fail = -1 ∧ (d0 10).n = 0 := ⟨rfl, rfl, rfl, rfl, rfl, rfl⟩
  have g2 : ∀ x, (d0 10).has x = false := fun _ => rfl
  generalize apE (d0 10) sA [120, 121, 122] = e1 at *
  generalize apE lv2 sA [117, 118] = e3 at *
  generalize lv3 = z3 at *
  generalize lv2 = z2 at *
  generalize lv1 = z1 at *
  generalize d0 10 = z0 at *
  simp [hs, a1, a2, a3, a4, a5, h3, f3, g1, g2]
  refine ⟨fun k hk j hj => ?_, fun k hk j hj => ?_⟩
  all_goals
    obtain rfl : j = 0 := by omega
    rcases (by omega : k = 0 ∨ k = 1 ∨ k = 2) with rfl | rfl | rfl <;> first | (exact rfl) | omega
end Go.Proofs.YtfiohpojlgkmkaaGreatDoor.O

namespace Go.Proofs.YtfiohpojlgkmkaaGreatDoor.O
open Go.Ax Go.Maps
set_option maxRecDepth 1000000
structure Wr where
  name : ByteArray
  b : List Int
  sync : Bool
instance : Inhabited Wr := ⟨⟨ByteArray.empty, [], false⟩⟩
noncomputable def lvC : Ctr Tryz.prog := ⟨6, [], [], boR true, lv_c⟩
def str (l : List Int) : ByteArray := strN l.length (cellsOf' encB l)
structure KS where
  d : Dsk
  ns : List ByteArray
  bs : List ByteArray
  ys : List Int
def fi (ns : List ByteArray) (s : ByteArray) (k : Nat) : Nat := k + (ns.drop k).findIdx fun x => x.data.toList == s.data.toList
def KS.more (K : KS) (s : ByteArray) : KS := ⟨K.d, K.ns ++ [s], K.bs ++ [ByteArray.empty], K.ys ++ [0]⟩
def kq (K : KS) (s : ByteArray) (q : Nat) : KS := if q = K.ns.length then K.more s else K
def kb2 (K : KS) (w : Wr) (q : Nat) : List ByteArray := (kq K w.name q).bs.set q ((kq K w.name q).bs.getD q default ++ str w.b)
end Go.Proofs.YtfiohpojlgkmkaaGreatDoor.O

namespace Go.Proofs.YtfiohpojlgkmkaaGreatDoor.O
open Go.Ax Go.Maps
set_option maxRecDepth 1000000
def u8 (x : Int) : UInt8 := UInt8.ofNat x.toNat
def keStep (K : KS) (w : Wr) : KS :=
  let y1 := apD K.d w.name w.b
  if apE K.d w.name w.b ≠ 0 then ⟨y1, K.ns, K.bs, K.ys⟩
  else
    let q := fi K.ns w.name 0
    let K' := kq K w.name q
    let bs := kb2 K w q
    if w.sync then
      (if syE y1 w.name = 0 then ⟨syD y1 w.name, K'.ns, bs, K'.ys.set q (bs.getD q default).size⟩ else ⟨syD y1 w.name, K'.ns, bs, K'.ys⟩)
    else ⟨y1, K'.ns, bs, K'.ys⟩
structure KInv (K : KS) : Prop where
  d : DInv K.d
  nb : K.bs.length = K.ns.length
  ny : K.ys.length = K.ns.length
  nd : K.ns.Nodup
  mem : ∀ x, K.d.has x = true ↔ x ∈ K.ns
  b : ∀ j, j < K.ns.length → K.bs.getD j default = str (K.d.f (K.ns.getD j default)).b
  y : ∀ j, j < K.ns.length → K.ys.getD j 0 = (K.d.f (K.ns.getD j default)).syn
end Go.Proofs.YtfiohpojlgkmkaaGreatDoor.O

namespace Go.Proofs.YtfiohpojlgkmkaaGreatDoor.O
open Go.Ax Go.Maps
set_option maxRecDepth 1000000
theorem KInv.len {K : KS} (h : KInv K) : K.ns.length ≤ 64 := by
  obtain ⟨L, hL⟩ := h.d.cov
  have hp : K.ns.Perm L := (List.perm_ext_iff_of_nodup h.nd hL.nd).2 fun x => by rw [← h.mem x, hL.mem x]
  rw [hp.length_eq, hL.len]
  exact h.d.n
def kes (trip : Int) (l : List Wr) (k : Nat) : KS := (l.take k).foldl keStep ⟨{ d0 65536 with trip := mx trip }, [], [], []⟩
end Go.Proofs.YtfiohpojlgkmkaaGreatDoor.O

namespace Go.Proofs.YtfiohpojlgkmkaaGreatDoor.O
open Go.Ax Go.Maps
set_option maxRecDepth 1000000
def kx (trip : Int) (l : List Wr) (k : Nat) : KS := kes trip l (min k l.length)
end Go.Proofs.YtfiohpojlgkmkaaGreatDoor.O

namespace Go.Proofs.YtfiohpojlgkmkaaGreatDoor.O
open Go.Ax Go.Maps
set_option maxRecDepth 1000000
end Go.Proofs.YtfiohpojlgkmkaaGreatDoor.O

namespace Go.Proofs.YtfiohpojlgkmkaaGreatDoor.O
open Go.Ax Go.Maps
set_option maxRecDepth 1000000
theorem rnV_c (d y : Dsk) (s t : ByteArray) (e : Int) (q : OpIs y (rnD d s t) e (rnE d s t)) : (opR y e).Sat (ACall' Tryz.prog 9 [.ptr 0 0 0 0, .y (.string s), .y (.string t)] (dkM d)) := by
  rw [q.d, q.n]; exact rn_c d s t
noncomputable def rnV (d y : Dsk) (s t : ByteArray) (e : Int) : Ctr Tryz.prog := ⟨9, [.ptr 0 0 0 0, .y (.string s), .y (.string t)], dkM d, .need (OpIs y (rnD d s t) e (rnE d s t)) (opR y e), T.Sat.need fun q => rnV_c d y s t e q⟩
theorem trV_c (d y : Dsk) (s : ByteArray) (n : Int) (e : Int) (q : OpIs y (trD d s n) e (trE d s n)) : (opR y e).Sat (ACall' Tryz.prog 10 [.ptr 0 0 0 0, .y (.string s), .y (.int .i64 n)] (dkM d)) := by
  rw [q.d, q.n]; exact tr_c d s n
noncomputable def trV (d y : Dsk) (s : ByteArray) (n : Int) (e : Int) : Ctr Tryz.prog := ⟨10, [.ptr 0 0 0 0, .y (.string s), .y (.int .i64 n)], dkM d, .need (OpIs y (trD d s n) e (trE d s n)) (opR y e), T.Sat.need fun q => trV_c d y s n e q⟩
def sO : ByteArray := ⟨#[111, 116, 104, 101, 114, 46, 48]⟩
end Go.Proofs.YtfiohpojlgkmkaaGreatDoor.O

namespace Go.Proofs.YtfiohpojlgkmkaaGreatDoor.O
open Go.Ax Go.Maps
set_option maxRecDepth 1000000
structure Qt (d : Dsk) : Prop where
  down : d.down = false
  trip : d.trip = -1
  fail : d.fail = -1
theorem Qt.tick {d : Dsk} (h : Qt d) : Qt d.tick := ⟨h.down, by show mx (IntKind.i64.wrap (d.trip - 1)) = -1; rw [h.trip]; decide, h.fail⟩
theorem Qt.fld {d : Dsk} (h : Qt d) : Qt d.fld := ⟨h.down, h.trip, by show mx (IntKind.i64.wrap (d.fail - 1)) = -1; rw [h.fail]; decide⟩
theorem DInv.n1 {d : Dsk} {s : ByteArray} (h : DInv d) (hs : d.has s = true) : 1 ≤ d.n := by
  obtain ⟨L, hL⟩ := h.cov
  have h1 := hL.len
  have h2 : 0 < L.length := List.length_pos_of_mem ((hL.mem s).1 hs)
  omega
def z1 (d : Dsk) (s : ByteArray) : Dsk := rnD d s sO
def z2 (d : Dsk) (s : ByteArray) : Dsk := rnD (z1 d s) sO s
def z3 (d : Dsk) (s : ByteArray) (b : List Int) : Dsk := apD (z2 d s) s b
def z4 (d : Dsk) (s : ByteArray) (b : List Int) : Dsk := trD (z3 d s b) s (d.get s).b.length
end Go.Proofs.YtfiohpojlgkmkaaGreatDoor.O

namespace Go.Proofs.YtfiohpojlgkmkaaGreatDoor.O
open Go.Ax Go.Maps
set_option maxRecDepth 1000000
structure Opn where
  kind : Int
  name : ByteArray
  other : ByteArray
  b : List Int
  n : Int
  at' : Int
  keep : List Int
instance : Inhabited Opn := ⟨⟨0, ByteArray.empty, ByteArray.empty, [], 0, 0, []⟩⟩
def encOp (o : Opn) : List AV := [.y (.int .i64 o.kind), .y (.string o.name), .y (.string o.other), encBs true o.b, .y (.int .i64 o.n), .y (.int .i64 o.at'), encIs true o.keep]
def encOps (b : Bool) (l : List Opn) : AV := .ys b 7 l.length (cellsOf' encOp l)
theorem rmV_c (d y : Dsk) (s : ByteArray) (e : Int) (q : OpIs y (rmD d s) e (rmE d s)) : (opR y e).Sat (ACall' Tryz.prog 11 [.ptr 0 0 0 0, .y (.string s)] (dkM d)) := by
  rw [q.d, q.n]; exact rm_c d s
noncomputable def rmV (d y : Dsk) (s : ByteArray) (e : Int) : Ctr Tryz.prog := ⟨11, [.ptr 0 0 0 0, .y (.string s)], dkM d, .need (OpIs y (rmD d s) e (rmE d s)) (opR y e), T.Sat.need fun q => rmV_c d y s e q⟩
def rmL (b : Bool) (room : Int) (l : List Opn) (k : Nat) : List (Nat × AV) := [(0, .y (.int .i64 room)), (1, encOps b l), (5, .y (.bool true)), (6, .ptr 0 0 0 0), (8, .y (.int .i64 k))]
def suT (b : Bool) (room : Int) (l : List Opn) (k : Nat) (ks : List ByteArray) (n : Nat → Int) (j : Nat) : List AV := mkT 138 (rmL b room l k ++ [(10, .y (.int .i64 (n j))), (11, encSs true ks), (12, .y (.int .i64 j))])
def suS (b : Bool) (room : Int) (l : List Opn) (k : Nat) (ks : List ByteArray) (n : Int) (d : Dsk) (_ : Unit) : Exit × List AV × List Blk := (.exit 3, mkT 138 (rmL b room l k ++ [(10, .y (.int .i64 n)), (11, encSs true ks)]), dkM d)
noncomputable def suH (d : Dsk) (s : ByteArray) : HintsT Tryz.prog := { hh _ noLp (cs1 3 24 5 (szC d s) noCs) noOp with sub := fun _ => true }
def vcSu (b : Bool) (room : Int) (l : List Opn) (k : Nat) (ks : List ByteArray) (n : Nat → Int) (r : Int) (d : Dsk) (j : Nat) : Prop :=
  (decide ((↑j : Int) < (↑(List.length ks) : Int)) = true → (true && decide ((↑j : Int) < (↑(List.length ks) : Int))) = true ∧ (((0 : Nat) = (0 : Nat) ∧ (0 : Nat) = (0 : Nat)) ∧ List.getD ks (Int.toNat (↑j : Int)) (@default ByteArray ByteArray.instInhabited) = List.getD ks j (@default ByteArray ByteArray.instInhabited) ∧ True) ∧ ((True ∧ d.room = d.room ∧ d.used = d.used ∧ d.down = d.down ∧ d.trip = d.trip ∧ d.fail = d.fail ∧ True) ∧ (d.n = d.n ∧ (∀ (x : ByteArray), d.has x = d.has x) ∧ ∀ (x : ByteArray), d.has x = true → (List.length (d.f x).b = List.length (d.f x).b ∧ contLe (List.length (d.f x).b) (1 : Nat) (cellsOf' encB (d.f x).b) (cellsOf' encB (d.f x).b)) ∧ (d.f x).syn = (d.f x).syn ∧ True) ∧ True) ∧ ((!d.has (List.getD ks j (@default ByteArray ByteArray.instInhabited))) = true → False) ∧ ((!d.has (List.getD ks j (@default ByteArray ByteArray.instInhabited))) = false → (decide ((Dsk.get d (List.getD ks j (@default ByteArray ByteArray.instInhabited))).syn < (0 : Int)) = true → False) ∧ (decide ((Dsk.get d (List.getD ks j (@default ByteArray ByteArray.instInhabited))).syn < (0 : Int)) = false → (decide ((↑(List.length (Dsk.get d (List.getD ks j (@default ByteArray ByteArray.instInhabited))).b) : Int) < (Dsk.get d (List.getD ks j (@default ByteArray ByteArray.instInhabited))).syn) = true → False) ∧ (decide ((↑(List.length (Dsk.get d (List.getD ks j (@default ByteArray ByteArray.instInhabited))).b) : Int) < (Dsk.get d (List.getD ks j (@default ByteArray ByteArray.instInhabited))).syn) = false → (decide ((0 : Int) < (↑j : Int)) = true → (decide ((0 : Int) ≤ IntKind.wrap IntKind.i64 ((↑j : Int) - (1 : Int))) && decide (IntKind.wrap IntKind.i64 ((↑j : Int) - (1 : Int)) < (↑(List.length ks) : Int))) = true ∧ (true && decide ((↑j : Int) < (↑(List.length ks) : Int))) = true ∧ ((!Op.bytesLess (List.getD ks (Int.toNat (IntKind.wrap IntKind.i64 ((↑j : Int) - (1 : Int)))) (@default ByteArray ByteArray.instInhabited)).data.toList (List.getD ks (Int.toNat (↑j : Int)) (@default ByteArray ByteArray.instInhabited)).data.toList) = true → False) ∧ ((!Op.bytesLess (List.getD ks (Int.toNat (IntKind.wrap IntKind.i64 ((↑j : Int) - (1 : Int)))) (@default ByteArray ByteArray.instInhabited)).data.toList (List.getD ks (Int.toNat (↑j : Int)) (@default ByteArray ByteArray.instInhabited)).data.toList) = false → ∃ (j_1 : Nat), List.length ks - j_1 < List.length ks - j ∧ ((room = room ∧ (b = b ∧ List.length l = List.length l ∧ contLe (List.length l) (7 : Nat) (cellsOf' encOp l) (cellsOf' encOp l)) ∧ true = true ∧ ((0 : Nat) = (0 : Nat) ∧ (0 : Nat) = (0 : Nat)) ∧ (↑k : Int) = (↑k : Int) ∧ IntKind.wrap IntKind.i64 (n j + (↑(List.length (Dsk.get d (List.getD ks j (@default ByteArray ByteArray.instInhabited))).b) : Int)) = n j_1 ∧ (true = true ∧ List.length ks = List.length ks ∧ contLe (List.length ks) (1 : Nat) (cellsOf' encS ks) (cellsOf' encS ks)) ∧ IntKind.wrap IntKind.i64 ((↑j : Int) + (1 : Int)) = (↑j_1 : Int) ∧ True) ∧ ((True ∧ d.room = d.room ∧ d.used = d.used ∧ d.down = d.down ∧ d.trip = d.trip ∧ d.fail = d.fail ∧ True) ∧ (d.n = d.n ∧ (∀ (x : ByteArray), d.has x = d.has x) ∧ ∀ (x : ByteArray), d.has x = true → (List.length (d.f x).b = List.length (d.f x).b ∧ contLe (List.length (d.f x).b) (1 : Nat) (cellsOf' encB (d.f x).b) (cellsOf' encB (d.f x).b)) ∧ (d.f x).syn = (d.f x).syn ∧ True) ∧ True) ∧ true = true) ∧ true = true ∧ () = ())) ∧ (decide ((0 : Int) < (↑j : Int)) = false → ∃ (j_1 : Nat), List.length ks - j_1 < List.length ks - j ∧ ((room = room ∧ (b = b ∧ List.length l = List.length l ∧ contLe (List.length l) (7 : Nat) (cellsOf' encOp l) (cellsOf' encOp l)) ∧ true = true ∧ ((0 : Nat) = (0 : Nat) ∧ (0 : Nat) = (0 : Nat)) ∧ (↑k : Int) = (↑k : Int) ∧ IntKind.wrap IntKind.i64 (n j + (↑(List.length (Dsk.get d (List.getD ks j (@default ByteArray ByteArray.instInhabited))).b) : Int)) = n j_1 ∧ (true = true ∧ List.length ks = List.length ks ∧ contLe (List.length ks) (1 : Nat) (cellsOf' encS ks) (cellsOf' encS ks)) ∧ IntKind.wrap IntKind.i64 ((↑j : Int) + (1 : Int)) = (↑j_1 : Int) ∧ True) ∧ ((True ∧ d.room = d.room ∧ d.used = d.used ∧ d.down = d.down ∧ d.trip = d.trip ∧ d.fail = d.fail ∧ True) ∧ (d.n = d.n ∧ (∀ (x : ByteArray), d.has x = d.has x) ∧ ∀ (x : ByteArray), d.has x = true → (List.length (d.f x).b = List.length (d.f x).b ∧ contLe (List.length (d.f x).b) (1 : Nat) (cellsOf' encB (d.f x).b) (cellsOf' encB (d.f x).b)) ∧ (d.f x).syn = (d.f x).syn ∧ True) ∧ True) ∧ true = true) ∧ true = true ∧ () = ()))))) ∧ (decide ((↑j : Int) < (↑(List.length ks) : Int)) = false → (room = room ∧ (b = b ∧ List.length l = List.length l ∧ contLe (List.length l) (7 : Nat) (cellsOf' encOp l) (cellsOf' encOp l)) ∧ true = true ∧ ((0 : Nat) = (0 : Nat) ∧ (0 : Nat) = (0 : Nat)) ∧ (↑k : Int) = (↑k : Int) ∧ n j = r ∧ (true = true ∧ List.length ks = List.length ks ∧ contLe (List.length ks) (1 : Nat) (cellsOf' encS ks) (cellsOf' encS ks)) ∧ True) ∧ ((True ∧ d.room = d.room ∧ d.used = d.used ∧ d.down = d.down ∧ d.trip = d.trip ∧ d.fail = d.fail ∧ True) ∧ (d.n = d.n ∧ (∀ (x : ByteArray), d.has x = d.has x) ∧ ∀ (x : ByteArray), d.has x = true → (List.length (d.f x).b = List.length (d.f x).b ∧ contLe (List.length (d.f x).b) (1 : Nat) (cellsOf' encB (d.f x).b) (cellsOf' encB (d.f x).b)) ∧ (d.f x).syn = (d.f x).syn ∧ True) ∧ True) ∧ true = true)
theorem vcSu_eq (b : Bool) (room : Int) (l : List Opn) (k : Nat) (ks : List ByteArray) (n : Nat → Int) (r : Int) (d : Dsk) (j : Nat) : (loopVC Tryz.prog (suH d (ks.getD j default)) 3 22 (fun j => ks.length - j) (suT b room l k ks n) (fun _ => dkM d) jM (fun _ => .ret ()) (suS b room l k ks r d) j) = vcSu b room l k ks n r d j := by kernel_rfl
def roT (b : Bool) (room : Int) (l : List Opn) (k : Nat) : List AV := mkT 138 (rmL b room l k)
def roS (d : Dsk) (_ : Unit) : Exit × List AV × List Blk := (.exit 0, mkT 138 [(5, .y (.bool true))], dkM d)
noncomputable def roH (b : Bool) (room : Int) (l : List Opn) (k : Nat) (ks : List ByteArray) (n : Nat → Int) (r : Int) (d y y1 y2 y3 y4 : Dsk) (e1 e2 e3 e4 : Int) (o : Opn) : HintsT Tryz.prog := { hh _ (lp1 3 22 (jobOf (suT b room l k ks n) (fun _ => dkM y) jM (fun _ => .ret ()) (suS b room l k ks r y) 0) noLp) (cs1 3 14 5 (apV true d y1 o.name o.b e1) (cs1 3 16 5 (rnV d y2 o.name o.other e2) (cs1 3 18 5 (trV d y3 o.name o.n e3) (cs1 3 10 3 (rmV d y4 o.name e4) (cs1 3 20 1 (liC y ks) (cs1 3 28 2 (usC y) noCs)))))) noOp with sub := fun _ => true }
def vcRo_q1 (b : Bool) (room : Int) (l : List Opn) (ks : List ByteArray) (r : Int) (D : Nat → Dsk) (y : Dsk) (k : Nat) : Prop := ((r != y.used) = false → (decide (room < r) = true → False) ∧ (decide (room < r) = false → (decide ((64 : Int) < (↑(List.length ks) : Int)) = true → False) ∧ (decide ((64 : Int) < (↑(List.length ks) : Int)) = false → ∃ (j : Nat), List.length l - j < List.length l - k ∧ ((room = room ∧ (b = b ∧ List.length l = List.length l ∧ contLe (List.length l) (7 : Nat) (cellsOf' encOp l) (cellsOf' encOp l)) ∧ true = true ∧ ((0 : Nat) = (0 : Nat) ∧ (0 : Nat) = (0 : Nat)) ∧ IntKind.wrap IntKind.i64 ((↑k : Int) + (1 : Int)) = (↑j : Int) ∧ True) ∧ ((True ∧ y.room = (D j).room ∧ y.used = (D j).used ∧ y.down = (D j).down ∧ y.trip = (D j).trip ∧ y.fail = (D j).fail ∧ True) ∧ (y.n = (D j).n ∧ (∀ (x : ByteArray), y.has x = (D j).has x) ∧ ∀ (x : ByteArray), y.has x = true → (List.length (y.f x).b = List.length ((D j).f x).b ∧ contLe (List.length (y.f x).b) (1 : Nat) (cellsOf' encB (y.f x).b) (cellsOf' encB ((D j).f x).b)) ∧ (y.f x).syn = ((D j).f x).syn ∧ True) ∧ True) ∧ true = true) ∧ true = true ∧ () = ())))
def vcRo_q2 (y : Dsk) : Prop := ((True ∧ y.room = y.room ∧ y.used = y.used ∧ y.down = y.down ∧ y.trip = y.trip ∧ y.fail = y.fail ∧ True) ∧ (y.n = y.n ∧ (∀ (x : ByteArray), y.has x = y.has x) ∧ ∀ (x : ByteArray), y.has x = true → (List.length (y.f x).b = List.length (y.f x).b ∧ contLe (List.length (y.f x).b) (1 : Nat) (cellsOf' encB (y.f x).b) (cellsOf' encB (y.f x).b)) ∧ (y.f x).syn = (y.f x).syn ∧ True) ∧ True)
def vcRo_q3 (D : Nat → Dsk) (k : Nat) : Prop := ((True ∧ (D k).room = (D k).room ∧ (D k).used = (D k).used ∧ (D k).down = (D k).down ∧ (D k).trip = (D k).trip ∧ (D k).fail = (D k).fail ∧ True) ∧ ((D k).n = (D k).n ∧ (∀ (x : ByteArray), (D k).has x = (D k).has x) ∧ ∀ (x : ByteArray), (D k).has x = true → (List.length ((D k).f x).b = List.length ((D k).f x).b ∧ contLe (List.length ((D k).f x).b) (1 : Nat) (cellsOf' encB ((D k).f x).b) (cellsOf' encB ((D k).f x).b)) ∧ ((D k).f x).syn = ((D k).f x).syn ∧ True) ∧ True)
def vcRo_q4 (b : Bool) (room : Int) (l : List Opn) (ks : List ByteArray) (n : Nat → Int) (y : Dsk) (k : Nat) : Prop := ((room = room ∧ (b = b ∧ List.length l = List.length l ∧ contLe (List.length l) (7 : Nat) (cellsOf' encOp l) (cellsOf' encOp l)) ∧ true = true ∧ ((0 : Nat) = (0 : Nat) ∧ (0 : Nat) = (0 : Nat)) ∧ (↑k : Int) = (↑k : Int) ∧ (0 : Int) = n (0 : Nat) ∧ (true = true ∧ List.length ks = List.length ks ∧ contLe (List.length ks) (1 : Nat) (cellsOf' encS ks) (cellsOf' encS ks)) ∧ (0 : Int) = (0 : Int) ∧ True) ∧ (vcRo_q2 y) ∧ true = true)
def vcRo_q5 (l : List Opn) (k : Nat) : Prop := (((0 : Nat) = (0 : Nat) ∧ (0 : Nat) = (0 : Nat)) ∧ (List.getD l (Int.toNat (↑k : Int)) (@default Opn instInhabitedOpn)).name = (List.getD l k (@default Opn instInhabitedOpn)).name ∧ (true = true ∧ List.length (List.getD l (Int.toNat (↑k : Int)) (@default Opn instInhabitedOpn)).b = List.length (List.getD l k (@default Opn instInhabitedOpn)).b ∧ contLe (List.length (List.getD l (Int.toNat (↑k : Int)) (@default Opn instInhabitedOpn)).b) (1 : Nat) (cellsOf' encB (List.getD l (Int.toNat (↑k : Int)) (@default Opn instInhabitedOpn)).b) (cellsOf' encB (List.getD l k (@default Opn instInhabitedOpn)).b)) ∧ True)
def vcRo_q6 (y : Dsk) (y1 : Dsk) : Prop := ((True ∧ y1.room = y.room ∧ y1.used = y.used ∧ y1.down = y.down ∧ y1.trip = y.trip ∧ y1.fail = y.fail ∧ True) ∧ (y1.n = y.n ∧ (∀ (x : ByteArray), y1.has x = y.has x) ∧ ∀ (x : ByteArray), y1.has x = true → (List.length (y1.f x).b = List.length (y.f x).b ∧ contLe (List.length (y1.f x).b) (1 : Nat) (cellsOf' encB (y1.f x).b) (cellsOf' encB (y.f x).b)) ∧ (y1.f x).syn = (y.f x).syn ∧ True) ∧ True)
def vcRo (b : Bool) (room : Int) (l : List Opn) (ks : List ByteArray) (n : Nat → Int) (r : Int) (D : Nat → Dsk) (y : Dsk) (y1 : Dsk) (y2 : Dsk) (y3 : Dsk) (y4 : Dsk) (e1 : Int) (e2 : Int) (e3 : Int) (e4 : Int) (m : Nat) (k : Nat) : Prop :=
  (decide ((↑k : Int) < (↑(List.length l) : Int)) = true → (true && decide ((↑k : Int) < (↑(List.length l) : Int))) = true ∧ (((List.getD l (Int.toNat (↑k : Int)) (@default Opn instInhabitedOpn)).kind == (0 : Int)) = true → (vcRo_q5 l k) ∧ (vcRo_q3 D k) ∧ ApRoom (D k) (List.getD l k (@default Opn instInhabitedOpn)).name (List.getD l k (@default Opn instInhabitedOpn)).b ∧ OpIs y1 (apD (D k) (List.getD l k (@default Opn instInhabitedOpn)).name (List.getD l k (@default Opn instInhabitedOpn)).b) e1 (apE (D k) (List.getD l k (@default Opn instInhabitedOpn)).name (List.getD l k (@default Opn instInhabitedOpn)).b) ∧ (((0 : Nat) = (0 : Nat) ∧ (0 : Nat) = (0 : Nat)) ∧ True) ∧ (vcRo_q6 y y1) ∧ SrtOk ks y.has y.n ∧ (vcRo_q4 b room l ks n y k) ∧ LoopOk Tryz.prog (3 : Nat) (22 : Nat) (loopAt Tryz.prog (3 : Nat) (22 : Nat)) { t := suT b room l k ks n (0 : Nat), m := dkM y, mv := [] : St } (T.map (lout jM (suS b room l k ks r y)) ((fun (x : Nat) => T.ret ()) (0 : Nat))) ∧ (((0 : Nat) = (0 : Nat) ∧ (0 : Nat) = (0 : Nat)) ∧ True) ∧ (vcRo_q2 y) ∧ ((r != y.used) = true → False) ∧ (vcRo_q1 b room l ks r D y k)) ∧ (((List.getD l (Int.toNat (↑k : Int)) (@default Opn instInhabitedOpn)).kind == (0 : Int)) = false → (((List.getD l (Int.toNat (↑k : Int)) (@default Opn instInhabitedOpn)).kind == (1 : Int)) = true → (vcRo_q5 l k) ∧ (vcRo_q3 D k) ∧ ApRoom (D k) (List.getD l k (@default Opn instInhabitedOpn)).name (List.getD l k (@default Opn instInhabitedOpn)).b ∧ OpIs y1 (apD (D k) (List.getD l k (@default Opn instInhabitedOpn)).name (List.getD l k (@default Opn instInhabitedOpn)).b) e1 (apE (D k) (List.getD l k (@default Opn instInhabitedOpn)).name (List.getD l k (@default Opn instInhabitedOpn)).b) ∧ (((0 : Nat) = (0 : Nat) ∧ (0 : Nat) = (0 : Nat)) ∧ True) ∧ (vcRo_q6 y y1) ∧ SrtOk ks y.has y.n ∧ (vcRo_q4 b room l ks n y k) ∧ LoopOk Tryz.prog (3 : Nat) (22 : Nat) (loopAt Tryz.prog (3 : Nat) (22 : Nat)) { t := suT b room l k ks n (0 : Nat), m := dkM y, mv := [] : St } (T.map (lout jM (suS b room l k ks r y)) ((fun (x : Nat) => T.ret ()) (0 : Nat))) ∧ (((0 : Nat) = (0 : Nat) ∧ (0 : Nat) = (0 : Nat)) ∧ True) ∧ (vcRo_q2 y) ∧ ((r != y.used) = true → False) ∧ (vcRo_q1 b room l ks r D y k)) ∧ (((List.getD l (Int.toNat (↑k : Int)) (@default Opn instInhabitedOpn)).kind == (1 : Int)) = false → (((List.getD l (Int.toNat (↑k : Int)) (@default Opn instInhabitedOpn)).kind == (2 : Int)) = true → (vcRo_q5 l k) ∧ (vcRo_q3 D k) ∧ ApRoom (D k) (List.getD l k (@default Opn instInhabitedOpn)).name (List.getD l k (@default Opn instInhabitedOpn)).b ∧ OpIs y1 (apD (D k) (List.getD l k (@default Opn instInhabitedOpn)).name (List.getD l k (@default Opn instInhabitedOpn)).b) e1 (apE (D k) (List.getD l k (@default Opn instInhabitedOpn)).name (List.getD l k (@default Opn instInhabitedOpn)).b) ∧ (((0 : Nat) = (0 : Nat) ∧ (0 : Nat) = (0 : Nat)) ∧ True) ∧ (vcRo_q6 y y1) ∧ SrtOk ks y.has y.n ∧ (vcRo_q4 b room l ks n y k) ∧ LoopOk Tryz.prog (3 : Nat) (22 : Nat) (loopAt Tryz.prog (3 : Nat) (22 : Nat)) { t := suT b room l k ks n (0 : Nat), m := dkM y, mv := [] : St } (T.map (lout jM (suS b room l k ks r y)) ((fun (x : Nat) => T.ret ()) (0 : Nat))) ∧ (((0 : Nat) = (0 : Nat) ∧ (0 : Nat) = (0 : Nat)) ∧ True) ∧ (vcRo_q2 y) ∧ ((r != y.used) = true → False) ∧ (vcRo_q1 b room l ks r D y k)) ∧ (((List.getD l (Int.toNat (↑k : Int)) (@default Opn instInhabitedOpn)).kind == (2 : Int)) = false → (((List.getD l (Int.toNat (↑k : Int)) (@default Opn instInhabitedOpn)).kind == (3 : Int)) = true → (((0 : Nat) = (0 : Nat) ∧ (0 : Nat) = (0 : Nat)) ∧ (List.getD l (Int.toNat (↑k : Int)) (@default Opn instInhabitedOpn)).name = (List.getD l k (@default Opn instInhabitedOpn)).name ∧ (List.getD l (Int.toNat (↑k : Int)) (@default Opn instInhabitedOpn)).other = (List.getD l k (@default Opn instInhabitedOpn)).other ∧ True) ∧ (vcRo_q3 D k) ∧ OpIs y2 (rnD (D k) (List.getD l k (@default Opn instInhabitedOpn)).name (List.getD l k (@default Opn instInhabitedOpn)).other) e2 (rnE (D k) (List.getD l k (@default Opn instInhabitedOpn)).name (List.getD l k (@default Opn instInhabitedOpn)).other) ∧ (((0 : Nat) = (0 : Nat) ∧ (0 : Nat) = (0 : Nat)) ∧ True) ∧ ((True ∧ y2.room = y.room ∧ y2.used = y.used ∧ y2.down = y.down ∧ y2.trip = y.trip ∧ y2.fail = y.fail ∧ True) ∧ (y2.n = y.n ∧ (∀ (x : ByteArray), y2.has x = y.has x) ∧ ∀ (x : ByteArray), y2.has x = true → (List.length (y2.f x).b = List.length (y.f x).b ∧ contLe (List.length (y2.f x).b) (1 : Nat) (cellsOf' encB (y2.f x).b) (cellsOf' encB (y.f x).b)) ∧ (y2.f x).syn = (y.f x).syn ∧ True) ∧ True) ∧ SrtOk ks y.has y.n ∧ (vcRo_q4 b room l ks n y k) ∧ LoopOk Tryz.prog (3 : Nat) (22 : Nat) (loopAt Tryz.prog (3 : Nat) (22 : Nat)) { t := suT b room l k ks n (0 : Nat), m := dkM y, mv := [] : St } (T.map (lout jM (suS b room l k ks r y)) ((fun (x : Nat) => T.ret ()) (0 : Nat))) ∧ (((0 : Nat) = (0 : Nat) ∧ (0 : Nat) = (0 : Nat)) ∧ True) ∧ (vcRo_q2 y) ∧ ((r != y.used) = true → False) ∧ (vcRo_q1 b room l ks r D y k)) ∧ (((List.getD l (Int.toNat (↑k : Int)) (@default Opn instInhabitedOpn)).kind == (3 : Int)) = false → (((List.getD l (Int.toNat (↑k : Int)) (@default Opn instInhabitedOpn)).kind == (4 : Int)) = true → (((0 : Nat) = (0 : Nat) ∧ (0 : Nat) = (0 : Nat)) ∧ (List.getD l (Int.toNat (↑k : Int)) (@default Opn instInhabitedOpn)).name = (List.getD l k (@default Opn instInhabitedOpn)).name ∧ (List.getD l (Int.toNat (↑k : Int)) (@default Opn instInhabitedOpn)).n = (List.getD l k (@default Opn instInhabitedOpn)).n ∧ True) ∧ (vcRo_q3 D k) ∧ OpIs y3 (trD (D k) (List.getD l k (@default Opn instInhabitedOpn)).name (List.getD l k (@default Opn instInhabitedOpn)).n) e3 (trE (D k) (List.getD l k (@default Opn instInhabitedOpn)).name (List.getD l k (@default Opn instInhabitedOpn)).n) ∧ (((0 : Nat) = (0 : Nat) ∧ (0 : Nat) = (0 : Nat)) ∧ True) ∧ ((True ∧ y3.room = y.room ∧ y3.used = y.used ∧ y3.down = y.down ∧ y3.trip = y.trip ∧ y3.fail = y.fail ∧ True) ∧ (y3.n = y.n ∧ (∀ (x : ByteArray), y3.has x = y.has x) ∧ ∀ (x : ByteArray), y3.has x = true → (List.length (y3.f x).b = List.length (y.f x).b ∧ contLe (List.length (y3.f x).b) (1 : Nat) (cellsOf' encB (y3.f x).b) (cellsOf' encB (y.f x).b)) ∧ (y3.f x).syn = (y.f x).syn ∧ True) ∧ True) ∧ SrtOk ks y.has y.n ∧ (vcRo_q4 b room l ks n y k) ∧ LoopOk Tryz.prog (3 : Nat) (22 : Nat) (loopAt Tryz.prog (3 : Nat) (22 : Nat)) { t := suT b room l k ks n (0 : Nat), m := dkM y, mv := [] : St } (T.map (lout jM (suS b room l k ks r y)) ((fun (x : Nat) => T.ret ()) (0 : Nat))) ∧ (((0 : Nat) = (0 : Nat) ∧ (0 : Nat) = (0 : Nat)) ∧ True) ∧ (vcRo_q2 y) ∧ ((r != y.used) = true → False) ∧ (vcRo_q1 b room l ks r D y k)) ∧ (((List.getD l (Int.toNat (↑k : Int)) (@default Opn instInhabitedOpn)).kind == (4 : Int)) = false → (((0 : Nat) = (0 : Nat) ∧ (0 : Nat) = (0 : Nat)) ∧ (List.getD l (Int.toNat (↑k : Int)) (@default Opn instInhabitedOpn)).name = (List.getD l k (@default Opn instInhabitedOpn)).name ∧ True) ∧ (vcRo_q3 D k) ∧ OpIs y4 (rmD (D k) (List.getD l k (@default Opn instInhabitedOpn)).name) e4 (rmE (D k) (List.getD l k (@default Opn instInhabitedOpn)).name) ∧ (((0 : Nat) = (0 : Nat) ∧ (0 : Nat) = (0 : Nat)) ∧ True) ∧ ((True ∧ y4.room = y.room ∧ y4.used = y.used ∧ y4.down = y.down ∧ y4.trip = y.trip ∧ y4.fail = y.fail ∧ True) ∧ (y4.n = y.n ∧ (∀ (x : ByteArray), y4.has x = y.has x) ∧ ∀ (x : ByteArray), y4.has x = true → (List.length (y4.f x).b = List.length (y.f x).b ∧ contLe (List.length (y4.f x).b) (1 : Nat) (cellsOf' encB (y4.f x).b) (cellsOf' encB (y.f x).b)) ∧ (y4.f x).syn = (y.f x).syn ∧ True) ∧ True) ∧ SrtOk ks y.has y.n ∧ (vcRo_q4 b room l ks n y k) ∧ LoopOk Tryz.prog (3 : Nat) (22 : Nat) (loopAt Tryz.prog (3 : Nat) (22 : Nat)) { t := suT b room l k ks n (0 : Nat), m := dkM y, mv := [] : St } (T.map (lout jM (suS b room l k ks r y)) ((fun (x : Nat) => T.ret ()) (0 : Nat))) ∧ (((0 : Nat) = (0 : Nat) ∧ (0 : Nat) = (0 : Nat)) ∧ True) ∧ (vcRo_q2 y) ∧ ((r != y.used) = true → False) ∧ (vcRo_q1 b room l ks r D y k))))))) ∧ (decide ((↑k : Int) < (↑(List.length l) : Int)) = false → (true = true ∧ True) ∧ ((True ∧ (D k).room = (D m).room ∧ (D k).used = (D m).used ∧ (D k).down = (D m).down ∧ (D k).trip = (D m).trip ∧ (D k).fail = (D m).fail ∧ True) ∧ ((D k).n = (D m).n ∧ (∀ (x : ByteArray), (D k).has x = (D m).has x) ∧ ∀ (x : ByteArray), (D k).has x = true → (List.length ((D k).f x).b = List.length ((D m).f x).b ∧ contLe (List.length ((D k).f x).b) (1 : Nat) (cellsOf' encB ((D k).f x).b) (cellsOf' encB ((D m).f x).b)) ∧ ((D k).f x).syn = ((D m).f x).syn ∧ True) ∧ True) ∧ true = true)
theorem vcRo_eq (b : Bool) (room : Int) (l : List Opn) (ks : List ByteArray) (n : Nat → Int) (r : Int) (D : Nat → Dsk) (y : Dsk) (y1 : Dsk) (y2 : Dsk) (y3 : Dsk) (y4 : Dsk) (e1 : Int) (e2 : Int) (e3 : Int) (e4 : Int) (m : Nat) (k : Nat) : (loopVC Tryz.prog (roH b room l k ks n r (D k) y y1 y2 y3 y4 e1 e2 e3 e4 (l.getD k default)) 3 6 (fun k => l.length - k) (roT b room l) (fun k => dkM (D k)) jM (fun _ => .ret ()) (roS (D m)) k) = vcRo b room l ks n r D y y1 y2 y3 y4 e1 e2 e3 e4 m k := by kernel_rfl
noncomputable def rooH (b : Bool) (room : Int) (l : List Opn) (D : Nat → Dsk) : HintsT Tryz.prog := { hh _ (lp1 3 6 (jobOf (roT b room l) (fun k => dkM (D k)) jM (fun _ => .ret ()) (roS (D l.length)) 0) noLp) (cs1 3 1 0 lvC (cs1 3 2 1 (nwC room) noCs)) noOp with sub := fun _ => true }
def vcRoom (b : Bool) (room : Int) (l : List Opn) (D : Nat → Dsk) : Prop :=
  True ∧ True ∧ (room = room ∧ True) ∧ True ∧ (decide (room < (0 : Int) ∨ (16777216 : Int) < room) = true → (true = true → (decide (room < (0 : Int)) = true → true = true ∧ True) ∧ (decide (room < (0 : Int)) = false → decide ((16777216 : Int) < room) = true ∧ True)) ∧ (true = false → false = true ∧ True)) ∧ (decide (room < (0 : Int) ∨ (16777216 : Int) < room) = false → ((room = room ∧ (b = b ∧ List.length l = List.length l ∧ contLe (List.length l) (7 : Nat) (cellsOf' encOp l) (cellsOf' encOp l)) ∧ true = true ∧ ((0 : Nat) = (0 : Nat) ∧ (0 : Nat) = (0 : Nat)) ∧ (0 : Int) = (0 : Int) ∧ True) ∧ ((True ∧ room = (D (0 : Nat)).room ∧ (0 : Int) = (D (0 : Nat)).used ∧ false = (D (0 : Nat)).down ∧ (-1 : Int) = (D (0 : Nat)).trip ∧ (-1 : Int) = (D (0 : Nat)).fail ∧ True) ∧ ((0 : Nat) = (D (0 : Nat)).n ∧ (∀ (x : ByteArray), false = (D (0 : Nat)).has x) ∧ ∀ (x : ByteArray), false = true → ((0 : Nat) = List.length ((D (0 : Nat)).f x).b ∧ contLe (0 : Nat) (1 : Nat) (cellsOf' encB []) (cellsOf' encB ((D (0 : Nat)).f x).b)) ∧ (0 : Int) = ((D (0 : Nat)).f x).syn ∧ True) ∧ True) ∧ true = true) ∧ LoopOk Tryz.prog (3 : Nat) (6 : Nat) (loopAt Tryz.prog (3 : Nat) (6 : Nat)) { t := roT b room l (0 : Nat), m := dkM (D (0 : Nat)), mv := [] : St } (T.map (lout jM (roS (D (List.length l)))) ((fun (x : Nat) => T.ret ()) (0 : Nat))) ∧ true = true ∧ True)
theorem vcRoom_eq (b : Bool) (room : Int) (l : List Opn) (D : Nat → Dsk) : (ctrVC Tryz.prog (rooH b room l D) 3 [.y (.int .i64 room), encOps b l] [] (boR true)) = vcRoom b room l D := by kernel_rfl
end Go.Proofs.YtfiohpojlgkmkaaGreatDoor.O

namespace Go.Proofs.YtfiohpojlgkmkaaGreatDoor.O
open Go.Ax Go.Maps
set_option maxRecDepth 1000000
def roStep (d : Dsk) (o : Opn) : Dsk := if o.kind = 0 ∨ o.kind = 1 ∨ o.kind = 2 then apD d o.name o.b else if o.kind = 3 then rnD d o.name o.other else if o.kind = 4 then trD d o.name o.n else rmD d o.name
def roD (room : Int) (l : List Opn) : Nat → Dsk
  | 0 => d0 room
  | k + 1 => roStep (roD room l k) (l.getD k default)
theorem opD_room {d d1 y : Dsk} {e : Int} (h1 : d1.room = d.room) (h2 : y.room = d.room) : (opD d e d1 y).room = d.room := by
  unfold opD
  split
  · rfl
  split
  · exact h1
  split
  · exact h1
  · exact h2
theorem apD_room (d : Dsk) (s : ByteArray) (l : List Int) : (apD d s l).room = d.room := opD_room (by unfold apQ; split <;> rfl) rfl
theorem trD_room (d : Dsk) (s : ByteArray) (n : Int) : (trD d s n).room = d.room := opD_room rfl rfl
theorem rnD_room (d : Dsk) (s t : ByteArray) : (rnD d s t).room = d.room := opD_room rfl (by unfold rnY; split <;> rfl)
theorem rmD_room (d : Dsk) (s : ByteArray) : (rmD d s).room = d.room := opD_room rfl rfl
theorem ro_inv {d : Dsk} {o : Opn} (h : DInv d) : DInv (roStep d o) ∧ (roStep d o).room = d.room := by
  unfold roStep
  split
  · exact ⟨ap_inv h, apD_room ..⟩
  split
  · exact ⟨rn_inv h, rnD_room ..⟩
  split
  · exact ⟨tr_inv h, trD_room ..⟩
  · exact ⟨rm_inv h, rmD_room ..⟩
theorem roD_inv {room : Int} (h0 : 0 ≤ room) (h1 : room ≤ 16777216) (l : List Opn) : ∀ k, DInv (roD room l k) ∧ (roD room l k).room = room
  | 0 => ⟨dinv0 h0 h1, rfl⟩
  | k + 1 => by
    obtain ⟨a, b⟩ := roD_inv h0 h1 l k
    obtain ⟨c, e⟩ := ro_inv (o := l.getD k default) a
    exact ⟨c, by show (roStep _ _).room = _; rw [e, b]⟩
def suN (d : Dsk) (ks : List ByteArray) (j : Nat) : Int := (tot d.f (ks.take j) : Nat)
theorem suN_succ {d : Dsk} {ks : List ByteArray} {j : Nat} (h : j < ks.length) : suN d ks (j + 1) = suN d ks j + ((d.f (ks.getD j default)).b.length : Int) := by
  unfold suN tot
  rw [List.take_add_one, List.getElem?_eq_getElem h, List.map_append, List.sum_append]
  simp [List.getElem?_eq_getElem h]
theorem suN_le {d : Dsk} {ks : List ByteArray} {j : Nat} (h : DInv d) (hs : SrtOk ks d.has d.n) : suN d ks ks.length = d.used ∧ 0 ≤ suN d ks j ∧ suN d ks j ≤ d.used := by
  obtain ⟨L, hL⟩ := h.cov
  have hp : ks.Perm L := (List.perm_ext_iff_of_nodup hs.srt.nd hL.nd).2 fun x => by rw [← hs.srt.mem x, hL.mem x]
  have e : (tot d.f ks : Int) = d.used := by rw [tot_perm hp]; exact hL.sum
  have e2 : tot d.f ks = tot d.f (ks.take j) + tot d.f (ks.drop j) := by
    unfold tot
    rw [← List.sum_append, ← List.map_append, List.take_append_drop]
  refine ⟨by unfold suN; rw [List.take_length]; exact e, ?_, ?_⟩
  · unfold suN; omega
  · unfold suN; omega
end Go.Proofs.YtfiohpojlgkmkaaGreatDoor.O

namespace Go.Proofs.YtfiohpojlgkmkaaGreatDoor.O
open Go.Ax Go.Maps
set_option maxRecDepth 1000000
theorem less_lt : ∀ {a b : List UInt8}, a < b → Op.bytesLess a b = true
  | [], [], h => absurd h (List.lt_irrefl _)
  | [], _ :: _, _ => by simp [Op.bytesLess]
  | _ :: _, [], h => by simp at h
  | x :: a, y :: b, h => by
    rcases List.cons_lt_cons_iff.1 h with hq | ⟨rfl, hq⟩
    · simp [Op.bytesLess, hq]
    · have := less_lt hq
      simp [Op.bytesLess]
      exact this
noncomputable def ksF (d : Dsk) : List ByteArray := open Classical in if h : ∃ ks, SrtOk ks d.has d.n then h.choose else []
theorem ksF_ok {d : Dsk} (h : DInv d) : SrtOk (ksF d) d.has d.n := by
  unfold ksF
  rw [dif_pos h.srt]
  exact h.srt.choose_spec
theorem su_loop (b : Bool) (room : Int) (l : List Opn) (k : Nat) (d : Dsk) (h : DInv d) (ks : List ByteArray) (hks : SrtOk ks d.has d.n) (j : Nat) : LoopOk Tryz.prog 3 22 (loopAt Tryz.prog 3 22) ⟨suT b room l k ks (suN d ks) j, dkM d, []⟩ ((T.ret ()).map (lout jM (suS b room l k ks d.used d))) := by
  refine loop_vcH Tryz.mixed (fun _ => rfl) (ht := fun j => suH d (ks.getD j default)) (μ := fun j => ks.length - j) (stT := suT b room l k ks (suN d ks)) (stM := fun _ => dkM d) (X := jM) (o := fun _ => .ret ()) (S := suS b room l k ks d.used d) (fun j => (vcSu_eq b room l k ks (suN d ks) d.used d j).mpr ?_) j
  unfold vcSu
  simp only [Int.toNat_natCast]
  refine ⟨fun hj => ?_, fun hj => ?_⟩
  · have hj : j < ks.length := by simpa using hj
    have hn : ks.length ≤ 64 := by have := hks.len; have := h.n; omega
    have hw : IntKind.i64.wrap ((j : Int) + 1) = ((j + 1 : Nat) : Int) := by rw [wrap_i64 (by omega) (by omega)]; omega
    have hs : d.has (ks.getD j default) = true := (hks.srt.mem _).2 (by rw [List.getD_eq_getElem?_getD, List.getElem?_eq_getElem hj]; exact List.getElem_mem _)
    have hg := get_t hs
    have hf := h.fok _ hs
    have f1 := hf.l
    have f2 := hf.u
    obtain ⟨u1, u2, u3⟩ := suN_le (j := j) h hks
    obtain ⟨v1, v2, v3⟩ := suN_le (j := j + 1) h hks
    have hS := suN_succ (d := d) hj
    have r1 := h.us
    have r2 := h.r1
    have hw2 : IntKind.i64.wrap (suN d ks j + ((d.f (ks.getD j default)).b.length : Int)) = suN d ks (j + 1) := by rw [← hS, wrap_i64 (by omega) (by omega)]
    have g1 : ¬(d.f (ks.getD j default)).syn < 0 := by omega
    have g2 : ¬((d.f (ks.getD j default)).b.length : Int) < (d.f (ks.getD j default)).syn := by omega
    have hex : ∃ j', ks.length - j' < ks.length - j ∧ suN d ks (j + 1) = suN d ks j' ∧ ((j + 1 : Nat) : Int) = (j' : Int) := ⟨j + 1, by omega, rfl, rfl⟩
    rw [hg, hw, hw2]
    by_cases h0 : j = 0
    · subst h0
      generalize ks.getD 0 default = s at *
      simp [hj, hs, g1, g2]
      exact ⟨1, by omega, rfl, rfl⟩
    · have hw3 : IntKind.i64.wrap ((j : Int) - 1) = ((j - 1 : Nat) : Int) := by rw [wrap_i64 (by omega) (by omega)]; omega
      have hlt : Op.bytesLess (ks.getD (j - 1) default).data.toList (ks.getD j default).data.toList = true := by
        refine less_lt ?_
        have := List.pairwise_iff_getElem.1 hks.srt.so (j - 1) j (by omega) hj (by omega)
        rw [List.getD_eq_getElem?_getD, List.getD_eq_getElem?_getD, List.getElem?_eq_getElem hj, List.getElem?_eq_getElem (show j - 1 < ks.length by omega)]
        exact this
      rw [hw3]
      simp only [Int.toNat_natCast]
      generalize ks.getD (j - 1) default = s0 at *
      generalize ks.getD j default = s at *
      simp [hj, hs, g1, g2, hlt, show 0 < j by omega]
      exact ⟨by omega, j + 1, by omega, rfl, by omega⟩
  · have hj : ¬j < ks.length := by simpa using hj
    have e : suN d ks j = d.used := by rw [← (suN_le (j := 0) h hks).1]; unfold suN; rw [List.take_of_length_le (by omega), List.take_length]
    simp [e]
structure OpsOk (l : List Opn) : Prop where
  b : ∀ o ∈ l, o.b.length ≤ 140737488355328
  n : l.length ≤ 140737488355328
theorem ro_loop (b : Bool) (room : Int) (l : List Opn) (h0 : 0 ≤ room) (h1 : room ≤ 16777216) (hl : OpsOk l) (k : Nat) : LoopOk Tryz.prog 3 6 (loopAt Tryz.prog 3 6) ⟨roT b room l k, dkM (roD room l (min k l.length)), []⟩ ((T.ret ()).map (lout jM (roS (roD room l (min l.length l.length))))) := by
  let D := fun k => roD room l (min k l.length)
  let o := fun k => l.getD k default
  let y := fun k => roStep (D k) (o k)
  refine loop_vcH Tryz.mixed (fun _ => rfl) (ht := fun k => roH b room l k (ksF (y k)) (suN (y k) (ksF (y k))) (y k).used (D k) (y k) (apD (D k) (o k).name (o k).b) (rnD (D k) (o k).name (o k).other) (trD (D k) (o k).name (o k).n) (rmD (D k) (o k).name) (apE (D k) (o k).name (o k).b) (rnE (D k) (o k).name (o k).other) (trE (D k) (o k).name (o k).n) (rmE (D k) (o k).name) (o k)) (μ := fun k => l.length - k) (stT := roT b room l) (stM := fun k => dkM (D k)) (X := jM) (o := fun _ => .ret ()) (S := roS (D l.length)) (fun k => (vcRo_eq b room l (ksF (y k)) (suN (y k) (ksF (y k))) (y k).used D (y k) (apD (D k) (o k).name (o k).b) (rnD (D k) (o k).name (o k).other) (trD (D k) (o k).name (o k).n) (rmD (D k) (o k).name) (apE (D k) (o k).name (o k).b) (rnE (D k) (o k).name (o k).other) (trE (D k) (o k).name (o k).n) (rmE (D k) (o k).name) l.length k).mpr ?_) k
  unfold vcRo vcRo_q6 vcRo_q5 vcRo_q4 vcRo_q3 vcRo_q2 vcRo_q1
  simp only [Int.toNat_natCast]
  refine ⟨fun hk => ?_, fun hk => ?_⟩
  · have hk : k < l.length := by simpa using hk
    have hn := hl.n
    have hD1 : D (k + 1) = y k := by
      show roD room l (min (k + 1) l.length) = roStep (roD room l (min k l.length)) _
      rw [Nat.min_eq_left (by omega), Nat.min_eq_left (by omega)]
      rfl
    obtain ⟨hI, hR⟩ := roD_inv h0 h1 l (min k l.length)
    have hI : DInv (D k) := hI
    have hR : (D k).room = room := hR
    obtain ⟨hJ, hR2⟩ := ro_inv (o := o k) hI
    have hJ : DInv (y k) := hJ
    have hR2 : (y k).room = room := hR2.trans hR
    have hks := ksF_ok hJ
    have hlp := su_loop b room l k (y k) hJ (ksF (y k)) hks 0
    have hn0 : suN (y k) (ksF (y k)) 0 = 0 := by simp [suN, tot]
    have hus := hJ.us
    have hkn : (ksF (y k)).length ≤ 64 := by have := hks.len; have := hJ.n; omega
    have hob : (o k).b.length ≤ 140737488355328 := hl.b _ (by show l.getD k default ∈ l; rw [List.getD_eq_getElem?_getD, List.getElem?_eq_getElem hk]; exact List.getElem_mem _)
    have hroom : ApRoom (D k) (o k).name (o k).b := ⟨fun h0 => by have := ap_room hI h0; omega⟩
    have hw : IntKind.i64.wrap ((k : Int) + 1) = ((k + 1 : Nat) : Int) := by rw [wrap_i64 (by omega) (by omega)]; omega
    have o1 : OpIs (apD (D k) (o k).name (o k).b) (apD (D k) (o k).name (o k).b) (apE (D k) (o k).name (o k).b) (apE (D k) (o k).name (o k).b) := ⟨rfl, rfl⟩
    have o2 : OpIs (rnD (D k) (o k).name (o k).other) (rnD (D k) (o k).name (o k).other) (rnE (D k) (o k).name (o k).other) (rnE (D k) (o k).name (o k).other) := ⟨rfl, rfl⟩
    have o3 : OpIs (trD (D k) (o k).name (o k).n) (trD (D k) (o k).name (o k).n) (trE (D k) (o k).name (o k).n) (trE (D k) (o k).name (o k).n) := ⟨rfl, rfl⟩
    have o4 : OpIs (rmD (D k) (o k).name) (rmD (D k) (o k).name) (rmE (D k) (o k).name) (rmE (D k) (o k).name) := ⟨rfl, rfl⟩
    have hy : y k = if (o k).kind = 0 ∨ (o k).kind = 1 ∨ (o k).kind = 2 then apD (D k) (o k).name (o k).b else if (o k).kind = 3 then rnD (D k) (o k).name (o k).other else if (o k).kind = 4 then trD (D k) (o k).name (o k).n else rmD (D k) (o k).name := rfl
    have hoo : l.getD k default = o k := rfl
    have hex : ∃ j, l.length - j < l.length - k ∧ ((k + 1 : Nat) : Int) = (j : Int) ∧ y k = D j := ⟨k + 1, by omega, rfl, hD1.symm⟩
    simp only [hoo]
    generalize apD (D k) (o k).name (o k).b = y1 at *
    generalize rnD (D k) (o k).name (o k).other = y2 at *
    generalize trD (D k) (o k).name (o k).n = y3 at *
    generalize rmD (D k) (o k).name = y4 at *
    generalize hyy : y k = yy at *
    generalize ksF yy = ks at *
    generalize o k = o at *
    by_cases c0 : o.kind = 0
    · rw [if_pos (.inl c0)] at hy
      subst hy
      simp [c0, hw, hk, hroom, o1, hks, hlp, hn0]
      exact ⟨by omega, fun _ => ⟨by omega, fun _ => ⟨k + 1, by omega, by omega, by rw [hD1]; simp⟩⟩⟩
    by_cases c1 : o.kind = 1
    · rw [if_pos (.inr (.inl c1))] at hy
      subst hy
      simp [c1, hw, hk, hroom, o1, hks, hlp, hn0]
      exact ⟨by omega, fun _ => ⟨by omega, fun _ => ⟨k + 1, by omega, by omega, by rw [hD1]; simp⟩⟩⟩
    by_cases c2 : o.kind = 2
    · rw [if_pos (.inr (.inr c2))] at hy
      subst hy
      simp [c2, hw, hk, hroom, o1, hks, hlp, hn0]
      exact ⟨by omega, fun _ => ⟨by omega, fun _ => ⟨k + 1, by omega, by omega, by rw [hD1]; simp⟩⟩⟩
    rw [if_neg (by simp [c0, c1, c2])] at hy
    by_cases c3 : o.kind = 3
    · rw [if_pos c3] at hy
      subst hy
      simp [c3, hw, hk, hroom, o2, hks, hlp, hn0]
      exact ⟨by omega, fun _ => ⟨by omega, fun _ => ⟨k + 1, by omega, by omega, by rw [hD1]; simp⟩⟩⟩
    rw [if_neg c3] at hy
    by_cases c4 : o.kind = 4
    · rw [if_pos c4] at hy
      subst hy
      simp [c4, hw, hk, hroom, o3, hks, hlp, hn0]
      exact ⟨by omega, fun _ => ⟨by omega, fun _ => ⟨k + 1, by omega, by omega, by rw [hD1]; simp⟩⟩⟩
    rw [if_neg c4] at hy
    subst hy
    simp [c0, c1, c2, c3, c4, hw, hk, hroom, o4, hks, hlp, hn0]
    exact ⟨by omega, fun _ => ⟨by omega, fun _ => ⟨k + 1, by omega, by omega, by rw [hD1]; simp⟩⟩⟩
  · have hk : ¬k < l.length := by simpa using hk
    have e : D k = D l.length := by show roD room l (min k l.length) = roD room l (min l.length l.length); rw [Nat.min_eq_right (by omega), Nat.min_self]
    simp [e]
theorem room_c (b : Bool) (room : Int) (l : List Opn) (hl : OpsOk l) : (boR true).Sat (ACall' Tryz.prog 3 [.y (.int .i64 room), encOps b l] []) := by
  refine ctr_vc (ht := rooH b room l (fun k => roD room l (min k l.length))) Tryz.mixed rfl ?_
  rw [vcRoom_eq b room l (fun k => roD room l (min k l.length))]
  unfold vcRoom
  by_cases hr : room < 0 ∨ 16777216 < room
  · simp [hr]
    omega
  · have h0 : 0 ≤ room := by omega
    have h1 : room ≤ 16777216 := by omega
    have hlp := ro_loop b room l h0 h1 hl 0
    have k0 : roD room l (min 0 l.length) = d0 room := by rw [Nat.zero_min]; rfl
    have hd0 : (d0 room).room = room ∧ (d0 room).used = 0 ∧ (d0 room).down = false ∧ (d0 room).trip = -1 ∧ (d0 room).fail = -1 ∧ (d0 room).n = 0 := ⟨rfl, rfl, rfl, rfl, rfl, rfl⟩
    have hdh : ∀ x, (d0 room).has x = false := fun _ => rfl
    rw [k0] at hlp
    simp only [k0, Nat.min_self] at *
    generalize d0 room = z at *
    simp [hr, hd0, hdh, hlp]
end Go.Proofs.YtfiohpojlgkmkaaGreatDoor.O

namespace Go.Proofs.YtfiohpojlgkmkaaGreatDoor.O
open Go.Ax Go.Shelf Go.RowKit Go.ChangeShapes Go.WideShapes Go.ChangeAt
set_option maxRecDepth 1000000
def toI {K : Type} : DataW K → Int
  | .lit (.int _ a) => a
  | _ => 0
def toS {K : Type} : DataW K → ByteArray
  | .lit (.string l) => ⟨l.toArray⟩
  | _ => ByteArray.empty
theorem encI_ok {K : Type} {k : IntKind} {d : DataW K} (h : (Sh.int k).wf d) : (Sh.int k).enc d = [.y (.int k (toI d))] := by
  obtain ⟨k', n, rfl, _⟩ := h
  rfl
theorem encS_ok {K : Type} {d : DataW K} (h : Sh.str.wf d) : Sh.str.enc d = [.y (.string (toS d))] := by
  obtain ⟨l, rfl, _⟩ := h
  rfl
theorem enc_st {K : Type} (fs : List Sh) (ds : List (DataW K)) : (Sh.st fs).enc (.agg ds) = Sh.encL fs ds := by simp only [Sh.enc]
theorem enc_cons {K : Type} (s : Sh) (r : List Sh) (d : DataW K) (ds : List (DataW K)) : Sh.encL (s :: r) (d :: ds) = s.enc d ++ Sh.encL r ds := by simp only [Sh.encL]
theorem enc_nil {K : Type} (l : List (DataW K)) : Sh.encL [] l = [] := by simp only [Sh.encL]
theorem Tryz.own : ownKnob Tryz.prog.godebug = Option.none := by kernel_rfl
theorem Tryz.laidOut : laidOutB Tryz.prog = true := by kernel_rfl
theorem Tryz.mapsRowed : mapsRowed Tryz.prog = true := by kernel_rfl
theorem Tryz.slicesOk : slicesOk Tryz.prog = true := by kernel_rfl
theorem underBool : Tryz.prog.underlying 4 = some .bool := by kernel_rfl
theorem relB {K : Type} {d : DataW K} (hd : (Sh.sl (.int .u8)).wf d) {H : HH} {E : Env} {v : Value} (h : Rel (slAV (.int .u8) d) H E v) : Rel (encBs true (listOf toI d)) H E v := conv_sl (encA := encB) (fun x hx => encI_ok hx) hd h
theorem relIs {K : Type} {d : DataW K} (hd : (Sh.sl (.int .i64)).wf d) {H : HH} {E : Env} {v : Value} (h : Rel (slAV (.int .i64) d) H E v) : Rel (encIs true (listOf toI d)) H E v := conv_sl (encA := encI) (fun x hx => encI_ok hx) hd h
def structTypes (P : Program) (t : TypeId) : Option (List TypeId) := match P.underlying t with | some (.struct fs) => some (fs.toList.map (·.type)) | _ => Option.none
theorem structTypes_ok {P : Program} {t : TypeId} {l : List TypeId} (h : structTypes P t = some l) : ∃ fs, P.underlying t = some (.struct fs) ∧ fs.toList.map (·.type) = l := by
  unfold structTypes at h
  split at h
  · rename_i fs hu
    exact ⟨fs, hu, Option.some.inj h⟩
  · cases h
theorem weights_elem {K : Type} {P : Program} {e : TypeId} : ∀ {xs : List (DataW K)}, (DataW.weightsAll P e xs).all (· ≤ reachBytes) = true → ∀ x ∈ xs, (x.weights P e).all (· ≤ reachBytes) = true
  | [], _, _, h => by cases h
  | y :: r, h, x, hx => by
    rw [DataW.weightsAll, List.all_append, Bool.and_eq_true] at h
    rcases List.mem_cons.1 hx with rfl | hx
    · exact h.1
    · exact weights_elem h.2 x hx
theorem weights_elems {K : Type} {P : Program} {t u : TypeId} {xs r : List (DataW K)} (hu : P.underlying t = some (.slice u)) (h : ((DataW.slice xs r).weights P t).all (· ≤ reachBytes) = true) : ∀ x ∈ xs, (x.weights P u).all (· ≤ reachBytes) = true := by
  rw [DataW.weights, hu] at h
  simp only [List.all_cons, List.all_append, Bool.and_eq_true] at h
  exact weights_elem h.2.1
theorem undIs : Tryz.prog.underlying 29 = some (.slice 3) := by kernel_rfl
theorem bytesI : Tryz.prog.bytesOf 3 = 8 := by kernel_rfl
theorem is_sized {K : Type} {d : DataW K} (hw : (d.weights Tryz.prog 29).all (· ≤ reachBytes) = true) : (listOf toI d).length * 8 ≤ 140737488351232 := by
  have := weights_slice toI undIs hw
  rwa [bytesI] at this
theorem undBs : Tryz.prog.underlying 28 = some (.slice 5) := by kernel_rfl
theorem bytesB : Tryz.prog.bytesOf 5 = 1 := by kernel_rfl
theorem bs_sized {K : Type} {d : DataW K} (hw : (d.weights Tryz.prog 28).all (· ≤ reachBytes) = true) : (listOf toI d).length ≤ 140737488351232 := by
  have := weights_slice toI undBs hw
  rwa [bytesB, Nat.mul_one] at this
theorem hd_var : Tryz.prog.globalNamed "errors.errorType" = some 0 := by kernel_rfl
theorem hd_row : (Tryz.prog.cutTypes.find? (·.1 == "internal/reflectlite.rtype")).map (·.2) = some 127 := by kernel_rfl
theorem hd_one : ((List.range Tryz.prog.types.size).filter fun t => Tryz.prog.rowNamed t [101, 114, 114, 111, 114]) = [55] := by kernel_rfl
theorem gl_of {laid : List (String × DataW Unit)} {W : World} (hf : (laid.filter fun x => x.2.handleName?.isSome) = [("errors.errorType", Rows.laid_errors_errorType)]) (h : laidMetH Tryz.prog laid W) : GlOk W := by
  unfold laidMetH at h
  rw [hf] at h
  obtain ⟨name, u, ty, e1, e2, e3, e4, e5⟩ := h.2 _ (List.mem_singleton.2 rfl)
  have en : name = [101, 114, 114, 111, 114] := (Option.some.inj e1).symm
  subst en
  obtain rfl := Option.some.inj (hd_row.symm.trans e2)
  have hm : ty ∈ (List.range Tryz.prog.types.size).filter fun t => Tryz.prog.rowNamed t [101, 114, 114, 111, 114] := List.mem_filter.2 ⟨List.mem_range.2 e3, e4⟩
  rw [hd_one] at hm
  obtain rfl := List.mem_singleton.1 hm
  have hc := World.var?_cell hd_var e5 0
  intro p hp
  obtain rfl := List.mem_singleton.1 hp
  exact ⟨by kernel_rfl, hc⟩
noncomputable def hdWorld (os : Os) : World :=
  { World.holding Tryz.prog os ⟨#[], #[], []⟩ with heap := (World.holding Tryz.prog os ⟨#[], #[], []⟩).heap.modify 0 fun
      | .cells _ t frozen => .cells #[.iface 127 (.agg #[typeHandle Tryz.prog 55])] t frozen
      | o => o }
theorem laidMet_lay {P : Program} {w0 : World} {laid : List (String × DataW Unit)} (args : Array Value) (hf : w0.layFits P laid [] = true) (hi : w0.layIfaces P laid (w0.layVars P laid) = true) :
    laidMet P laid ((w0.layVars P laid).forCall (fun _ _ => 0) ⟨#[], args, []⟩).memory := by
  have e1 : (laid.filter fun x => (laid.map (·.1)).contains x.1) = laid := List.filter_eq_self.2 fun x hx => List.contains_iff_mem.2 (List.mem_map.2 ⟨x, hx, rfl⟩)
  have e2 : (laid.filter fun x => !(laid.map (·.1)).contains x.1) = [] := List.filter_eq_nil_iff.2 fun x hx => by rw [List.contains_iff_mem.2 (List.mem_map.2 ⟨x, hx, rfl⟩)]; simp
  have h : laidMet P laid (w0.layVars P laid) := laidMet_layVars (w0 := w0) (laid.map (·.1)) [] (by rw [e1]) (by rw [e1]; exact hf) (by rw [e1]; exact hi) (by rw [e2]; exact LaidIn.none)
  exact h.of_heap (by simp [World.memory, World.forCall, Input.heap])
end Go.Proofs.YtfiohpojlgkmkaaGreatDoor.O

namespace Go.Proofs.YtfiohpojlgkmkaaGreatDoor.O
open Go.Ax Go.Shelf Go.RowKit Go.ChangeShapes Go.WideShapes Go.ChangeAt
set_option maxRecDepth 1000000
def shOp : Sh := .st [.int .i64, .str, .str, .sl (.int .u8), .int .i64, .int .i64, .sl (.int .i64)]
def toOp {K : Type} : DataW K → Opn
  | .agg [a, b, c, d, e, f, g] => ⟨toI a, toS b, toS c, listOf toI d, toI e, toI f, listOf toI g⟩
  | _ => default
theorem op_enc {K : Type} {d : DataW K} (hd : shOp.wf d) : ∃ a1 a2 a3 a4 a5 a6 a7, d = .agg [a1, a2, a3, a4, a5, a6, a7] ∧ (Sh.sl (.int .u8)).wf a4 ∧ (Sh.int .i64).wf a5 ∧ (Sh.int .i64).wf a6 ∧ (Sh.sl (.int .i64)).wf a7 ∧ shOp.enc d = [.y (.int .i64 (toI a1)), .y (.string (toS a2)), .y (.string (toS a3)), slAV (.int .u8) a4, .y (.int .i64 (toI a5)), .y (.int .i64 (toI a6)), slAV (.int .i64) a7] := by
  obtain ⟨ds, rfl, d1, r1, rfl, w1, d2, r2, rfl, w2, d3, r3, rfl, w3, d4, r4, rfl, w4, d5, r5, rfl, w5, d6, r6, rfl, w6, d7, r7, rfl, w7, rfl⟩ := hd
  refine ⟨d1, d2, d3, d4, d5, d6, d7, rfl, w4, w5, w6, w7, ?_⟩
  simp only [shOp, enc_st, enc_cons, enc_nil, encI_ok w1, encS_ok w2, encS_ok w3, encI_ok w5, encI_ok w6, slAV_eq]
  rfl
theorem op_conv {K : Type} {d : DataW K} (hd : shOp.wf d) (j : Nat) (hj : j < 7) (H : HH) (E : Env) (v : Value) (h : Rel (Ax.get (shOp.enc d) j) H E v) : Rel (Ax.get (encOp (toOp d)) j) H E v := by
  obtain ⟨a1, a2, a3, a4, a5, a6, a7, rfl, w4, _, _, w7, he⟩ := op_enc hd
  rw [he] at h
  match j, hj with
  | 0, _ => exact h
  | 1, _ => exact h
  | 2, _ => exact h
  | 3, _ => exact relB w4 h
  | 4, _ => exact h
  | 5, _ => exact h
  | 6, _ => exact relIs w7 h
theorem relOps {K : Type} {d : DataW K} (hd : (Sh.sl shOp).wf d) {H : HH} {E : Env} {v : Value} (h : Rel (slAV shOp d) H E v) : Rel (encOps true (listOf toOp d)) H E v :=
  conv_slR (encA := encOp) (fun x hx j hj H E v => op_conv hx j hj H E v) hd h
theorem undOps : Tryz.prog.underlying 22 = some (.slice 31) := by kernel_rfl
theorem bytesOp : Tryz.prog.bytesOf 31 = 104 := by kernel_rfl
theorem undOp : ∃ fs, Tryz.prog.underlying 31 = some (.struct fs) ∧ fs.toList.map (·.type) = [3, 9, 9, 28, 3, 3, 29] := structTypes_ok (by kernel_rfl)
theorem int_rng {K : Type} {d : DataW K} (h : (Sh.int .i64).wf d) : -9223372036854775808 ≤ toI d ∧ toI d ≤ 9223372036854775807 := by
  obtain ⟨k, n, rfl, w⟩ := h
  have := bounds_i64 w
  show _ ≤ n ∧ n ≤ _
  omega
theorem op_sized {K : Type} {d : DataW K} (hd : shOp.wf d) (hw : (d.weights Tryz.prog 31).all (· ≤ reachBytes) = true) : (toOp d).b.length ≤ 140737488355328 ∧ (toOp d).keep.length ≤ 140737488355328 ∧ (-9223372036854775808 ≤ (toOp d).n ∧ (toOp d).n ≤ 9223372036854775807) ∧ (-9223372036854775808 ≤ (toOp d).at' ∧ (toOp d).at' ≤ 9223372036854775807) := by
  obtain ⟨a1, a2, a3, a4, a5, a6, a7, rfl, w4, w5, w6, w7, _⟩ := op_enc hd
  obtain ⟨fs, hf, ht⟩ := undOp
  have h := weights_struct hf hw
  rw [ht] at h
  obtain ⟨_, h⟩ := weights_cons h
  obtain ⟨_, h⟩ := weights_cons h
  obtain ⟨_, h⟩ := weights_cons h
  obtain ⟨h4, h⟩ := weights_cons h
  obtain ⟨_, h⟩ := weights_cons h
  obtain ⟨_, h⟩ := weights_cons h
  obtain ⟨h7, _⟩ := weights_cons h
  have k4 := bs_sized h4
  have k7 := is_sized h7
  refine ⟨?_, ?_, int_rng w5, int_rng w6⟩
  · show (listOf toI a4).length ≤ _; omega
  · show (listOf toI a7).length ≤ _; omega
theorem ops_all {K : Type} {d : DataW K} (hd : (Sh.sl shOp).wf d) (hw : (d.weights Tryz.prog 22).all (· ≤ reachBytes) = true) : (listOf toOp d).length ≤ 140737488355328 ∧ ∀ o ∈ listOf toOp d, o.b.length ≤ 140737488355328 ∧ o.keep.length ≤ 140737488355328 ∧ (-9223372036854775808 ≤ o.n ∧ o.n ≤ 9223372036854775807) ∧ (-9223372036854775808 ≤ o.at' ∧ o.at' ≤ 9223372036854775807) := by
  have hl := weights_slice toOp undOps hw
  rw [bytesOp] at hl
  refine ⟨by omega, ?_⟩
  rcases hd with rfl | ⟨xs, r, rfl, hx⟩
  · intro y hy; cases hy
  · intro y hy
    obtain ⟨x, hx', rfl⟩ := List.mem_map.1 hy
    exact op_sized (hx x hx') (weights_elems undOps hw x hx')
theorem ops_ok {K : Type} {d : DataW K} (hd : (Sh.sl shOp).wf d) (hw : (d.weights Tryz.prog 22).all (· ≤ reachBytes) = true) : OpsOk (listOf toOp d) :=
  ⟨fun o ho => ((ops_all hd hw).2 o ho).1, (ops_all hd hw).1⟩
def simdiskRoom_laidL : List (String × DataW Unit) := Rows.simdiskRoomRow.laid
noncomputable def simdiskRoom_layW (os : Os) : World := World.layVars Tryz.prog (hdWorld os) (simdiskRoom_laidL.filter fun x => x.2.handleName?.isNone)
theorem simdiskRoom_lay_met (os : Os) (args : Array Value) : laidMetH Tryz.prog simdiskRoom_laidL ((simdiskRoom_layW os).forCall (fun _ _ => 0) ⟨#[], args, []⟩).memory :=
  laidMetH_of_parts (laidMet_lay args (by kernel_rfl) (by kernel_rfl)) (by kernel_rfl)
theorem simdiskRoom_lifted (os : Os) (started : os.Started) (K : Type) (enc : TypeId × Value → K) :
    ReturnsInHanded {} Tryz.checked os 3 .any (fun w args => (Rows.simdiskRoomSpec.pre enc Tryz.prog Tryz.f3 [] false w args ∧ laidMetH Tryz.prog simdiskRoom_laidL w) ∧ sizedMet enc Tryz.prog Tryz.f3 (OpenSpec.ofChange Rows.simdiskRoomSpec) false w args)
      (Rows.simdiskRoomSpec.post enc Tryz.prog Tryz.f3 false true false false) := by
  refine returnsInHanded_of_change_and (C := Tryz.checked) (X := fun w _ => laidMetH Tryz.prog simdiskRoom_laidL w) (fun _ _ _ hh h => h.of_heap hh) Tryz.own started (by kernel_rfl) Tryz.func3
    (ChangeSpec.witness_at (enc := enc) (C := Tryz.checked) (os := os) (X := fun w _ => laidMetH Tryz.prog simdiskRoom_laidL w) false (simdiskRoom_layW os) #[.int .i64 0, .slice Option.none 0 0] 8 rfl (by kernel_rfl) (by kernel_rfl) (by kernel_rfl) (by kernel_rfl) (by kernel_rfl) (simdiskRoom_lay_met os _)) ?_
  intro W base args ds gs before hval0 hW hcnd hsz hL _
  have hps : Tryz.f3.params.toList = [3, 22] := by kernel_rfl
  obtain ⟨p, q, hA, hV, hbef, hfz, hnd⟩ := id hW
  rw [hps] at hA hsz
  have ⟨hr, hwf⟩ := lift_all [.int .i64, .sl shOp] (by kernel_rfl) hA
  obtain ⟨v1, v2, d1, d2, _, _, e1, rfl, _, _, _⟩ := trodAll_two hA
  obtain ⟨_, _, g1, w1, _, _, g2, w2, _⟩ := hwf
  obtain ⟨rfl, q1⟩ := List.cons.inj g1
  subst q1
  obtain ⟨rfl, _⟩ := List.cons.inj g2
  subst e1
  obtain ⟨h1, hs1⟩ := weights_cons (P := Tryz.prog) (t := 3) (d := d1) hsz
  obtain ⟨h2, hs2⟩ := weights_cons (P := Tryz.prog) (t := 22) (d := d2) hs1
  have r1 := hr.1
  rw [encI_ok w1] at r1
  obtain ⟨n1, rfl⟩ := okWide_int (show Tryz.prog.underlying 3 = some (.int .i64) by kernel_rfl) (hval0 0 _ _ (by kernel_rfl) rfl)
  obtain ⟨_, _, er, r1, _⟩ := r1
  cases er
  have r2 := hr.2.1
  rw [slAV_eq] at r2
  obtain ⟨s2, n2, c2, rfl⟩ := okWide_slice undOps (hval0 1 _ _ (by kernel_rfl) rfl)
  obtain ⟨_, _, er, r2, _⟩ := r2
  cases er
  have r2 := relOps w2 r2
  refine open_calls (call_of (room_c _ _ _ (ops_ok w2 h2))) (t := 4) (ds := [d1, d2]) ⟨_, _, rfl, r1, _, _, rfl, r2, rfl⟩ (by kernel_rfl) underBool rfl rfl Tryz.laidOut Tryz.mapsRowed Tryz.slicesOk (by rw [hps]; intro t ht; simp only [List.mem_cons, List.not_mem_nil, or_false] at ht; rcases ht with rfl | rfl <;> exact of_decide_eq_true (by kernel_rfl)) hW (gl_of (by kernel_rfl) hL)
theorem simdiskRoom_holds : Rows.SimdiskRoomSaid :=
  OpenClaim.holds_of_wide 3 Tryz.f3 rfl rfl rfl rfl rfl rfl rfl ⟨rfl, rfl, rfl, rfl, rfl⟩ rfl rfl rfl rfl rfl (by kernel_rfl) Tryz.func3 (by kernel_rfl)
    (of_decide_eq_true (by kernel_rfl)) (by unfold Func.isWrapper; first | (rw [if_pos (by decide +kernel)]; kernel_rfl) | (rw [if_neg (by decide +kernel)]; exact ⟨rfl, rfl⟩))
    (fun os started H enc _ => simdiskRoom_lifted os started H enc)
theorem simdiskRoom_said : Rows.SimdiskRoomCardSaid :=
  Claim7.holds_tied_plain_at .later [] [.data, .handle, .pinned] true (true, "666f4f6281c9ba18f9364d8b6787dc43ba51d30dd35a1590df4be36d639d9552") true
    simdiskRoom_holds (fun _ h => by cases h) (by kernel_rfl) (fun _ h => by cases h) simdiskRoom_row_tie rfl ⟨rfl, rfl⟩ (by kernel_rfl) rfl
    (fun f fn hf hfn => by
      obtain rfl : f = 3 := Option.some.inj ((show Tryz.prog.funcNamed "gazette/gazettelaw02.SimdiskRoom" = some 3 by kernel_rfl).symm.trans hf) |>.symm
      obtain rfl : fn = Tryz.f3 := (Option.some.inj (Tryz.func3.symm.trans hfn)).symm
      exact ⟨by kernel_rfl, fun j t ht => by
        rw [show Tryz.f3.params = #[3, 22] by kernel_rfl] at ht
        have h3 : t = 3 ∨ t = 22 := by
          rcases j with _ | _ | j
          · exact Or.inl (by simpa using ht.symm)
          · exact Or.inr ((by simpa using ht.symm))
          · simp at ht
        rcases h3 with rfl | rfl
        · exact (show Tryz.prog.wantsStandIn 3 = false by kernel_rfl)
        · exact (show Tryz.prog.wantsStandIn 22 = false by kernel_rfl)⟩)
    (by kernel_rfl)
end Go.Proofs.YtfiohpojlgkmkaaGreatDoor.O
namespace Go.Proofs.YtfiohpojlgkmkaaGreatDoor
theorem room_said : Rows.SimdiskRoomCardSaid := O.simdiskRoom_said
end Go.Proofs.YtfiohpojlgkmkaaGreatDoor
