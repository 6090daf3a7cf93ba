import Derived.KernelRfl
import Derived.Test.YtfiohpojlgkmkaaDoorRows
import Derived.Test.YtfiohpojlgkmkaaDoorTie
import Derived.Test.YtfiohpojlgkmkaaDoorCards
import Derived.OpenShut
import Derived.Lay
import Derived.Handed
import Derived.SevenTiedAt
import Derived.LaidHandle
import Derived.Test.YtfiohpojlgkmkaaDoorE12
import Derived.Test.YtfiohpojlgkmkaaDoorW1
set_option linter.unusedVariables false
set_option linter.unusedSimpArgs false
set_option linter.unusedSectionVars false
namespace Go.Proofs.YtfiohpojlgkmkaaDoor.O
open Go.Ax Go.Maps
set_option maxRecDepth 1000000
theorem op_inv {d d1 y : Dsk} {e : Int} (h : DInv d) (h1 : DInv d1) (hy : d.down = false → e = 0 → DInv y) : DInv (opD d e d1 y) := by
  unfold opD
  split
  · exact h
  · rename_i hd
    split
    · exact h1
    · rename_i he
      split
      · exact h1.dn true
      · exact hy (by simpa using hd) (by omega)
theorem apP_0 {d : Dsk} {s : ByteArray} {l : List Int} (h : DInv d) (h0 : apP d s l = 0) : nmd s = true ∧ (d.has s = false → d.n < 64) ∧ (l.length : Int) ≤ d.room - d.used := by
  unfold apP at h0
  split at h0
  · cases h0
  rename_i h1
  split at h0
  · cases h0
  split at h0
  · cases h0
  rename_i h3
  split at h0
  · cases h0
  rename_i h4
  have a1 := h.u0
  have a2 := h.us
  have a3 := h.r1
  have a4 := h.n
  rw [wrap_i64 (by omega) (by omega)] at h4
  refine ⟨by simpa using h1, fun hh => ?_, by omega⟩
  rcases Nat.lt_or_ge d.n 64 with q | q
  · exact q
  · exact absurd ⟨hh, by omega⟩ h3
theorem ap_room {d : Dsk} {s : ByteArray} {l : List Int} (h : DInv d) (h0 : apP d s l = 0) : (d.get s).b.length + l.length ≤ 16777216 := by
  obtain ⟨_, _, h1⟩ := apP_0 h h0
  have a1 := h.us
  have a2 := h.r1
  have a3 := h.u0
  obtain ⟨L, hL⟩ := h.cov
  cases hh : d.has s with
  | true =>
    rw [get_t hh]
    have := hL.le hh
    omega
  | false => rw [get_f hh]; simp; omega
theorem put_has {d : Dsk} {s x : ByteArray} {v : Fil} (h : (d.put s v).has x = true) : x = s ∨ d.has x = true := by
  have h : updBs d.has s x = true := h
  unfold updBs at h
  rw [Bool.or_eq_true, decide_eq_true_eq] at h
  exact h.imp Eq.symm id
theorem put_all {P : ByteArray → Fil → Prop} {d : Dsk} {s : ByteArray} {v : Fil} (h1 : P s v) (h2 : ∀ x, d.has x = true → P x (d.f x)) : ∀ x, (d.put s v).has x = true → P x ((d.put s v).f x) := fun x hx => by
  by_cases e : x = s
  · subst e; simpa [Dsk.put] using h1
  · have : (d.put s v).f x = d.f x := by simp [Dsk.put, e]
    rw [this]
    exact h2 x ((put_has hx).resolve_left e)
theorem apY_inv {d : Dsk} {s : ByteArray} {l : List Int} (h : DInv d) (h0 : apP d s l = 0) : DInv (apY d s l) := by
  obtain ⟨n1, n2, n3⟩ := apP_0 h h0
  have a1 := h.us
  have a2 := h.r1
  have a3 := h.u0
  have hw : IntKind.i64.wrap (d.used + l.length) = d.used + l.length := wrap_i64 (by omega) (by omega)
  have h' := h.fld.tick
  have hsyn : 0 ≤ (d.get s).syn ∧ (d.get s).syn ≤ ((d.get s).b ++ l).length := by
    cases hh : d.has s with
    | true =>
      rw [get_t hh]
      have := h.syn s hh
      rw [List.length_append]
      omega
    | false => rw [get_f hh]; simp
  have hc : ∃ L, Cov (apY d s l) L := by
    obtain ⟨L, hL⟩ := h'.cov
    unfold apY
    rw [hw]
    cases hh : d.has s with
    | true =>
      refine ⟨L, hL.put_t hh ?_⟩
      rw [get_t hh, List.length_append]
      show d.used + (l.length : Int) = d.used - ((d.f s).b.length : Int) + (((d.f s).b.length + l.length : Nat) : Int)
      omega
    | false =>
      refine ⟨s :: L, hL.put_f hh ?_⟩
      rw [get_f hh, List.length_append]
      show d.used + (l.length : Int) = d.used + ((0 + l.length : Nat) : Int)
      omega
  refine ⟨hc, h.r0, h.r1, ?_, ?_, ?_, ?_, h'.fl, h'.tr⟩
  · show IntKind.i64.wrap (d.used + l.length) ≤ d.room
    rw [hw]; omega
  · show (if d.has s then d.n else d.n + 1) ≤ 64
    have := h.n
    cases hh : d.has s with
    | true => simpa using this
    | false => have := n2 hh; simp; omega
  · intro x hx
    rcases put_has (d := d.fld.tick) (v := default) hx with rfl | hx
    · exact n1
    · exact h.nm x hx
  · exact put_all (P := fun _ v => 0 ≤ v.syn ∧ v.syn ≤ v.b.length) (d := d.fld.tick) hsyn h.syn
theorem ap_inv {d : Dsk} {s : ByteArray} {l : List Int} (h : DInv d) : DInv (apD d s l) := by
  refine op_inv h ?_ fun _ h0 => apY_inv h h0
  unfold apQ
  split
  · exact h
  · exact h.fld
theorem fnP_0 {d : Dsk} {s : ByteArray} (h : fnP d s = 0) : d.has s = true := by
  unfold fnP at h
  split at h
  · assumption
  · cases h
theorem putS_inv {d : Dsk} {s : ByteArray} {v : Fil} {u : Int} (h : DInv d) (hs : d.has s = true) (hu : u = d.used - (d.f s).b.length + v.b.length) (hr : u ≤ d.room) (hv : 0 ≤ v.syn ∧ v.syn ≤ v.b.length) : DInv { d.put s v with used := u } := by
  refine ⟨h.cov.imp fun _ hL => hL.put_t hs hu, h.r0, h.r1, hr, ?_, ?_, ?_, h.fl, h.tr⟩
  · show (if d.has s then d.n else d.n + 1) ≤ 64
    rw [if_pos hs]; exact h.n
  · intro x hx
    rcases put_has (d := d) (v := default) hx with rfl | hx
    · exact h.nm _ hs
    · exact h.nm x hx
  · exact put_all (P := fun _ v => 0 ≤ v.syn ∧ v.syn ≤ v.b.length) (d := d) hv h.syn
theorem sy_inv {d : Dsk} {s : ByteArray} (h : DInv d) : DInv (syD d s) := by
  refine op_inv h h fun _ h0 => ?_
  have hs := fnP_0 h0
  have := putS_inv (v := { d.f s with syn := (d.f s).b.length }) (u := d.used) h.tick hs (by show d.used = d.used - ((d.f s).b.length : Int) + ((d.f s).b.length : Int); omega) h.us ⟨by simp, by simp⟩
  exact this
theorem tr_inv {d : Dsk} {s : ByteArray} {n : Int} (h : DInv d) : DInv (trD d s n) := by
  refine op_inv h h fun _ h0 => ?_
  unfold trP at h0
  split at h0
  case isFalse => cases h0
  rename_i hs
  split at h0
  · cases h0
  rename_i hn
  have hf := h.fok s hs
  have a1 := h.us
  have a2 := h.r1
  have a3 := h.u0
  obtain ⟨L, hL⟩ := h.cov
  have a4 := hL.le hs
  have f1 := hf.l
  have f2 := hf.u
  have f3 := hf.m
  have hl : ((d.f s).b.take n.toNat).length = n.toNat := by rw [List.length_take]; omega
  have hw : IntKind.i64.wrap (d.used - IntKind.i64.wrap ((d.f s).b.length - n)) = d.used - ((d.f s).b.length - n) := by
    rw [wrap_i64 (n := ((d.f s).b.length : Int) - n) (by omega) (by omega), wrap_i64 (by omega) (by omega)]
  unfold trY
  rw [hw]
  refine putS_inv h.tick hs ?_ ?_ ⟨?_, ?_⟩
  · show d.used - (((d.f s).b.length : Int) - n) = d.used - ((d.f s).b.length : Int) + _
    simp only [hl]
    omega
  · show d.used - (((d.f s).b.length : Int) - n) ≤ d.room
    omega
  · dsimp only; split <;> omega
  · simp only [hl]; split <;> omega
theorem rn_inv {d : Dsk} {s t : ByteArray} (h : DInv d) : DInv (rnD d s t) := by
  refine op_inv h h fun _ h0 => ?_
  unfold rnP at h0
  split at h0
  case isFalse => cases h0
  rename_i hs
  split at h0
  case isFalse => cases h0
  rename_i ht
  unfold rnY
  split
  · exact h.tick
  rename_i hst
  obtain ⟨L, hL⟩ := h.tick.cov
  have a1 := h.us
  have a2 := h.r1
  have a3 := h.u0
  have c1 := hL.del (s := s) (u := d.used - (d.f s).b.length) hs rfl
  have hsyn : ∀ x, (d.tick.del s).has x = true → 0 ≤ ((d.tick.del s).f x).syn ∧ ((d.tick.del s).f x).syn ≤ ((d.tick.del s).f x).b.length := fun x hx => by
    have hx : delBs d.has s x = true := hx
    unfold delBs at hx
    rw [Bool.and_eq_true] at hx
    exact h.syn x hx.2
  have hnm : ∀ x, (d.tick.del s).has x = true → nmd x = true := fun x hx => by
    have hx : delBs d.has s x = true := hx
    unfold delBs at hx
    rw [Bool.and_eq_true] at hx
    exact h.nm x hx.2
  have hn1 : 1 ≤ d.n := by
    have h1 := hL.len
    have hm := (hL.mem s).1 hs
    have h2 : 0 < L.length := List.length_pos_of_mem hm
    have h3 : d.tick.n = d.n := rfl
    omega
  cases hh : d.has t with
  | true =>
    have hle := hL.le (s := t) hh
    have hle : ((d.f t).b.length : Int) ≤ d.used := hle
    have hdt : delBs d.has s t = true := by simp [delBs, hst, hh]
    have hw : IntKind.i64.wrap (d.used - (d.f t).b.length) = d.used - (d.f t).b.length := wrap_i64 (by omega) (by omega)
    rw [if_pos rfl, hw]
    refine ⟨⟨_, c1.put_t (s := t) (v := d.f s) (u := d.used - (d.f t).b.length) hdt ?_⟩, h.r0, h.r1, ?_, ?_, ?_, ?_, h.fl, h.tick.tr⟩
    · show d.used - ((d.f t).b.length : Int) = d.used - ((d.f s).b.length : Int) - ((d.f t).b.length : Int) + ((d.f s).b.length : Int)
      omega
    · show d.used - ((d.f t).b.length : Int) ≤ d.room
      omega
    · show (if delBs d.has s t then d.n - 1 else d.n - 1 + 1) ≤ 64
      have := h.n
      rw [if_pos hdt]; omega
    · intro x hx
      rcases put_has (d := d.tick.del s) (v := default) hx with rfl | hx
      · exact ht
      · exact hnm x hx
    · exact put_all (P := fun _ v => 0 ≤ v.syn ∧ v.syn ≤ v.b.length) (d := d.tick.del s) (h.syn s hs) hsyn
  | false =>
    have hdt : delBs d.has s t = false := by simp [delBs, hh]
    rw [if_neg (by simp)]
    refine ⟨⟨_, c1.put_f (s := t) (v := d.f s) (u := d.used) hdt ?_⟩, h.r0, h.r1, h.us, ?_, ?_, ?_, h.fl, h.tick.tr⟩
    · show d.used = d.used - ((d.f s).b.length : Int) + ((d.f s).b.length : Int)
      omega
    · show (if delBs d.has s t then d.n - 1 else d.n - 1 + 1) ≤ 64
      have := h.n
      rw [if_neg (by simp [hdt])]; omega
    · intro x hx
      rcases put_has (d := d.tick.del s) (v := default) hx with rfl | hx
      · exact ht
      · exact hnm x hx
    · exact put_all (P := fun _ v => 0 ≤ v.syn ∧ v.syn ≤ v.b.length) (d := d.tick.del s) (h.syn s hs) hsyn
end Go.Proofs.YtfiohpojlgkmkaaDoor.O

namespace Go.Proofs.YtfiohpojlgkmkaaDoor.O
open Go.Ax Go.Maps
set_option maxRecDepth 1000000
structure OpIs (y y' : Dsk) (e e' : Int) : Prop where
  d : y = y'
  n : e = e'
structure ApRoom (d : Dsk) (s : ByteArray) (l : List Int) : Prop where
  r : apP d s l = 0 → (d.get s).b.length + l.length ≤ 140737488355328
theorem apV_c (c : Bool) (d y : Dsk) (s : ByteArray) (l : List Int) (e : Int) (h : ApRoom d s l) (q : OpIs y (apD d s l) e (apE d s l)) : (opR y e).Sat (ACall' Tryd.prog 8 [.ptr 0 0 0 0, .y (.string s), encBs c l] (dkM d)) := by
  rw [q.d, q.n]; exact ap_c d s c l h.r
noncomputable def apV (c : Bool) (d y : Dsk) (s : ByteArray) (l : List Int) (e : Int) : Ctr Tryd.prog := ⟨8, [.ptr 0 0 0 0, .y (.string s), encBs c l], dkM d, .need (ApRoom d s l) (.need (OpIs y (apD d s l) e (apE d s l)) (opR y e)), T.Sat.need fun h => T.Sat.need fun q => apV_c c d y s l e h q⟩
theorem syV_c (d y : Dsk) (s : ByteArray) (e : Int) (q : OpIs y (syD d s) e (syE d s)) : (opR y e).Sat (ACall' Tryd.prog 9 [.ptr 0 0 0 0, .y (.string s)] (dkM d)) := by
  rw [q.d, q.n]; exact sy_c d s
noncomputable def syV (d y : Dsk) (s : ByteArray) (e : Int) : Ctr Tryd.prog := ⟨9, [.ptr 0 0 0 0, .y (.string s)], dkM d, .need (OpIs y (syD d s) e (syE d s)) (opR y e), T.Sat.need fun q => syV_c d y s e q⟩
def sA : ByteArray := ⟨#[97]⟩
noncomputable def lvH (d d1 d2 d3 : Dsk) (e1 e2 e3 : Int) : HintsT Tryd.prog := { withSh (hh _ noLp (cs1 5 1 0 (nwC 10) (cs1 5 4 3 (apV true d d1 sA [120, 121, 122] e1) (cs1 5 5 1 (syV d1 d2 sA e2) (cs1 5 6 3 (apV true d2 d3 sA [117, 118] e3) (cs1 5 7 1 (szC d3 sA) noCs))))) noOp) (sh1 5 4 1 779 (sh1 5 6 1 779 noSh)) with sub := fun _ => true }
def vcLv (d : Dsk) (d1 : Dsk) (d2 : Dsk) (d3 : Dsk) (e1 : Int) (e2 : Int) (e3 : Int) : Prop :=
  ((10 : Int) = (10 : Int) ∧ True) ∧ True ∧ (false = true → false = true ∧ True) ∧ (false = false → (((0 : Nat) = (0 : Nat) ∧ (0 : Nat) = (0 : Nat)) ∧ { data := #[(97 : UInt8)] : ByteArray } = sA ∧ (true = true ∧ (3 : Nat) = (3 : Nat) ∧ contLe (3 : Nat) (1 : Nat) (Ax.rowAt (0 : Nat) fun (k j : Nat) => Ax.get [AV.s (Value.int IntKind.u8 (120 : Int)), AV.s (Value.int IntKind.u8 (121 : Int)), AV.s (Value.int IntKind.u8 (122 : Int))] (k * (1 : Nat) + j)) (cellsOf' encB [(120 : Int), (121 : Int), (122 : Int)])) ∧ True) ∧ ((True ∧ (10 : Int) = d.room ∧ (0 : Int) = d.used ∧ false = d.down ∧ (-1 : Int) = d.trip ∧ (-1 : Int) = d.fail ∧ True) ∧ ((0 : Nat) = d.n ∧ (∀ (x : ByteArray), false = d.has x) ∧ ∀ (x : ByteArray), false = true → ((0 : Nat) = List.length (d.f x).b ∧ contLe (0 : Nat) (1 : Nat) (cellsOf' encB []) (cellsOf' encB (d.f x).b)) ∧ (0 : Int) = (d.f x).syn ∧ True) ∧ True) ∧ ApRoom d sA [(120 : Int), (121 : Int), (122 : Int)] ∧ OpIs d1 (apD d sA [(120 : Int), (121 : Int), (122 : Int)]) e1 (apE d sA [(120 : Int), (121 : Int), (122 : Int)]) ∧ (((0 : Nat) = (0 : Nat) ∧ (0 : Nat) = (0 : Nat)) ∧ { data := #[(97 : UInt8)] : ByteArray } = sA ∧ True) ∧ ((True ∧ d1.room = d1.room ∧ d1.used = d1.used ∧ d1.down = d1.down ∧ d1.trip = d1.trip ∧ d1.fail = d1.fail ∧ True) ∧ (d1.n = d1.n ∧ (∀ (x : ByteArray), d1.has x = d1.has x) ∧ ∀ (x : ByteArray), d1.has x = true → (List.length (d1.f x).b = List.length (d1.f x).b ∧ contLe (List.length (d1.f x).b) (1 : Nat) (cellsOf' encB (d1.f x).b) (cellsOf' encB (d1.f x).b)) ∧ (d1.f x).syn = (d1.f x).syn ∧ True) ∧ True) ∧ OpIs d2 (syD d1 sA) e2 (syE d1 sA) ∧ (((0 : Nat) = (0 : Nat) ∧ (0 : Nat) = (0 : Nat)) ∧ { data := #[(97 : UInt8)] : ByteArray } = sA ∧ (true = true ∧ (2 : Nat) = (2 : Nat) ∧ contLe (2 : Nat) (1 : Nat) (Ax.rowAt (0 : Nat) fun (k j : Nat) => Ax.get [AV.s (Value.int IntKind.u8 (117 : Int)), AV.s (Value.int IntKind.u8 (118 : Int))] (k * (1 : Nat) + j)) (cellsOf' encB [(117 : Int), (118 : Int)])) ∧ True) ∧ ((True ∧ d2.room = d2.room ∧ d2.used = d2.used ∧ d2.down = d2.down ∧ d2.trip = d2.trip ∧ d2.fail = d2.fail ∧ True) ∧ (d2.n = d2.n ∧ (∀ (x : ByteArray), d2.has x = d2.has x) ∧ ∀ (x : ByteArray), d2.has x = true → (List.length (d2.f x).b = List.length (d2.f x).b ∧ contLe (List.length (d2.f x).b) (1 : Nat) (cellsOf' encB (d2.f x).b) (cellsOf' encB (d2.f x).b)) ∧ (d2.f x).syn = (d2.f x).syn ∧ True) ∧ True) ∧ ApRoom d2 sA [(117 : Int), (118 : Int)] ∧ OpIs d3 (apD d2 sA [(117 : Int), (118 : Int)]) e3 (apE d2 sA [(117 : Int), (118 : Int)]) ∧ (((0 : Nat) = (0 : Nat) ∧ (0 : Nat) = (0 : Nat)) ∧ { data := #[(97 : UInt8)] : ByteArray } = sA ∧ True) ∧ ((True ∧ d3.room = d3.room ∧ d3.used = d3.used ∧ d3.down = d3.down ∧ d3.trip = d3.trip ∧ d3.fail = d3.fail ∧ True) ∧ (d3.n = d3.n ∧ (∀ (x : ByteArray), d3.has x = d3.has x) ∧ ∀ (x : ByteArray), d3.has x = true → (List.length (d3.f x).b = List.length (d3.f x).b ∧ contLe (List.length (d3.f x).b) (1 : Nat) (cellsOf' encB (d3.f x).b) (cellsOf' encB (d3.f x).b)) ∧ (d3.f x).syn = (d3.f x).syn ∧ True) ∧ True) ∧ ((e2 == (0 : Int)) = true → (((↑(List.length (Dsk.get d3 sA).b) : Int) == (5 : Int)) = true → (((Dsk.get d3 sA).syn == (3 : Int)) = true → d3.has sA = true ∧ True) ∧ (((Dsk.get d3 sA).syn == (3 : Int)) = false → false = true ∧ True)) ∧ (((↑(List.length (Dsk.get d3 sA).b) : Int) == (5 : Int)) = false → false = true ∧ True)) ∧ ((e2 == (0 : Int)) = false → false = true ∧ True))
theorem vcLv_eq (d : Dsk) (d1 : Dsk) (d2 : Dsk) (d3 : Dsk) (e1 : Int) (e2 : Int) (e3 : Int) : (ctrVC Tryd.prog (lvH d d1 d2 d3 e1 e2 e3) 5 [] [] (boR true)) = vcLv d d1 d2 d3 e1 e2 e3 := by kernel_rfl
end Go.Proofs.YtfiohpojlgkmkaaDoor.O

namespace Go.Proofs.YtfiohpojlgkmkaaDoor.O
open Go.Ax Go.Maps
set_option maxRecDepth 1000000
def lv1 : Dsk := apD (d0 10) sA [120, 121, 122]
def lv2 : Dsk := syD lv1 sA
def lv3 : Dsk := apD lv2 sA [117, 118]
theorem lv_nm : nmd sA = true := by decide
theorem w10 : IntKind.i64.wrap 10 = 10 := by decide
theorem w7 : IntKind.i64.wrap 7 = 7 := by decide
theorem w3 : IntKind.i64.wrap 3 = 3 := by decide
theorem wm2 : IntKind.i64.wrap (-2) = -2 := by decide
theorem mxm2 : mx (-2) = -1 := by decide
theorem d0_f : (d0 10).down = false ∧ (d0 10).trip = -1 ∧ (d0 10).fail = -1 ∧ (d0 10).n = 0 ∧ (d0 10).room = 10 ∧ (d0 10).used = 0 := ⟨rfl, rfl, rfl, rfl, rfl, rfl⟩
theorem d0_h (x : ByteArray) : (d0 10).has x = false := rfl
theorem lv_p1 : apP (d0 10) sA [120, 121, 122] = 0 := by simp [apP, lv_nm, d0_f, d0_h, w10]
theorem lv_1 : lv1 = apY (d0 10) sA [120, 121, 122] := by
  unfold lv1 apD opD
  simp [lv_p1, apQ, lv_nm, d0_f, Dsk.fld]
theorem lv_has1 : lv1.has sA = true := by rw [lv_1]; simp [apY, Dsk.put, updBs]
theorem lv_f1 : lv1.f sA = ⟨[120, 121, 122], 0⟩ := by rw [lv_1]; simp [apY, Dsk.put, Dsk.get, d0]
theorem lv_t1 : lv1.trip = -1 ∧ lv1.down = false ∧ lv1.fail = -1 ∧ lv1.n = 1 ∧ lv1.room = 10 ∧ lv1.used = 3 := by
  rw [lv_1]
  refine ⟨?_, rfl, ?_, rfl, rfl, ?_⟩
  · simp [apY, Dsk.put, Dsk.tick, Dsk.fld, d0_f, wm2, mxm2]
  · simp [apY, Dsk.put, Dsk.tick, Dsk.fld, d0_f, wm2, mxm2]
  · simp [apY, d0_f, w3]
theorem lv_e2 : syE lv1 sA = 0 := by simp [syE, opE, fnP, lv_has1, lv_t1]
theorem lv_2 : lv2 = syY lv1 sA := by simp [lv2, syD, opD, fnP, lv_has1, lv_t1]
theorem lv_f2 : lv2.f sA = ⟨[120, 121, 122], 3⟩ := by rw [lv_2]; simp [syY, Dsk.put, lv_f1]
theorem lv_has2 : lv2.has sA = true := by rw [lv_2]; simp [syY, Dsk.put, updBs]
theorem lv_t2 : lv2.trip = -1 ∧ lv2.down = false ∧ lv2.fail = -1 ∧ lv2.room = 10 ∧ lv2.used = 3 := by
  rw [lv_2]
  refine ⟨?_, lv_t1.2.1, lv_t1.2.2.1, lv_t1.2.2.2.2.1, lv_t1.2.2.2.2.2⟩
  simp [syY, Dsk.put, Dsk.tick, lv_t1, wm2, mxm2]
theorem lv_p3 : apP lv2 sA [117, 118] = 0 := by simp [apP, lv_nm, lv_t2, lv_has2, w7]
theorem lv_3 : lv3 = apY lv2 sA [117, 118] := by simp [lv3, apD, opD, lv_p3, apQ, lv_nm, lv_t2, Dsk.fld]
theorem lv_f3 : lv3.f sA = ⟨[120, 121, 122, 117, 118], 3⟩ := by rw [lv_3]; simp [apY, Dsk.put, get_t lv_has2, lv_f2]
theorem lv_has3 : lv3.has sA = true := by rw [lv_3]; simp [apY, Dsk.put, updBs]
theorem lv_c : (boR true).Sat (ACall' Tryd.prog 5 [] []) := by
  refine ctr_vc (ht := lvH (d0 10) lv1 lv2 lv3 (apE (d0 10) sA [120, 121, 122]) 0 (apE lv2 sA [117, 118])) Tryd.mixed rfl ?_
  rw [vcLv_eq (d0 10) lv1 lv2 lv3]
  unfold vcLv
  have a1 : ApRoom (d0 10) sA [120, 121, 122] := ⟨fun _ => by simp [Dsk.get, d0]⟩
  have a2 : OpIs lv1 (apD (d0 10) sA [120, 121, 122]) (apE (d0 10) sA [120, 121, 122]) (apE (d0 10) sA [120, 121, 122]) := ⟨rfl, rfl⟩
  have a3 : OpIs lv2 (syD lv1 sA) 0 (syE lv1 sA) := ⟨rfl, lv_e2.symm⟩
  have a4 : ApRoom lv2 sA [117, 118] := ⟨fun _ => by rw [get_t lv_has2, lv_f2]; simp⟩
  have a5 : OpIs lv3 (apD lv2 sA [117, 118]) (apE lv2 sA [117, 118]) (apE lv2 sA [117, 118]) := ⟨rfl, rfl⟩
  have h3 := lv_has3
  have f3 := get_t lv_has3
  rw [lv_f3] at f3
  have hs : ({ data := #[97] } : ByteArray) = sA := rfl
  have g1 : (d0 10).room = 10 ∧ (d0 10).used = 0 ∧ (d0 10).down = false ∧ (d0 10).trip = -1 ∧ (d0 10).fail = -1 ∧ (d0 10).n = 0 := ⟨rfl, rfl, rfl, rfl, rfl, rfl⟩
  have g2 : ∀ x, (d0 10).has x = false := fun _ => rfl
  generalize apE (d0 10) sA [120, 121, 122] = e1 at *
  generalize apE lv2 sA [117, 118] = e3 at *
  generalize lv3 = z3 at *
  generalize lv2 = z2 at *
  generalize lv1 = z1 at *
  generalize d0 10 = z0 at *
  simp [hs, a1, a2, a3, a4, a5, h3, f3, g1, g2]
  refine ⟨fun k hk j hj => ?_, fun k hk j hj => ?_⟩
  all_goals
    obtain rfl : j = 0 := by omega
    rcases (by omega : k = 0 ∨ k = 1 ∨ k = 2) with rfl | rfl | rfl <;> first | (exact rfl) | omega
end Go.Proofs.YtfiohpojlgkmkaaDoor.O

namespace Go.Proofs.YtfiohpojlgkmkaaDoor.O
open Go.Ax Go.Maps
set_option maxRecDepth 1000000
structure Wr where
  name : ByteArray
  b : List Int
  sync : Bool
instance : Inhabited Wr := ⟨⟨ByteArray.empty, [], false⟩⟩
def encW (w : Wr) : List AV := [.y (.string w.name), encBs true w.b, .y (.bool w.sync)]
def encWs (b : Bool) (l : List Wr) : AV := .ys b 3 l.length (cellsOf' encW l)
noncomputable def lvC : Ctr Tryd.prog := ⟨5, [], [], boR true, lv_c⟩
def str (l : List Int) : ByteArray := strN l.length (cellsOf' encB l)
structure KS where
  d : Dsk
  ns : List ByteArray
  bs : List ByteArray
  ys : List Int
def fi (ns : List ByteArray) (s : ByteArray) (k : Nat) : Nat := k + (ns.drop k).findIdx fun x => x.data.toList == s.data.toList
def KS.more (K : KS) (s : ByteArray) : KS := ⟨K.d, K.ns ++ [s], K.bs ++ [ByteArray.empty], K.ys ++ [0]⟩
def kq (K : KS) (s : ByteArray) (q : Nat) : KS := if q = K.ns.length then K.more s else K
def kb2 (K : KS) (w : Wr) (q : Nat) : List ByteArray := (kq K w.name q).bs.set q ((kq K w.name q).bs.getD q default ++ str w.b)
end Go.Proofs.YtfiohpojlgkmkaaDoor.O

namespace Go.Proofs.YtfiohpojlgkmkaaDoor.O
open Go.Ax Go.Maps
set_option maxRecDepth 1000000
def u8 (x : Int) : UInt8 := UInt8.ofNat x.toNat
def keStep (K : KS) (w : Wr) : KS :=
  let y1 := apD K.d w.name w.b
  if apE K.d w.name w.b ≠ 0 then ⟨y1, K.ns, K.bs, K.ys⟩
  else
    let q := fi K.ns w.name 0
    let K' := kq K w.name q
    let bs := kb2 K w q
    if w.sync then
      (if syE y1 w.name = 0 then ⟨syD y1 w.name, K'.ns, bs, K'.ys.set q (bs.getD q default).size⟩ else ⟨syD y1 w.name, K'.ns, bs, K'.ys⟩)
    else ⟨y1, K'.ns, bs, K'.ys⟩
structure KInv (K : KS) : Prop where
  d : DInv K.d
  nb : K.bs.length = K.ns.length
  ny : K.ys.length = K.ns.length
  nd : K.ns.Nodup
  mem : ∀ x, K.d.has x = true ↔ x ∈ K.ns
  b : ∀ j, j < K.ns.length → K.bs.getD j default = str (K.d.f (K.ns.getD j default)).b
  y : ∀ j, j < K.ns.length → K.ys.getD j 0 = (K.d.f (K.ns.getD j default)).syn
end Go.Proofs.YtfiohpojlgkmkaaDoor.O

namespace Go.Proofs.YtfiohpojlgkmkaaDoor.O
open Go.Ax Go.Maps
set_option maxRecDepth 1000000
theorem strN_eq (l : List Int) : strN l.length (cellsOf' encB l) = str l := rfl
theorem KInv.len {K : KS} (h : KInv K) : K.ns.length ≤ 64 := by
  obtain ⟨L, hL⟩ := h.d.cov
  have hp : K.ns.Perm L := (List.perm_ext_iff_of_nodup h.nd hL.nd).2 fun x => by rw [← h.mem x, hL.mem x]
  rw [hp.length_eq, hL.len]
  exact h.d.n
def kes (trip : Int) (l : List Wr) (k : Nat) : KS := (l.take k).foldl keStep ⟨{ d0 65536 with trip := mx trip }, [], [], []⟩
end Go.Proofs.YtfiohpojlgkmkaaDoor.O

namespace Go.Proofs.YtfiohpojlgkmkaaDoor.O
open Go.Ax Go.Maps
set_option maxRecDepth 1000000
def kx (trip : Int) (l : List Wr) (k : Nat) : KS := kes trip l (min k l.length)
structure WrsOk (l : List Wr) : Prop where
  b : ∀ w ∈ l, w.b.length ≤ 140737488355328
  n : l.length ≤ 140737488355328
end Go.Proofs.YtfiohpojlgkmkaaDoor.O

namespace Go.Proofs.YtfiohpojlgkmkaaDoor.O
open Go.Ax Go.Maps
set_option maxRecDepth 1000000
end Go.Proofs.YtfiohpojlgkmkaaDoor.O

namespace Go.Proofs.YtfiohpojlgkmkaaDoor.O
open Go.Ax Go.Maps
set_option maxRecDepth 1000000
theorem rnV_c (d y : Dsk) (s t : ByteArray) (e : Int) (q : OpIs y (rnD d s t) e (rnE d s t)) : (opR y e).Sat (ACall' Tryd.prog 15 [.ptr 0 0 0 0, .y (.string s), .y (.string t)] (dkM d)) := by
  rw [q.d, q.n]; exact rn_c d s t
noncomputable def rnV (d y : Dsk) (s t : ByteArray) (e : Int) : Ctr Tryd.prog := ⟨15, [.ptr 0 0 0 0, .y (.string s), .y (.string t)], dkM d, .need (OpIs y (rnD d s t) e (rnE d s t)) (opR y e), T.Sat.need fun q => rnV_c d y s t e q⟩
theorem trV_c (d y : Dsk) (s : ByteArray) (n : Int) (e : Int) (q : OpIs y (trD d s n) e (trE d s n)) : (opR y e).Sat (ACall' Tryd.prog 16 [.ptr 0 0 0 0, .y (.string s), .y (.int .i64 n)] (dkM d)) := by
  rw [q.d, q.n]; exact tr_c d s n
noncomputable def trV (d y : Dsk) (s : ByteArray) (n : Int) (e : Int) : Ctr Tryd.prog := ⟨16, [.ptr 0 0 0 0, .y (.string s), .y (.int .i64 n)], dkM d, .need (OpIs y (trD d s n) e (trE d s n)) (opR y e), T.Sat.need fun q => trV_c d y s n e q⟩
def baT (b c : Bool) (l : List Wr) (bb : List Int) (k : Nat) : List AV := mkT 209 [(0, encWs b l), (1, encBs c bb), (6, .ptr 0 0 0 0), (8, .y (.int .i64 k))]
def baS (c : Bool) (bb : List Int) (d : Dsk) (_ : Unit) : Exit × List AV × List Blk := (.exit 0, mkT 209 [(1, encBs c bb), (6, .ptr 0 0 0 0)], dkM d)
noncomputable def baLH (d y1 y2 : Dsk) (e1 e2 : Int) (w : Wr) : HintsT Tryd.prog := { hh _ noLp (cs1 4 8 11 (apV true d y1 w.name w.b e1) (cs1 4 10 6 (syV y1 y2 w.name e2) noCs)) noOp with sub := fun _ => true }
def vcBaL (b : Bool) (c : Bool) (l : List Wr) (bb : List Int) (D : Nat → Dsk) (y1 : Dsk) (y2 : Dsk) (e1 : Int) (e2 : Int) (n : Nat) (k : Nat) : Prop :=
  (decide ((↑k : Int) < (↑(List.length l) : Int)) = true → (true && decide ((↑k : Int) < (↑(List.length l) : Int))) = true ∧ (true && decide ((↑k : Int) < (↑(List.length l) : Int))) = true ∧ (((0 : Nat) = (0 : Nat) ∧ (0 : Nat) = (0 : Nat)) ∧ (List.getD l (Int.toNat (↑k : Int)) (@default Wr instInhabitedWr)).name = (List.getD l k (@default Wr instInhabitedWr)).name ∧ (true = true ∧ List.length (List.getD l (Int.toNat (↑k : Int)) (@default Wr instInhabitedWr)).b = List.length (List.getD l k (@default Wr instInhabitedWr)).b ∧ contLe (List.length (List.getD l (Int.toNat (↑k : Int)) (@default Wr instInhabitedWr)).b) (1 : Nat) (cellsOf' encB (List.getD l (Int.toNat (↑k : Int)) (@default Wr instInhabitedWr)).b) (cellsOf' encB (List.getD l k (@default Wr instInhabitedWr)).b)) ∧ True) ∧ ((True ∧ (D k).room = (D k).room ∧ (D k).used = (D k).used ∧ (D k).down = (D k).down ∧ (D k).trip = (D k).trip ∧ (D k).fail = (D k).fail ∧ True) ∧ ((D k).n = (D k).n ∧ (∀ (x : ByteArray), (D k).has x = (D k).has x) ∧ ∀ (x : ByteArray), (D k).has x = true → (List.length ((D k).f x).b = List.length ((D k).f x).b ∧ contLe (List.length ((D k).f x).b) (1 : Nat) (cellsOf' encB ((D k).f x).b) (cellsOf' encB ((D k).f x).b)) ∧ ((D k).f x).syn = ((D k).f x).syn ∧ True) ∧ True) ∧ ApRoom (D k) (List.getD l k (@default Wr instInhabitedWr)).name (List.getD l k (@default Wr instInhabitedWr)).b ∧ OpIs y1 (apD (D k) (List.getD l k (@default Wr instInhabitedWr)).name (List.getD l k (@default Wr instInhabitedWr)).b) e1 (apE (D k) (List.getD l k (@default Wr instInhabitedWr)).name (List.getD l k (@default Wr instInhabitedWr)).b) ∧ ((e1 == (0 : Int)) = true → (true && decide ((↑k : Int) < (↑(List.length l) : Int))) = true ∧ ((List.getD l (Int.toNat (↑k : Int)) (@default Wr instInhabitedWr)).sync = true → (true && decide ((↑k : Int) < (↑(List.length l) : Int))) = true ∧ (((0 : Nat) = (0 : Nat) ∧ (0 : Nat) = (0 : Nat)) ∧ (List.getD l (Int.toNat (↑k : Int)) (@default Wr instInhabitedWr)).name = (List.getD l k (@default Wr instInhabitedWr)).name ∧ True) ∧ ((True ∧ y1.room = y1.room ∧ y1.used = y1.used ∧ y1.down = y1.down ∧ y1.trip = y1.trip ∧ y1.fail = y1.fail ∧ True) ∧ (y1.n = y1.n ∧ (∀ (x : ByteArray), y1.has x = y1.has x) ∧ ∀ (x : ByteArray), y1.has x = true → (List.length (y1.f x).b = List.length (y1.f x).b ∧ contLe (List.length (y1.f x).b) (1 : Nat) (cellsOf' encB (y1.f x).b) (cellsOf' encB (y1.f x).b)) ∧ (y1.f x).syn = (y1.f x).syn ∧ True) ∧ True) ∧ OpIs y2 (syD y1 (List.getD l k (@default Wr instInhabitedWr)).name) e2 (syE y1 (List.getD l k (@default Wr instInhabitedWr)).name) ∧ ∃ (j : Nat), List.length l - j < List.length l - k ∧ (((b = b ∧ List.length l = List.length l ∧ contLe (List.length l) (3 : Nat) (cellsOf' encW l) (cellsOf' encW l)) ∧ (c = c ∧ List.length bb = List.length bb ∧ contLe (List.length bb) (1 : Nat) (cellsOf' encB bb) (cellsOf' encB bb)) ∧ ((0 : Nat) = (0 : Nat) ∧ (0 : Nat) = (0 : Nat)) ∧ IntKind.wrap IntKind.i64 ((↑k : Int) + (1 : Int)) = (↑j : Int) ∧ True) ∧ ((True ∧ y2.room = (D j).room ∧ y2.used = (D j).used ∧ y2.down = (D j).down ∧ y2.trip = (D j).trip ∧ y2.fail = (D j).fail ∧ True) ∧ (y2.n = (D j).n ∧ (∀ (x : ByteArray), y2.has x = (D j).has x) ∧ ∀ (x : ByteArray), y2.has x = true → (List.length (y2.f x).b = List.length ((D j).f x).b ∧ contLe (List.length (y2.f x).b) (1 : Nat) (cellsOf' encB (y2.f x).b) (cellsOf' encB ((D j).f x).b)) ∧ (y2.f x).syn = ((D j).f x).syn ∧ True) ∧ True) ∧ true = true) ∧ true = true ∧ () = ()) ∧ ((List.getD l (Int.toNat (↑k : Int)) (@default Wr instInhabitedWr)).sync = false → ∃ (j : Nat), List.length l - j < List.length l - k ∧ (((b = b ∧ List.length l = List.length l ∧ contLe (List.length l) (3 : Nat) (cellsOf' encW l) (cellsOf' encW l)) ∧ (c = c ∧ List.length bb = List.length bb ∧ contLe (List.length bb) (1 : Nat) (cellsOf' encB bb) (cellsOf' encB bb)) ∧ ((0 : Nat) = (0 : Nat) ∧ (0 : Nat) = (0 : Nat)) ∧ IntKind.wrap IntKind.i64 ((↑k : Int) + (1 : Int)) = (↑j : Int) ∧ True) ∧ ((True ∧ y1.room = (D j).room ∧ y1.used = (D j).used ∧ y1.down = (D j).down ∧ y1.trip = (D j).trip ∧ y1.fail = (D j).fail ∧ True) ∧ (y1.n = (D j).n ∧ (∀ (x : ByteArray), y1.has x = (D j).has x) ∧ ∀ (x : ByteArray), y1.has x = true → (List.length (y1.f x).b = List.length ((D j).f x).b ∧ contLe (List.length (y1.f x).b) (1 : Nat) (cellsOf' encB (y1.f x).b) (cellsOf' encB ((D j).f x).b)) ∧ (y1.f x).syn = ((D j).f x).syn ∧ True) ∧ True) ∧ true = true) ∧ true = true ∧ () = ())) ∧ ((e1 == (0 : Int)) = false → ∃ (j : Nat), List.length l - j < List.length l - k ∧ (((b = b ∧ List.length l = List.length l ∧ contLe (List.length l) (3 : Nat) (cellsOf' encW l) (cellsOf' encW l)) ∧ (c = c ∧ List.length bb = List.length bb ∧ contLe (List.length bb) (1 : Nat) (cellsOf' encB bb) (cellsOf' encB bb)) ∧ ((0 : Nat) = (0 : Nat) ∧ (0 : Nat) = (0 : Nat)) ∧ IntKind.wrap IntKind.i64 ((↑k : Int) + (1 : Int)) = (↑j : Int) ∧ True) ∧ ((True ∧ y1.room = (D j).room ∧ y1.used = (D j).used ∧ y1.down = (D j).down ∧ y1.trip = (D j).trip ∧ y1.fail = (D j).fail ∧ True) ∧ (y1.n = (D j).n ∧ (∀ (x : ByteArray), y1.has x = (D j).has x) ∧ ∀ (x : ByteArray), y1.has x = true → (List.length (y1.f x).b = List.length ((D j).f x).b ∧ contLe (List.length (y1.f x).b) (1 : Nat) (cellsOf' encB (y1.f x).b) (cellsOf' encB ((D j).f x).b)) ∧ (y1.f x).syn = ((D j).f x).syn ∧ True) ∧ True) ∧ true = true) ∧ true = true ∧ () = ())) ∧ (decide ((↑k : Int) < (↑(List.length l) : Int)) = false → ((c = c ∧ List.length bb = List.length bb ∧ contLe (List.length bb) (1 : Nat) (cellsOf' encB bb) (cellsOf' encB bb)) ∧ ((0 : Nat) = (0 : Nat) ∧ (0 : Nat) = (0 : Nat)) ∧ True) ∧ ((True ∧ (D k).room = (D n).room ∧ (D k).used = (D n).used ∧ (D k).down = (D n).down ∧ (D k).trip = (D n).trip ∧ (D k).fail = (D n).fail ∧ True) ∧ ((D k).n = (D n).n ∧ (∀ (x : ByteArray), (D k).has x = (D n).has x) ∧ ∀ (x : ByteArray), (D k).has x = true → (List.length ((D k).f x).b = List.length ((D n).f x).b ∧ contLe (List.length ((D k).f x).b) (1 : Nat) (cellsOf' encB ((D k).f x).b) (cellsOf' encB ((D n).f x).b)) ∧ ((D k).f x).syn = ((D n).f x).syn ∧ True) ∧ True) ∧ true = true)
theorem vcBaL_eq (b : Bool) (c : Bool) (l : List Wr) (bb : List Int) (D : Nat → Dsk) (y1 : Dsk) (y2 : Dsk) (e1 : Int) (e2 : Int) (n : Nat) (k : Nat) : (loopVC Tryd.prog (baLH (D k) y1 y2 e1 e2 (l.getD k default)) 4 6 (fun k => l.length - k) (baT b c l bb) (fun k => dkM (D k)) jM (fun _ => .ret ()) (baS c bb (D n)) k) = vcBaL b c l bb D y1 y2 e1 e2 n k := by kernel_rfl
def btL (c : Bool) (bb : List Int) (ks : List ByteArray) (k : Nat) : List (Nat × AV) := [(1, encBs c bb), (6, .ptr 0 0 0 0), (10, encSs true ks), (11, .y (.int .i64 k))]
def btT (c : Bool) (bb : List Int) (ks : List ByteArray) (k : Nat) (q : Nat → Bool) (j : Nat) : List AV := mkT 209 (btL c bb ks k ++ [(12, .y (.bool (q j))), (13, .y (.int .i64 j))])
def btS (c : Bool) (bb : List Int) (ks : List ByteArray) (k : Nat) (d : Dsk) (r : Bool) (_ : Unit) : Exit × List AV × List Blk := (.exit 4, mkT 209 (btL c bb ks k ++ [(12, .y (.bool r))]), dkM d)
def vcBt (c : Bool) (bb : List Int) (ks : List ByteArray) (k : Nat) (d : Dsk) (q : Nat → Bool) (r : Bool) (j : Nat) : Prop :=
  (decide ((↑j : Int) < (↑(List.length ks) : Int)) = true → (q j = true → ∃ (j_1 : Nat), List.length ks - j_1 < List.length ks - j ∧ (((c = c ∧ List.length bb = List.length bb ∧ contLe (List.length bb) (1 : Nat) (cellsOf' encB bb) (cellsOf' encB bb)) ∧ ((0 : Nat) = (0 : Nat) ∧ (0 : Nat) = (0 : Nat)) ∧ (true = true ∧ List.length ks = List.length ks ∧ contLe (List.length ks) (1 : Nat) (cellsOf' encS ks) (cellsOf' encS ks)) ∧ (↑k : Int) = (↑k : Int) ∧ true = q j_1 ∧ IntKind.wrap IntKind.i64 ((↑j : Int) + (1 : Int)) = (↑j_1 : Int) ∧ True) ∧ ((True ∧ d.room = d.room ∧ d.used = d.used ∧ d.down = d.down ∧ d.trip = d.trip ∧ d.fail = d.fail ∧ True) ∧ (d.n = d.n ∧ (∀ (x : ByteArray), d.has x = d.has x) ∧ ∀ (x : ByteArray), d.has x = true → (List.length (d.f x).b = List.length (d.f x).b ∧ contLe (List.length (d.f x).b) (1 : Nat) (cellsOf' encB (d.f x).b) (cellsOf' encB (d.f x).b)) ∧ (d.f x).syn = (d.f x).syn ∧ True) ∧ True) ∧ true = true) ∧ true = true ∧ () = ()) ∧ (q j = false → (true && decide ((↑j : Int) < (↑(List.length ks) : Int))) = true ∧ ∃ (j_1 : Nat), List.length ks - j_1 < List.length ks - j ∧ (((c = c ∧ List.length bb = List.length bb ∧ contLe (List.length bb) (1 : Nat) (cellsOf' encB bb) (cellsOf' encB bb)) ∧ ((0 : Nat) = (0 : Nat) ∧ (0 : Nat) = (0 : Nat)) ∧ (true = true ∧ List.length ks = List.length ks ∧ contLe (List.length ks) (1 : Nat) (cellsOf' encS ks) (cellsOf' encS ks)) ∧ (↑k : Int) = (↑k : Int) ∧ ((List.getD ks (Int.toNat (↑j : Int)) (@default ByteArray ByteArray.instInhabited)).data.toList == [(111 : UInt8), (116 : UInt8), (104 : UInt8), (101 : UInt8), (114 : UInt8), (46 : UInt8), (48 : UInt8)]) = q j_1 ∧ IntKind.wrap IntKind.i64 ((↑j : Int) + (1 : Int)) = (↑j_1 : Int) ∧ True) ∧ ((True ∧ d.room = d.room ∧ d.used = d.used ∧ d.down = d.down ∧ d.trip = d.trip ∧ d.fail = d.fail ∧ True) ∧ (d.n = d.n ∧ (∀ (x : ByteArray), d.has x = d.has x) ∧ ∀ (x : ByteArray), d.has x = true → (List.length (d.f x).b = List.length (d.f x).b ∧ contLe (List.length (d.f x).b) (1 : Nat) (cellsOf' encB (d.f x).b) (cellsOf' encB (d.f x).b)) ∧ (d.f x).syn = (d.f x).syn ∧ True) ∧ True) ∧ true = true) ∧ true = true ∧ () = ())) ∧ (decide ((↑j : Int) < (↑(List.length ks) : Int)) = false → ((c = c ∧ List.length bb = List.length bb ∧ contLe (List.length bb) (1 : Nat) (cellsOf' encB bb) (cellsOf' encB bb)) ∧ ((0 : Nat) = (0 : Nat) ∧ (0 : Nat) = (0 : Nat)) ∧ (true = true ∧ List.length ks = List.length ks ∧ contLe (List.length ks) (1 : Nat) (cellsOf' encS ks) (cellsOf' encS ks)) ∧ (↑k : Int) = (↑k : Int) ∧ q j = r ∧ True) ∧ ((True ∧ d.room = d.room ∧ d.used = d.used ∧ d.down = d.down ∧ d.trip = d.trip ∧ d.fail = d.fail ∧ True) ∧ (d.n = d.n ∧ (∀ (x : ByteArray), d.has x = d.has x) ∧ ∀ (x : ByteArray), d.has x = true → (List.length (d.f x).b = List.length (d.f x).b ∧ contLe (List.length (d.f x).b) (1 : Nat) (cellsOf' encB (d.f x).b) (cellsOf' encB (d.f x).b)) ∧ (d.f x).syn = (d.f x).syn ∧ True) ∧ True) ∧ true = true)
theorem vcBt_eq (c : Bool) (bb : List Int) (ks : List ByteArray) (k : Nat) (d : Dsk) (q : Nat → Bool) (r : Bool) (j : Nat) : (loopVC Tryd.prog (hT _) 4 17 (fun j => ks.length - j) (btT c bb ks k q) (fun _ => dkM d) jM (fun _ => .ret ()) (btS c bb ks k d r) j) = vcBt c bb ks k d q r j := by kernel_rfl
def sO : ByteArray := ⟨#[111, 116, 104, 101, 114, 46, 48]⟩
def bnT (c : Bool) (bb : List Int) (ks : List ByteArray) (k : Nat) : List AV := mkT 209 (btL c bb ks k)
def bnS (ks : List ByteArray) (d : Dsk) (_ : Unit) : Exit × List AV × List Blk := (.exit 2, mkT 209 [(6, .ptr 0 0 0 0), (10, encSs true ks)], dkM d)
noncomputable def bnH (c : Bool) (bb : List Int) (ks : List ByteArray) (k : Nat) (q : Nat → Bool) (r : Bool) (d y1 y2 y3 y4 : Dsk) (e1 e2 e3 e4 : Int) (s : ByteArray) : HintsT Tryd.prog := { hh _ (lp1 4 17 (jobOf (btT c bb ks k q) (fun _ => dkM d) jM (fun _ => .ret ()) (btS c bb ks k d r) 0) noLp) (cs1 4 20 5 (szC d s) (cs1 4 21 6 (rdC d s 0 (d.get s).b.length) (cs1 4 23 5 (rnV d y1 s sO e1) (cs1 4 24 5 (rnV y1 y2 sO s e2) (cs1 4 25 6 (apV c y2 y3 s bb e3) (cs1 4 26 6 (trV y3 y4 s (d.get s).b.length e4) (cs1 4 27 5 (szC y4 s) (cs1 4 28 6 (rdC y4 s 0 (y4.get s).b.length) noCs)))))))) noOp with sub := fun _ => true }
def vcBn_q1 (c : Bool) (bb : List Int) (ks : List ByteArray) (D : Nat → Dsk) (y4 : Dsk) (e4 : Int) (n : Nat) (k : Nat) : Prop := ((e4 != (0 : Int)) = false → ((!y4.has (List.getD ks k (@default ByteArray ByteArray.instInhabited))) = true → False) ∧ ((!y4.has (List.getD ks k (@default ByteArray ByteArray.instInhabited))) = false → (((↑(List.length (Dsk.get y4 (List.getD ks k (@default ByteArray ByteArray.instInhabited))).b) : Int) != (↑(List.length (Dsk.get (D k) (List.getD ks k (@default ByteArray ByteArray.instInhabited))).b) : Int)) = true → False) ∧ (((↑(List.length (Dsk.get y4 (List.getD ks k (@default ByteArray ByteArray.instInhabited))).b) : Int) != (↑(List.length (Dsk.get (D k) (List.getD ks k (@default ByteArray ByteArray.instInhabited))).b) : Int)) = false → (((Dsk.get y4 (List.getD ks k (@default ByteArray ByteArray.instInhabited))).syn != (Dsk.get (D k) (List.getD ks k (@default ByteArray ByteArray.instInhabited))).syn) = true → False) ∧ (((Dsk.get y4 (List.getD ks k (@default ByteArray ByteArray.instInhabited))).syn != (Dsk.get (D k) (List.getD ks k (@default ByteArray ByteArray.instInhabited))).syn) = false → (∀ (k_1 : Nat), k_1 < List.length (rdL y4 (List.getD ks k (@default ByteArray ByteArray.instInhabited)) (0 : Int) (↑(List.length (Dsk.get y4 (List.getD ks k (@default ByteArray ByteArray.instInhabited))).b) : Int)) → true = true) ∧ (∀ (k_1 : Nat), k_1 < List.length (rdL (D k) (List.getD ks k (@default ByteArray ByteArray.instInhabited)) (0 : Int) (↑(List.length (Dsk.get (D k) (List.getD ks k (@default ByteArray ByteArray.instInhabited))).b) : Int)) → true = true) ∧ ((!List.map (fun (a : AV) => match match a with | AV.s (Value.int IntKind.u8 n) => some n | AV.y (Value.int IntKind.u8 n) => some n | x => none with | some n => UInt8.ofNat (Int.toNat n) | none => (0 : UInt8)) (List.map (fun (k_1 : Nat) => AV.y (Value.int IntKind.u8 (List.getD (rdL y4 (List.getD ks k (@default ByteArray ByteArray.instInhabited)) (0 : Int) (↑(List.length (Dsk.get y4 (List.getD ks k (@default ByteArray ByteArray.instInhabited))).b) : Int)) k_1 (0 : Int)))) (List.range (List.length (rdL y4 (List.getD ks k (@default ByteArray ByteArray.instInhabited)) (0 : Int) (↑(List.length (Dsk.get y4 (List.getD ks k (@default ByteArray ByteArray.instInhabited))).b) : Int))))) == List.map (fun (a : AV) => match match a with | AV.s (Value.int IntKind.u8 n) => some n | AV.y (Value.int IntKind.u8 n) => some n | x => none with | some n => UInt8.ofNat (Int.toNat n) | none => (0 : UInt8)) (List.map (fun (k_1 : Nat) => AV.y (Value.int IntKind.u8 (List.getD (rdL (D k) (List.getD ks k (@default ByteArray ByteArray.instInhabited)) (0 : Int) (↑(List.length (Dsk.get (D k) (List.getD ks k (@default ByteArray ByteArray.instInhabited))).b) : Int)) k_1 (0 : Int)))) (List.range (List.length (rdL (D k) (List.getD ks k (@default ByteArray ByteArray.instInhabited)) (0 : Int) (↑(List.length (Dsk.get (D k) (List.getD ks k (@default ByteArray ByteArray.instInhabited))).b) : Int)))))) = true → False) ∧ ((!List.map (fun (a : AV) => match match a with | AV.s (Value.int IntKind.u8 n) => some n | AV.y (Value.int IntKind.u8 n) => some n | x => none with | some n => UInt8.ofNat (Int.toNat n) | none => (0 : UInt8)) (List.map (fun (k_1 : Nat) => AV.y (Value.int IntKind.u8 (List.getD (rdL y4 (List.getD ks k (@default ByteArray ByteArray.instInhabited)) (0 : Int) (↑(List.length (Dsk.get y4 (List.getD ks k (@default ByteArray ByteArray.instInhabited))).b) : Int)) k_1 (0 : Int)))) (List.range (List.length (rdL y4 (List.getD ks k (@default ByteArray ByteArray.instInhabited)) (0 : Int) (↑(List.length (Dsk.get y4 (List.getD ks k (@default ByteArray ByteArray.instInhabited))).b) : Int))))) == List.map (fun (a : AV) => match match a with | AV.s (Value.int IntKind.u8 n) => some n | AV.y (Value.int IntKind.u8 n) => some n | x => none with | some n => UInt8.ofNat (Int.toNat n) | none => (0 : UInt8)) (List.map (fun (k_1 : Nat) => AV.y (Value.int IntKind.u8 (List.getD (rdL (D k) (List.getD ks k (@default ByteArray ByteArray.instInhabited)) (0 : Int) (↑(List.length (Dsk.get (D k) (List.getD ks k (@default ByteArray ByteArray.instInhabited))).b) : Int)) k_1 (0 : Int)))) (List.range (List.length (rdL (D k) (List.getD ks k (@default ByteArray ByteArray.instInhabited)) (0 : Int) (↑(List.length (Dsk.get (D k) (List.getD ks k (@default ByteArray ByteArray.instInhabited))).b) : Int)))))) = false → ∃ (j : Nat), List.length ks - j < List.length ks - k ∧ (((c = c ∧ List.length bb = List.length bb ∧ contLe (List.length bb) (1 : Nat) (cellsOf' encB bb) (cellsOf' encB bb)) ∧ ((0 : Nat) = (0 : Nat) ∧ (0 : Nat) = (0 : Nat)) ∧ (true = true ∧ List.length ks = List.length ks ∧ contLe (List.length ks) (1 : Nat) (cellsOf' encS ks) (cellsOf' encS ks)) ∧ IntKind.wrap IntKind.i64 ((↑k : Int) + (1 : Int)) = (↑j : Int) ∧ True) ∧ ((True ∧ y4.room = (D j).room ∧ y4.used = (D j).used ∧ y4.down = (D j).down ∧ y4.trip = (D j).trip ∧ y4.fail = (D j).fail ∧ True) ∧ (y4.n = (D j).n ∧ (∀ (x : ByteArray), y4.has x = (D j).has x) ∧ ∀ (x : ByteArray), y4.has x = true → (List.length (y4.f x).b = List.length ((D j).f x).b ∧ contLe (List.length (y4.f x).b) (1 : Nat) (cellsOf' encB (y4.f x).b) (cellsOf' encB ((D j).f x).b)) ∧ (y4.f x).syn = ((D j).f x).syn ∧ True) ∧ True) ∧ true = true) ∧ true = true ∧ () = ())))))
def vcBn_q2 (D : Nat → Dsk) (k : Nat) : Prop := ((True ∧ (D k).room = (D k).room ∧ (D k).used = (D k).used ∧ (D k).down = (D k).down ∧ (D k).trip = (D k).trip ∧ (D k).fail = (D k).fail ∧ True) ∧ ((D k).n = (D k).n ∧ (∀ (x : ByteArray), (D k).has x = (D k).has x) ∧ ∀ (x : ByteArray), (D k).has x = true → (List.length ((D k).f x).b = List.length ((D k).f x).b ∧ contLe (List.length ((D k).f x).b) (1 : Nat) (cellsOf' encB ((D k).f x).b) (cellsOf' encB ((D k).f x).b)) ∧ ((D k).f x).syn = ((D k).f x).syn ∧ True) ∧ True)
def vcBn_q3 (y4 : Dsk) : Prop := ((True ∧ y4.room = y4.room ∧ y4.used = y4.used ∧ y4.down = y4.down ∧ y4.trip = y4.trip ∧ y4.fail = y4.fail ∧ True) ∧ (y4.n = y4.n ∧ (∀ (x : ByteArray), y4.has x = y4.has x) ∧ ∀ (x : ByteArray), y4.has x = true → (List.length (y4.f x).b = List.length (y4.f x).b ∧ contLe (List.length (y4.f x).b) (1 : Nat) (cellsOf' encB (y4.f x).b) (cellsOf' encB (y4.f x).b)) ∧ (y4.f x).syn = (y4.f x).syn ∧ True) ∧ True)
def vcBn (c : Bool) (bb : List Int) (ks : List ByteArray) (D : Nat → Dsk) (q : Nat → Bool) (r : Bool) (y1 : Dsk) (y2 : Dsk) (y3 : Dsk) (y4 : Dsk) (e1 : Int) (e2 : Int) (e3 : Int) (e4 : Int) (n : Nat) (k : Nat) : Prop :=
  (decide ((↑k : Int) < (↑(List.length ks) : Int)) = true → (((c = c ∧ List.length bb = List.length bb ∧ contLe (List.length bb) (1 : Nat) (cellsOf' encB bb) (cellsOf' encB bb)) ∧ ((0 : Nat) = (0 : Nat) ∧ (0 : Nat) = (0 : Nat)) ∧ (true = true ∧ List.length ks = List.length ks ∧ contLe (List.length ks) (1 : Nat) (cellsOf' encS ks) (cellsOf' encS ks)) ∧ (↑k : Int) = (↑k : Int) ∧ false = q (0 : Nat) ∧ (0 : Int) = (0 : Int) ∧ True) ∧ (vcBn_q2 D k) ∧ true = true) ∧ LoopOk Tryd.prog (4 : Nat) (17 : Nat) (loopAt Tryd.prog (4 : Nat) (17 : Nat)) { t := btT c bb ks k q (0 : Nat), m := dkM (D k), mv := [] : St } (T.map (lout jM (btS c bb ks k (D k) r)) ((fun (x : Nat) => T.ret ()) (0 : Nat))) ∧ (true && decide ((↑k : Int) < (↑(List.length ks) : Int))) = true ∧ (((0 : Nat) = (0 : Nat) ∧ (0 : Nat) = (0 : Nat)) ∧ List.getD ks (Int.toNat (↑k : Int)) (@default ByteArray ByteArray.instInhabited) = List.getD ks k (@default ByteArray ByteArray.instInhabited) ∧ True) ∧ (vcBn_q2 D k) ∧ (true && decide ((↑k : Int) < (↑(List.length ks) : Int))) = true ∧ (((0 : Nat) = (0 : Nat) ∧ (0 : Nat) = (0 : Nat)) ∧ List.getD ks (Int.toNat (↑k : Int)) (@default ByteArray ByteArray.instInhabited) = List.getD ks k (@default ByteArray ByteArray.instInhabited) ∧ (0 : Int) = (0 : Int) ∧ (↑(List.length (Dsk.get (D k) (List.getD ks k (@default ByteArray ByteArray.instInhabited))).b) : Int) = (↑(List.length (Dsk.get (D k) (List.getD ks k (@default ByteArray ByteArray.instInhabited))).b) : Int) ∧ True) ∧ (vcBn_q2 D k) ∧ List.length (Dsk.get (D k) (List.getD ks k (@default ByteArray ByteArray.instInhabited))).b ≤ (140737488355328 : Nat) ∧ (↑(List.length (Dsk.get (D k) (List.getD ks k (@default ByteArray ByteArray.instInhabited))).b) : Int) ≤ (9223372036854775807 : Int) ∧ (r = true → ∃ (j : Nat), List.length ks - j < List.length ks - k ∧ (((c = c ∧ List.length bb = List.length bb ∧ contLe (List.length bb) (1 : Nat) (cellsOf' encB bb) (cellsOf' encB bb)) ∧ ((0 : Nat) = (0 : Nat) ∧ (0 : Nat) = (0 : Nat)) ∧ (true = true ∧ List.length ks = List.length ks ∧ contLe (List.length ks) (1 : Nat) (cellsOf' encS ks) (cellsOf' encS ks)) ∧ IntKind.wrap IntKind.i64 ((↑k : Int) + (1 : Int)) = (↑j : Int) ∧ True) ∧ ((True ∧ (D k).room = (D j).room ∧ (D k).used = (D j).used ∧ (D k).down = (D j).down ∧ (D k).trip = (D j).trip ∧ (D k).fail = (D j).fail ∧ True) ∧ ((D k).n = (D j).n ∧ (∀ (x : ByteArray), (D k).has x = (D j).has x) ∧ ∀ (x : ByteArray), (D k).has x = true → (List.length ((D k).f x).b = List.length ((D j).f x).b ∧ contLe (List.length ((D k).f x).b) (1 : Nat) (cellsOf' encB ((D k).f x).b) (cellsOf' encB ((D j).f x).b)) ∧ ((D k).f x).syn = ((D j).f x).syn ∧ True) ∧ True) ∧ true = true) ∧ true = true ∧ () = ()) ∧ (r = false → (true && decide ((↑k : Int) < (↑(List.length ks) : Int))) = true ∧ (((0 : Nat) = (0 : Nat) ∧ (0 : Nat) = (0 : Nat)) ∧ List.getD ks (Int.toNat (↑k : Int)) (@default ByteArray ByteArray.instInhabited) = List.getD ks k (@default ByteArray ByteArray.instInhabited) ∧ { data := #[(111 : UInt8), (116 : UInt8), (104 : UInt8), (101 : UInt8), (114 : UInt8), (46 : UInt8), (48 : UInt8)] : ByteArray } = sO ∧ True) ∧ (vcBn_q2 D k) ∧ OpIs y1 (rnD (D k) (List.getD ks k (@default ByteArray ByteArray.instInhabited)) sO) e1 (rnE (D k) (List.getD ks k (@default ByteArray ByteArray.instInhabited)) sO) ∧ (true && decide ((↑k : Int) < (↑(List.length ks) : Int))) = true ∧ (((0 : Nat) = (0 : Nat) ∧ (0 : Nat) = (0 : Nat)) ∧ { data := #[(111 : UInt8), (116 : UInt8), (104 : UInt8), (101 : UInt8), (114 : UInt8), (46 : UInt8), (48 : UInt8)] : ByteArray } = sO ∧ List.getD ks (Int.toNat (↑k : Int)) (@default ByteArray ByteArray.instInhabited) = List.getD ks k (@default ByteArray ByteArray.instInhabited) ∧ True) ∧ ((True ∧ y1.room = y1.room ∧ y1.used = y1.used ∧ y1.down = y1.down ∧ y1.trip = y1.trip ∧ y1.fail = y1.fail ∧ True) ∧ (y1.n = y1.n ∧ (∀ (x : ByteArray), y1.has x = y1.has x) ∧ ∀ (x : ByteArray), y1.has x = true → (List.length (y1.f x).b = List.length (y1.f x).b ∧ contLe (List.length (y1.f x).b) (1 : Nat) (cellsOf' encB (y1.f x).b) (cellsOf' encB (y1.f x).b)) ∧ (y1.f x).syn = (y1.f x).syn ∧ True) ∧ True) ∧ OpIs y2 (rnD y1 sO (List.getD ks k (@default ByteArray ByteArray.instInhabited))) e2 (rnE y1 sO (List.getD ks k (@default ByteArray ByteArray.instInhabited))) ∧ (true && decide ((↑k : Int) < (↑(List.length ks) : Int))) = true ∧ (((0 : Nat) = (0 : Nat) ∧ (0 : Nat) = (0 : Nat)) ∧ List.getD ks (Int.toNat (↑k : Int)) (@default ByteArray ByteArray.instInhabited) = List.getD ks k (@default ByteArray ByteArray.instInhabited) ∧ (c = c ∧ List.length bb = List.length bb ∧ contLe (List.length bb) (1 : Nat) (cellsOf' encB bb) (cellsOf' encB bb)) ∧ True) ∧ ((True ∧ y2.room = y2.room ∧ y2.used = y2.used ∧ y2.down = y2.down ∧ y2.trip = y2.trip ∧ y2.fail = y2.fail ∧ True) ∧ (y2.n = y2.n ∧ (∀ (x : ByteArray), y2.has x = y2.has x) ∧ ∀ (x : ByteArray), y2.has x = true → (List.length (y2.f x).b = List.length (y2.f x).b ∧ contLe (List.length (y2.f x).b) (1 : Nat) (cellsOf' encB (y2.f x).b) (cellsOf' encB (y2.f x).b)) ∧ (y2.f x).syn = (y2.f x).syn ∧ True) ∧ True) ∧ ApRoom y2 (List.getD ks k (@default ByteArray ByteArray.instInhabited)) bb ∧ OpIs y3 (apD y2 (List.getD ks k (@default ByteArray ByteArray.instInhabited)) bb) e3 (apE y2 (List.getD ks k (@default ByteArray ByteArray.instInhabited)) bb) ∧ (true && decide ((↑k : Int) < (↑(List.length ks) : Int))) = true ∧ (((0 : Nat) = (0 : Nat) ∧ (0 : Nat) = (0 : Nat)) ∧ List.getD ks (Int.toNat (↑k : Int)) (@default ByteArray ByteArray.instInhabited) = List.getD ks k (@default ByteArray ByteArray.instInhabited) ∧ (↑(List.length (Dsk.get (D k) (List.getD ks k (@default ByteArray ByteArray.instInhabited))).b) : Int) = (↑(List.length (Dsk.get (D k) (List.getD ks k (@default ByteArray ByteArray.instInhabited))).b) : Int) ∧ True) ∧ ((True ∧ y3.room = y3.room ∧ y3.used = y3.used ∧ y3.down = y3.down ∧ y3.trip = y3.trip ∧ y3.fail = y3.fail ∧ True) ∧ (y3.n = y3.n ∧ (∀ (x : ByteArray), y3.has x = y3.has x) ∧ ∀ (x : ByteArray), y3.has x = true → (List.length (y3.f x).b = List.length (y3.f x).b ∧ contLe (List.length (y3.f x).b) (1 : Nat) (cellsOf' encB (y3.f x).b) (cellsOf' encB (y3.f x).b)) ∧ (y3.f x).syn = (y3.f x).syn ∧ True) ∧ True) ∧ OpIs y4 (trD y3 (List.getD ks k (@default ByteArray ByteArray.instInhabited)) (↑(List.length (Dsk.get (D k) (List.getD ks k (@default ByteArray ByteArray.instInhabited))).b) : Int)) e4 (trE y3 (List.getD ks k (@default ByteArray ByteArray.instInhabited)) (↑(List.length (Dsk.get (D k) (List.getD ks k (@default ByteArray ByteArray.instInhabited))).b) : Int)) ∧ (true && decide ((↑k : Int) < (↑(List.length ks) : Int))) = true ∧ (((0 : Nat) = (0 : Nat) ∧ (0 : Nat) = (0 : Nat)) ∧ List.getD ks (Int.toNat (↑k : Int)) (@default ByteArray ByteArray.instInhabited) = List.getD ks k (@default ByteArray ByteArray.instInhabited) ∧ True) ∧ (vcBn_q3 y4) ∧ (true && decide ((↑k : Int) < (↑(List.length ks) : Int))) = true ∧ (((0 : Nat) = (0 : Nat) ∧ (0 : Nat) = (0 : Nat)) ∧ List.getD ks (Int.toNat (↑k : Int)) (@default ByteArray ByteArray.instInhabited) = List.getD ks k (@default ByteArray ByteArray.instInhabited) ∧ (0 : Int) = (0 : Int) ∧ (↑(List.length (Dsk.get y4 (List.getD ks k (@default ByteArray ByteArray.instInhabited))).b) : Int) = (↑(List.length (Dsk.get y4 (List.getD ks k (@default ByteArray ByteArray.instInhabited))).b) : Int) ∧ True) ∧ (vcBn_q3 y4) ∧ List.length (Dsk.get y4 (List.getD ks k (@default ByteArray ByteArray.instInhabited))).b ≤ (140737488355328 : Nat) ∧ (↑(List.length (Dsk.get y4 (List.getD ks k (@default ByteArray ByteArray.instInhabited))).b) : Int) ≤ (9223372036854775807 : Int) ∧ ((e1 != (0 : Int)) = true → False) ∧ ((e1 != (0 : Int)) = false → ((e2 != (0 : Int)) = true → False) ∧ ((e2 != (0 : Int)) = false → ((e3 != (0 : Int)) = true → ((e3 != (23 : Int)) = true → False) ∧ ((e3 != (23 : Int)) = false → ((e4 != (0 : Int)) = true → False) ∧ (vcBn_q1 c bb ks D y4 e4 n k))) ∧ ((e3 != (0 : Int)) = false → ((e4 != (0 : Int)) = true → False) ∧ (vcBn_q1 c bb ks D y4 e4 n k)))))) ∧ (decide ((↑k : Int) < (↑(List.length ks) : Int)) = false → (((0 : Nat) = (0 : Nat) ∧ (0 : Nat) = (0 : Nat)) ∧ (true = true ∧ List.length ks = List.length ks ∧ contLe (List.length ks) (1 : Nat) (cellsOf' encS ks) (cellsOf' encS ks)) ∧ True) ∧ ((True ∧ (D k).room = (D n).room ∧ (D k).used = (D n).used ∧ (D k).down = (D n).down ∧ (D k).trip = (D n).trip ∧ (D k).fail = (D n).fail ∧ True) ∧ ((D k).n = (D n).n ∧ (∀ (x : ByteArray), (D k).has x = (D n).has x) ∧ ∀ (x : ByteArray), (D k).has x = true → (List.length ((D k).f x).b = List.length ((D n).f x).b ∧ contLe (List.length ((D k).f x).b) (1 : Nat) (cellsOf' encB ((D k).f x).b) (cellsOf' encB ((D n).f x).b)) ∧ ((D k).f x).syn = ((D n).f x).syn ∧ True) ∧ True) ∧ true = true)
theorem vcBn_eq (c : Bool) (bb : List Int) (ks : List ByteArray) (D : Nat → Dsk) (q : Nat → Bool) (r : Bool) (y1 : Dsk) (y2 : Dsk) (y3 : Dsk) (y4 : Dsk) (e1 : Int) (e2 : Int) (e3 : Int) (e4 : Int) (n : Nat) (k : Nat) : (loopVC Tryd.prog (bnH c bb ks k q r (D k) y1 y2 y3 y4 e1 e2 e3 e4 (ks.getD k default)) 4 13 (fun k => ks.length - k) (bnT c bb ks) (fun k => dkM (D k)) jM (fun _ => .ret ()) (bnS ks (D n)) k) = vcBn c bb ks D q r y1 y2 y3 y4 e1 e2 e3 e4 n k := by kernel_rfl
noncomputable def bkH (b c : Bool) (l : List Wr) (bb : List Int) (ks : List ByteArray) (D E : Nat → Dsk) : HintsT Tryd.prog := { hh _ (lp1 4 6 (jobOf (baT b c l bb) (fun k => dkM (D k)) jM (fun _ => .ret ()) (baS c bb (D l.length)) 0) (lp1 4 13 (jobOf (bnT c bb ks) (fun k => dkM (E k)) jM (fun _ => .ret ()) (bnS ks (E ks.length)) 0) noLp)) (cs1 4 1 0 lvC (cs1 4 2 0 (nwC 65536) (cs1 4 11 1 (liC (D l.length) ks) (cs1 4 31 1 (liC (E ks.length) ks) noCs)))) noOp with sub := fun _ => true }
def vcBk (b : Bool) (c : Bool) (l : List Wr) (bb : List Int) (ks : List ByteArray) (D : Nat → Dsk) (E : Nat → Dsk) : Prop :=
  True ∧ True ∧ ((65536 : Int) = (65536 : Int) ∧ True) ∧ True ∧ (false = true → (false = true → false = true ∧ True) ∧ (false = false → false = true ∧ True)) ∧ (false = false → (false = true → false = true ∧ True) ∧ (false = false → (((b = b ∧ List.length l = List.length l ∧ contLe (List.length l) (3 : Nat) (cellsOf' encW l) (cellsOf' encW l)) ∧ (c = c ∧ List.length bb = List.length bb ∧ contLe (List.length bb) (1 : Nat) (cellsOf' encB bb) (cellsOf' encB bb)) ∧ ((0 : Nat) = (0 : Nat) ∧ (0 : Nat) = (0 : Nat)) ∧ (0 : Int) = (0 : Int) ∧ True) ∧ ((True ∧ (65536 : Int) = (D (0 : Nat)).room ∧ (0 : Int) = (D (0 : Nat)).used ∧ false = (D (0 : Nat)).down ∧ (-1 : Int) = (D (0 : Nat)).trip ∧ (-1 : Int) = (D (0 : Nat)).fail ∧ True) ∧ ((0 : Nat) = (D (0 : Nat)).n ∧ (∀ (x : ByteArray), false = (D (0 : Nat)).has x) ∧ ∀ (x : ByteArray), false = true → ((0 : Nat) = List.length ((D (0 : Nat)).f x).b ∧ contLe (0 : Nat) (1 : Nat) (cellsOf' encB []) (cellsOf' encB ((D (0 : Nat)).f x).b)) ∧ (0 : Int) = ((D (0 : Nat)).f x).syn ∧ True) ∧ True) ∧ true = true) ∧ LoopOk Tryd.prog (4 : Nat) (6 : Nat) (loopAt Tryd.prog (4 : Nat) (6 : Nat)) { t := baT b c l bb (0 : Nat), m := dkM (D (0 : Nat)), mv := [] : St } (T.map (lout jM (baS c bb (D (List.length l)))) ((fun (x : Nat) => T.ret ()) (0 : Nat))) ∧ (((0 : Nat) = (0 : Nat) ∧ (0 : Nat) = (0 : Nat)) ∧ True) ∧ ((True ∧ (D (List.length l)).room = (D (List.length l)).room ∧ (D (List.length l)).used = (D (List.length l)).used ∧ (D (List.length l)).down = (D (List.length l)).down ∧ (D (List.length l)).trip = (D (List.length l)).trip ∧ (D (List.length l)).fail = (D (List.length l)).fail ∧ True) ∧ ((D (List.length l)).n = (D (List.length l)).n ∧ (∀ (x : ByteArray), (D (List.length l)).has x = (D (List.length l)).has x) ∧ ∀ (x : ByteArray), (D (List.length l)).has x = true → (List.length ((D (List.length l)).f x).b = List.length ((D (List.length l)).f x).b ∧ contLe (List.length ((D (List.length l)).f x).b) (1 : Nat) (cellsOf' encB ((D (List.length l)).f x).b) (cellsOf' encB ((D (List.length l)).f x).b)) ∧ ((D (List.length l)).f x).syn = ((D (List.length l)).f x).syn ∧ True) ∧ True) ∧ SrtOk ks (D (List.length l)).has (D (List.length l)).n ∧ (((c = c ∧ List.length bb = List.length bb ∧ contLe (List.length bb) (1 : Nat) (cellsOf' encB bb) (cellsOf' encB bb)) ∧ ((0 : Nat) = (0 : Nat) ∧ (0 : Nat) = (0 : Nat)) ∧ (true = true ∧ List.length ks = List.length ks ∧ contLe (List.length ks) (1 : Nat) (cellsOf' encS ks) (cellsOf' encS ks)) ∧ (0 : Int) = (0 : Int) ∧ True) ∧ ((True ∧ (D (List.length l)).room = (E (0 : Nat)).room ∧ (D (List.length l)).used = (E (0 : Nat)).used ∧ (D (List.length l)).down = (E (0 : Nat)).down ∧ (D (List.length l)).trip = (E (0 : Nat)).trip ∧ (D (List.length l)).fail = (E (0 : Nat)).fail ∧ True) ∧ ((D (List.length l)).n = (E (0 : Nat)).n ∧ (∀ (x : ByteArray), (D (List.length l)).has x = (E (0 : Nat)).has x) ∧ ∀ (x : ByteArray), (D (List.length l)).has x = true → (List.length ((D (List.length l)).f x).b = List.length ((E (0 : Nat)).f x).b ∧ contLe (List.length ((D (List.length l)).f x).b) (1 : Nat) (cellsOf' encB ((D (List.length l)).f x).b) (cellsOf' encB ((E (0 : Nat)).f x).b)) ∧ ((D (List.length l)).f x).syn = ((E (0 : Nat)).f x).syn ∧ True) ∧ True) ∧ true = true) ∧ LoopOk Tryd.prog (4 : Nat) (13 : Nat) (loopAt Tryd.prog (4 : Nat) (13 : Nat)) { t := bnT c bb ks (0 : Nat), m := dkM (E (0 : Nat)), mv := [] : St } (T.map (lout jM (bnS ks (E (List.length ks)))) ((fun (x : Nat) => T.ret ()) (0 : Nat))) ∧ (((0 : Nat) = (0 : Nat) ∧ (0 : Nat) = (0 : Nat)) ∧ True) ∧ ((True ∧ (E (List.length ks)).room = (E (List.length ks)).room ∧ (E (List.length ks)).used = (E (List.length ks)).used ∧ (E (List.length ks)).down = (E (List.length ks)).down ∧ (E (List.length ks)).trip = (E (List.length ks)).trip ∧ (E (List.length ks)).fail = (E (List.length ks)).fail ∧ True) ∧ ((E (List.length ks)).n = (E (List.length ks)).n ∧ (∀ (x : ByteArray), (E (List.length ks)).has x = (E (List.length ks)).has x) ∧ ∀ (x : ByteArray), (E (List.length ks)).has x = true → (List.length ((E (List.length ks)).f x).b = List.length ((E (List.length ks)).f x).b ∧ contLe (List.length ((E (List.length ks)).f x).b) (1 : Nat) (cellsOf' encB ((E (List.length ks)).f x).b) (cellsOf' encB ((E (List.length ks)).f x).b)) ∧ ((E (List.length ks)).f x).syn = ((E (List.length ks)).f x).syn ∧ True) ∧ True) ∧ SrtOk ks (E (List.length ks)).has (E (List.length ks)).n ∧ ((↑(List.length ks) : Int) == (↑(List.length ks) : Int)) = true ∧ True))
theorem vcBk_eq (b : Bool) (c : Bool) (l : List Wr) (bb : List Int) (ks : List ByteArray) (D : Nat → Dsk) (E : Nat → Dsk) : (ctrVC Tryd.prog (bkH b c l bb ks D E) 4 [encWs b l, encBs c bb] [] (boR true)) = vcBk b c l bb ks D E := by kernel_rfl
end Go.Proofs.YtfiohpojlgkmkaaDoor.O

namespace Go.Proofs.YtfiohpojlgkmkaaDoor.O
open Go.Ax Go.Maps
set_option maxRecDepth 1000000
structure Qt (d : Dsk) : Prop where
  down : d.down = false
  trip : d.trip = -1
  fail : d.fail = -1
theorem Qt.tick {d : Dsk} (h : Qt d) : Qt d.tick := ⟨h.down, by show mx (IntKind.i64.wrap (d.trip - 1)) = -1; rw [h.trip]; decide, h.fail⟩
theorem Qt.fld {d : Dsk} (h : Qt d) : Qt d.fld := ⟨h.down, h.trip, by show mx (IntKind.i64.wrap (d.fail - 1)) = -1; rw [h.fail]; decide⟩
theorem q_opE {d d1 : Dsk} {e : Int} (h : Qt d) (h1 : Qt d1) : opE d e d1 = e := by
  unfold opE
  rw [h.down, h1.trip]
  simp
  omega
theorem q_opD {d d1 y : Dsk} {e : Int} (h : Qt d) (h1 : Qt d1) : opD d e d1 y = if e = 0 then y else d1 := by
  unfold opD
  rw [h.down, h1.trip]
  simp
theorem apQ_q {d : Dsk} {s : ByteArray} (h : Qt d) : Qt (apQ d s) := by
  unfold apQ
  split
  · exact h
  · exact h.fld
theorem apD_q {d : Dsk} {s : ByteArray} {l : List Int} (h : Qt d) : Qt (apD d s l) := by
  unfold apD
  rw [q_opD h (apQ_q h)]
  split
  · exact ⟨h.fld.tick.down, h.fld.tick.trip, h.fld.tick.fail⟩
  · exact apQ_q h
theorem syD_q {d : Dsk} {s : ByteArray} (h : Qt d) : Qt (syD d s) := by
  unfold syD
  rw [q_opD h h]
  split
  · exact ⟨h.tick.down, h.tick.trip, h.tick.fail⟩
  · exact h
def bkStep (d : Dsk) (w : Wr) : Dsk := if apE d w.name w.b = 0 ∧ w.sync = true then syD (apD d w.name w.b) w.name else apD d w.name w.b
def bkD (l : List Wr) : Nat → Dsk
  | 0 => d0 65536
  | k + 1 => bkStep (bkD l k) (l.getD k default)
theorem bkD_inv (l : List Wr) : ∀ k, DInv (bkD l k) ∧ Qt (bkD l k)
  | 0 => ⟨dinv0 (by decide) (by decide), rfl, rfl, rfl⟩
  | k + 1 => by
    obtain ⟨h1, h2⟩ := bkD_inv l k
    show DInv (bkStep _ _) ∧ Qt (bkStep _ _)
    unfold bkStep
    split
    · exact ⟨sy_inv (ap_inv h1), syD_q (apD_q h2)⟩
    · exact ⟨ap_inv h1, apD_q h2⟩
theorem DInv.n1 {d : Dsk} {s : ByteArray} (h : DInv d) (hs : d.has s = true) : 1 ≤ d.n := by
  obtain ⟨L, hL⟩ := h.cov
  have h1 := hL.len
  have h2 : 0 < L.length := List.length_pos_of_mem ((hL.mem s).1 hs)
  omega
structure RnIs (d y : Dsk) (s t : ByteArray) : Prop where
  has : ∀ x, y.has x = if x = t then true else if x = s then false else d.has x
  f : ∀ x, y.f x = if x = t then d.f s else d.f x
  n : y.n = d.n
  q : Qt y
  inv : DInv y
theorem rn_spec {d : Dsk} {s t : ByteArray} (h : DInv d) (q : Qt d) (hs : d.has s = true) (ht : d.has t = false) (hn : nmd t = true) : rnE d s t = 0 ∧ RnIs d (rnD d s t) s t := by
  have hst : ¬s = t := fun e => by rw [e, ht] at hs; cases hs
  have p : rnP d s t = 0 := by simp [rnP, hs, hn]
  have e1 : rnE d s t = 0 := by unfold rnE; rw [q_opE q q, p]
  have e2 : rnD d s t = rnY d s t := by unfold rnD; rw [q_opD q q, p, if_pos rfl]
  have hi := rn_inv (s := s) (t := t) h
  refine ⟨e1, ?_⟩
  rw [e2] at hi ⊢
  have hn1 := h.n1 hs
  unfold rnY at hi ⊢
  rw [if_neg hst] at hi ⊢
  refine ⟨fun x => ?_, fun x => rfl, ?_, ⟨q.tick.down, q.tick.trip, q.tick.fail⟩, hi⟩
  · show updBs (delBs d.has s) t x = _
    unfold updBs delBs
    by_cases h1 : x = t
    · subst h1; simp
    · have h2 : ¬t = x := fun e => h1 e.symm
      by_cases h3 : x = s
      · subst h3; simp [h1, h2]
      · have h4 : ¬s = x := fun e => h3 e.symm
        simp [h1, h2, h3, h4]
  · show (if delBs d.has s t then d.n - 1 else d.n - 1 + 1) = d.n
    have : delBs d.has s t = false := by simp [delBs, ht]
    rw [this]
    simp
    omega
structure ApIs (d y : Dsk) (s : ByteArray) : Prop where
  has : ∀ x, y.has x = d.has x
  tk : (y.f s).b.take (d.f s).b.length = (d.f s).b
  len : (d.f s).b.length ≤ (y.f s).b.length
  syn : (y.f s).syn = (d.f s).syn
  n : y.n = d.n
  q : Qt y
  inv : DInv y
theorem ap_spec {d : Dsk} {s : ByteArray} {l : List Int} (h : DInv d) (q : Qt d) (hs : d.has s = true) : (apE d s l = 0 ∨ apE d s l = 23) ∧ ApIs d (apD d s l) s := by
  have hn := h.nm s hs
  have e1 : apE d s l = apP d s l := by unfold apE; rw [q_opE q (apQ_q q)]
  have e2 : apD d s l = if apP d s l = 0 then apY d s l else apQ d s := by unfold apD; rw [q_opD q (apQ_q q)]
  have hp : apP d s l = 0 ∨ apP d s l = 23 := by
    unfold apP
    rw [if_neg (by simp [hn])]
    split
    · exact .inr rfl
    split
    · exact .inr rfl
    split
    · exact .inr rfl
    · exact .inl rfl
  have hi := ap_inv (s := s) (l := l) h
  have hq := apD_q (s := s) (l := l) q
  refine ⟨by rw [e1]; exact hp, ?_⟩
  rw [e2] at hi hq ⊢
  split at hi
  · rename_i h0
    rw [if_pos h0] at hq ⊢
    have hf : (apY d s l).f s = ⟨(d.f s).b ++ l, (d.f s).syn⟩ := by
      show (if s = s then _ else _) = _
      rw [if_pos rfl, get_t hs]
    refine ⟨fun x => updBs_same hs x, ?_, ?_, ?_, ?_, hq, hi⟩
    · rw [hf]; simp
    · rw [hf]; simp
    · rw [hf]
    · show (if d.has s then d.n else d.n + 1) = d.n
      rw [if_pos hs]
  · rename_i h0
    rw [if_neg h0] at hq ⊢
    have e3 : apQ d s = d.fld := by simp [apQ, hn]
    rw [e3] at hq hi ⊢
    exact ⟨fun _ => rfl, List.take_length, Nat.le_refl _, rfl, rfl, hq, hi⟩
structure TrIs (d y : Dsk) (s : ByteArray) (n : Nat) : Prop where
  has : ∀ x, y.has x = d.has x
  f : y.f s = ⟨(d.f s).b.take n, if (n : Int) < (d.f s).syn then n else (d.f s).syn⟩
  n : y.n = d.n
  q : Qt y
  inv : DInv y
theorem tr_spec {d : Dsk} {s : ByteArray} {n : Nat} (h : DInv d) (q : Qt d) (hs : d.has s = true) (hn : n ≤ (d.f s).b.length) : trE d s n = 0 ∧ TrIs d (trD d s n) s n := by
  have hp : trP d s n = 0 := by
    unfold trP
    rw [if_pos hs, if_neg (by omega)]
  have e1 : trE d s n = 0 := by unfold trE; rw [q_opE q q, hp]
  have e2 : trD d s n = trY d s n := by unfold trD; rw [q_opD q q, hp, if_pos rfl]
  have hi := tr_inv (s := s) (n := n) h
  refine ⟨e1, ?_⟩
  rw [e2] at hi ⊢
  refine ⟨fun x => updBs_same hs x, ?_, ?_, ⟨q.tick.down, q.tick.trip, q.tick.fail⟩, hi⟩
  · show (if s = s then _ else _) = _
    rw [if_pos rfl]; simp
  · show (if d.has s then d.n else d.n + 1) = d.n
    rw [if_pos hs]
def z1 (d : Dsk) (s : ByteArray) : Dsk := rnD d s sO
def z2 (d : Dsk) (s : ByteArray) : Dsk := rnD (z1 d s) sO s
def z3 (d : Dsk) (s : ByteArray) (b : List Int) : Dsk := apD (z2 d s) s b
def z4 (d : Dsk) (s : ByteArray) (b : List Int) : Dsk := trD (z3 d s b) s (d.get s).b.length
theorem nmd_sO : nmd sO = true := by decide
structure RdIs (d : Dsk) (s : ByteArray) (b : List Int) : Prop where
  e1 : rnE d s sO = 0
  e2 : rnE (z1 d s) sO s = 0
  e3 : apE (z2 d s) s b = 0 ∨ apE (z2 d s) s b = 23
  e4 : trE (z3 d s b) s (d.get s).b.length = 0
  room : ApRoom (z2 d s) s b
  has : ∀ x, (z4 d s b).has x = d.has x
  f : (z4 d s b).f s = d.f s
  n : (z4 d s b).n = d.n
  q : Qt (z4 d s b)
  inv : DInv (z4 d s b)
theorem rd_is {d : Dsk} {s : ByteArray} {b : List Int} (h : DInv d) (q : Qt d) (hs : d.has s = true) (ho : d.has sO = false) : RdIs d s b := by
  have hne : ¬s = sO := fun e => by rw [e, ho] at hs; cases hs
  have hne' : ¬sO = s := fun e => hne e.symm
  have hfo := h.fok s hs
  obtain ⟨e1, r1⟩ := rn_spec h q hs ho nmd_sO
  have a1 : (z1 d s).has sO = true := by unfold z1; rw [r1.has, if_pos rfl]
  have a2 : (z1 d s).has s = false := by unfold z1; rw [r1.has, if_neg hne, if_pos rfl]
  have a3 : (z1 d s).f sO = d.f s := by unfold z1; rw [r1.f, if_pos rfl]
  obtain ⟨e2, r2⟩ := rn_spec (s := sO) (t := s) (d := z1 d s) r1.inv r1.q a1 a2 (h.nm s hs)
  have b1 : ∀ x, (z2 d s).has x = d.has x := fun x => by
    unfold z2
    rw [r2.has]
    by_cases x1 : x = s
    · rw [if_pos x1, x1, hs]
    · rw [if_neg x1]
      by_cases x2 : x = sO
      · rw [if_pos x2, x2, ho]
      · rw [if_neg x2]; unfold z1; rw [r1.has, if_neg x2, if_neg x1]
  have b2 : (z2 d s).f s = d.f s := by unfold z2; rw [r2.f, if_pos rfl, a3]
  have b3 : (z2 d s).has s = true := by rw [b1, hs]
  obtain ⟨e3, r3⟩ := ap_spec (l := b) (d := z2 d s) r2.inv r2.q b3
  have hlen := r3.len
  have htk := r3.tk
  have hsy := r3.syn
  rw [b2] at hlen htk hsy
  have c1 : (z3 d s b).has s = true := by unfold z3; rw [r3.has, b3]
  have hg : d.get s = d.f s := get_t hs
  obtain ⟨e4, r4⟩ := tr_spec (d := z3 d s b) (s := s) (n := (d.get s).b.length) r3.inv r3.q c1 (by rw [hg]; exact hlen)
  refine ⟨e1, e2, e3, e4, ⟨fun h0 => by have := ap_room r2.inv h0; unfold z2; omega⟩, fun x => ?_, ?_, ?_, r4.q, r4.inv⟩
  · unfold z4; rw [r4.has]; unfold z3; rw [r3.has, b1]
  · unfold z4
    rw [r4.f]
    have f1 : ((z3 d s b).f s).b.take (d.get s).b.length = (d.f s).b := by rw [hg]; exact htk
    have f2 : ((z3 d s b).f s).syn = (d.f s).syn := hsy
    rw [f1, f2, hg]
    have := hfo.u
    rw [if_neg (by omega)]
  · unfold z4; rw [r4.n]; unfold z3; rw [r3.n]; unfold z2; rw [r2.n]; exact r1.n
def bnD (d : Dsk) (ks : List ByteArray) (b : List Int) : Nat → Dsk
  | 0 => d
  | k + 1 => if d.has sO then bnD d ks b k else z4 (bnD d ks b k) (ks.getD k default) b
theorem bnD_inv {d : Dsk} {ks : List ByteArray} {b : List Int} (h : DInv d) (q : Qt d) (hk : ∀ s ∈ ks, d.has s = true) : ∀ k, k ≤ ks.length → DInv (bnD d ks b k) ∧ Qt (bnD d ks b k) ∧ (∀ x, (bnD d ks b k).has x = d.has x) ∧ (bnD d ks b k).n = d.n
  | 0, _ => ⟨h, q, fun _ => rfl, rfl⟩
  | k + 1, hk' => by
    obtain ⟨h1, h2, h3, h4⟩ := bnD_inv (b := b) h q hk k (by omega)
    have hs : d.has (ks.getD k default) = true := hk _ (by rw [List.getD_eq_getElem?_getD, List.getElem?_eq_getElem hk']; exact List.getElem_mem _)
    cases ho : d.has sO with
    | true =>
      have e : bnD d ks b (k + 1) = bnD d ks b k := by show (if d.has sO then _ else _) = _; rw [ho]; rfl
      rw [e]
      exact ⟨h1, h2, h3, h4⟩
    | false =>
      have e : bnD d ks b (k + 1) = z4 (bnD d ks b k) (ks.getD k default) b := by show (if d.has sO then _ else _) = _; rw [ho]; rfl
      rw [e]
      have r := rd_is (b := b) h1 h2 (by rw [h3]; exact hs) (by rw [h3]; exact ho)
      exact ⟨r.inv, r.q, fun x => by rw [r.has, h3], by rw [r.n, h4]⟩
end Go.Proofs.YtfiohpojlgkmkaaDoor.O

namespace Go.Proofs.YtfiohpojlgkmkaaDoor.O
open Go.Ax Go.Maps
set_option maxRecDepth 1000000
def tkQ (ks : List ByteArray) (j : Nat) : Bool := (ks.take j).any fun x => x.data.toList == [111, 116, 104, 101, 114, 46, 48]
theorem tkQ_succ {ks : List ByteArray} {j : Nat} (h : j < ks.length) : tkQ ks (j + 1) = (tkQ ks j || (ks.getD j default).data.toList == [111, 116, 104, 101, 114, 46, 48]) := by
  unfold tkQ
  rw [List.take_add_one, List.getElem?_eq_getElem h, List.any_append]
  simp [List.getElem?_eq_getElem h]
theorem tkQ_all {ks : List ByteArray} {has : ByteArray → Bool} (hs : Srt ks has) : tkQ ks ks.length = has sO := by
  have e : tkQ ks ks.length = ks.any fun x => x.data.toList == sO.data.toList := by unfold tkQ; rw [List.take_length]; rfl
  rw [e]
  cases h : has sO with
  | true => exact List.any_eq_true.2 ⟨sO, (hs.mem sO).1 h, ba_eq.2 rfl⟩
  | false =>
    rw [List.any_eq_false]
    intro x hx hq
    have := ba_eq.1 hq
    subst this
    have := (hs.mem sO).2 hx
    rw [h] at this; cases this
theorem bt_loop (c : Bool) (bb : List Int) (ks : List ByteArray) (k : Nat) (d : Dsk) (hn : ks.length ≤ 64) (j : Nat) : LoopOk Tryd.prog 4 17 (loopAt Tryd.prog 4 17) ⟨btT c bb ks k (tkQ ks) j, dkM d, []⟩ ((T.ret ()).map (lout jM (btS c bb ks k d (tkQ ks ks.length)))) := by
  refine loop_vcH Tryd.mixed (fun _ => rfl) (ht := fun _ => hT _) (μ := fun j => ks.length - j) (stT := btT c bb ks k (tkQ ks)) (stM := fun _ => dkM d) (X := jM) (o := fun _ => .ret ()) (S := btS c bb ks k d (tkQ ks ks.length)) (fun j => (vcBt_eq c bb ks k d (tkQ ks) (tkQ ks ks.length) j).mpr ?_) j
  unfold vcBt
  simp only [Int.toNat_natCast]
  refine ⟨fun hj => ?_, fun hj => ?_⟩
  · have hj : j < ks.length := by simpa using hj
    have hq := tkQ_succ hj
    have hw : IntKind.i64.wrap ((j : Int) + 1) = ((j + 1 : Nat) : Int) := by rw [wrap_i64 (by omega) (by omega)]; omega
    refine ⟨fun h => ?_, fun h => ?_⟩
    · rw [h] at hq
      simp [hw]
      exact ⟨j + 1, by omega, by rw [hq]; simp, by omega⟩
    · rw [h] at hq
      simp [hw, hj]
      exact ⟨j + 1, by omega, by rw [hq]; simp [hj], by omega⟩
  · have hj : ¬j < ks.length := by simpa using hj
    have e : tkQ ks j = tkQ ks ks.length := by unfold tkQ; rw [List.take_of_length_le (by omega), List.take_length]
    simp [e]
theorem ba_loop (b c : Bool) (l : List Wr) (bb : List Int) (hl : WrsOk l) (k : Nat) : LoopOk Tryd.prog 4 6 (loopAt Tryd.prog 4 6) ⟨baT b c l bb k, dkM (bkD l (min k l.length)), []⟩ ((T.ret ()).map (lout jM (baS c bb (bkD l (min l.length l.length))))) := by
  let D := fun k => bkD l (min k l.length)
  let y1 := fun k => apD (D k) (l.getD k default).name (l.getD k default).b
  let y2 := fun k => syD (y1 k) (l.getD k default).name
  let e1 := fun k => apE (D k) (l.getD k default).name (l.getD k default).b
  let e2 := fun k => syE (y1 k) (l.getD k default).name
  refine loop_vcH Tryd.mixed (fun _ => rfl) (ht := fun k => baLH (D k) (y1 k) (y2 k) (e1 k) (e2 k) (l.getD k default)) (μ := fun k => l.length - k) (stT := baT b c l bb) (stM := fun k => dkM (D k)) (X := jM) (o := fun _ => .ret ()) (S := baS c bb (D l.length)) (fun k => (vcBaL_eq b c l bb D (y1 k) (y2 k) (e1 k) (e2 k) l.length k).mpr ?_) k
  unfold vcBaL
  simp only [Int.toNat_natCast]
  refine ⟨fun hk => ?_, fun hk => ?_⟩
  · have hk : k < l.length := by simpa using hk
    have hn := hl.n
    have hD1 : D (k + 1) = bkStep (D k) (l.getD k default) := by
      show bkD l (min (k + 1) l.length) = bkStep (bkD l (min k l.length)) _
      rw [Nat.min_eq_left (by omega), Nat.min_eq_left (by omega)]
      rfl
    have hI : DInv (D k) := (bkD_inv l _).1
    have hroom : ApRoom (D k) (l.getD k default).name (l.getD k default).b := ⟨fun h0 => by have := ap_room hI h0; omega⟩
    have ho1 : OpIs (y1 k) (apD (D k) (l.getD k default).name (l.getD k default).b) (e1 k) (apE (D k) (l.getD k default).name (l.getD k default).b) := ⟨rfl, rfl⟩
    have ho2 : OpIs (y2 k) (syD (y1 k) (l.getD k default).name) (e2 k) (syE (y1 k) (l.getD k default).name) := ⟨rfl, rfl⟩
    have hw : IntKind.i64.wrap ((k : Int) + 1) = ((k + 1 : Nat) : Int) := by rw [wrap_i64 (by omega) (by omega)]; omega
    have hst : D (k + 1) = if e1 k = 0 ∧ (l.getD k default).sync = true then y2 k else y1 k := hD1
    generalize e1 k = e1 at *
    generalize e2 k = e2 at *
    generalize hy2 : y2 k = y2 at *
    generalize hy1 : y1 k = y1 at *
    generalize hDk : D k = Dk at *
    generalize l.getD k default = w at *
    by_cases h1 : e1 = 0
    · cases hsy : w.sync with
      | true =>
        rw [if_pos ⟨h1, hsy⟩] at hst
        simp [h1, hsy, hk, hw, hroom, ho1, ho2]
        refine ⟨by rw [h1] at ho1; exact ho1, k + 1, by omega, by omega, ?_⟩
        rw [hst]
        simp
      | false =>
        rw [if_neg (by simp [hsy])] at hst
        simp [h1, hsy, hk, hw, hroom, ho1, ho2]
        refine ⟨by rw [h1] at ho1; exact ho1, k + 1, by omega, by omega, ?_⟩
        rw [hst]
        simp
    · rw [if_neg (by simp [h1])] at hst
      simp [h1, hk, hw, hroom, ho1, ho2]
      exact ⟨k + 1, by omega, by omega, by rw [hst]; simp⟩
  · have hk : ¬k < l.length := by simpa using hk
    have e : D k = D l.length := by show bkD l (min k l.length) = bkD l (min l.length l.length); rw [Nat.min_eq_right (by omega), Nat.min_self]
    simp [e]
end Go.Proofs.YtfiohpojlgkmkaaDoor.O

namespace Go.Proofs.YtfiohpojlgkmkaaDoor.O
open Go.Ax Go.Maps
set_option maxRecDepth 1000000
theorem rd_all {d : Dsk} {s : ByteArray} (q : Qt d) (hs : d.has s = true) : rdL d s 0 (d.get s).b.length = (d.f s).b := by
  have e : rdE d s 0 (d.get s).b.length = 0 := by
    unfold rdE
    rw [q.down, hs, get_t hs]
    simp
  unfold rdL
  rw [if_pos e, get_t hs]
  simp
theorem bn_loop (c : Bool) (bb : List Int) (ks : List ByteArray) (d : Dsk) (h : DInv d) (q : Qt d) (hks : SrtOk ks d.has d.n) (k : Nat) : LoopOk Tryd.prog 4 13 (loopAt Tryd.prog 4 13) ⟨bnT c bb ks k, dkM (bnD d ks bb (min k ks.length)), []⟩ ((T.ret ()).map (lout jM (bnS ks (bnD d ks bb (min ks.length ks.length))))) := by
  let D := fun k => bnD d ks bb (min k ks.length)
  let s := fun k => ks.getD k default
  refine loop_vcH Tryd.mixed (fun _ => rfl) (ht := fun k => bnH c bb ks k (tkQ ks) (tkQ ks ks.length) (D k) (z1 (D k) (s k)) (z2 (D k) (s k)) (z3 (D k) (s k) bb) (z4 (D k) (s k) bb) (rnE (D k) (s k) sO) (rnE (z1 (D k) (s k)) sO (s k)) (apE (z2 (D k) (s k)) (s k) bb) (trE (z3 (D k) (s k) bb) (s k) ((D k).get (s k)).b.length) (s k)) (μ := fun k => ks.length - k) (stT := bnT c bb ks) (stM := fun k => dkM (D k)) (X := jM) (o := fun _ => .ret ()) (S := bnS ks (D ks.length)) (fun k => (vcBn_eq c bb ks D (tkQ ks) (tkQ ks ks.length) (z1 (D k) (s k)) (z2 (D k) (s k)) (z3 (D k) (s k) bb) (z4 (D k) (s k) bb) (rnE (D k) (s k) sO) (rnE (z1 (D k) (s k)) sO (s k)) (apE (z2 (D k) (s k)) (s k) bb) (trE (z3 (D k) (s k) bb) (s k) ((D k).get (s k)).b.length) ks.length k).mpr ?_) k
  unfold vcBn vcBn_q3 vcBn_q2 vcBn_q1
  simp only [Int.toNat_natCast, strN_eq]
  refine ⟨fun hk => ?_, fun hk => ?_⟩
  · have hk : k < ks.length := by simpa using hk
    have hn : ks.length ≤ 64 := by have := hks.len; have := h.n; omega
    have hmem : ∀ x ∈ ks, d.has x = true := fun x hx => (hks.srt.mem x).2 hx
    obtain ⟨i1, i2, i3, i4⟩ := bnD_inv (b := bb) h q hmem (min k ks.length) (by omega)
    have hs : (D k).has (s k) = true := by
      show (bnD d ks bb (min k ks.length)).has _ = true
      rw [i3]
      exact hmem _ (by show ks.getD k default ∈ ks; rw [List.getD_eq_getElem?_getD, List.getElem?_eq_getElem hk]; exact List.getElem_mem _)
    have hr : tkQ ks ks.length = (D k).has sO := by
      rw [tkQ_all hks.srt]; exact (i3 sO).symm
    have hD1 : D (k + 1) = if (D k).has sO then D k else z4 (D k) (s k) bb := by
      have e : (D k).has sO = d.has sO := i3 sO
      rw [e]
      show bnD d ks bb (min (k + 1) ks.length) = if d.has sO then bnD d ks bb (min k ks.length) else z4 (bnD d ks bb (min k ks.length)) (ks.getD k default) bb
      rw [Nat.min_eq_left (by omega), Nat.min_eq_left (by omega)]
      rfl
    have hlp := bt_loop c bb ks k (D k) hn 0
    have hq0 : tkQ ks 0 = false := by unfold tkQ; simp
    have hI : DInv (D k) := i1
    have hQ : Qt (D k) := i2
    have hw : IntKind.i64.wrap ((k : Int) + 1) = ((k + 1 : Nat) : Int) := by rw [wrap_i64 (by omega) (by omega)]; omega
    have hfo := hI.fok _ hs
    have hfm := hfo.m
    have hg : (D k).get (s k) = (D k).f (s k) := get_t hs
    have hrd := rd_all hQ hs
    have hss : ks.getD k default = s k := rfl
    have hso : ({ data := #[111, 116, 104, 101, 114, 46, 48] } : ByteArray) = sO := rfl
    simp only [hss]
    generalize s k = s at *
    cases ho : (D k).has sO with
    | true =>
      rw [ho] at hr hD1
      generalize D k = Dk at *
      rw [hr] at hlp
      simp [hr, hk, hw, hq0, hlp]
      rw [if_pos rfl] at hD1
      rw [hg]
      refine ⟨by omega, by omega, k + 1, by omega, by omega, ?_⟩
      rw [hD1]
      simp
    | false =>
      rw [ho] at hr hD1
      have R := rd_is (b := bb) hI hQ hs ho
      have o1 : OpIs (z1 (D k) s) (rnD (D k) s sO) (rnE (D k) s sO) (rnE (D k) s sO) := ⟨rfl, rfl⟩
      have o2 : OpIs (z2 (D k) s) (rnD (z1 (D k) s) sO s) (rnE (z1 (D k) s) sO s) (rnE (z1 (D k) s) sO s) := ⟨rfl, rfl⟩
      have o3 : OpIs (z3 (D k) s bb) (apD (z2 (D k) s) s bb) (apE (z2 (D k) s) s bb) (apE (z2 (D k) s) s bb) := ⟨rfl, rfl⟩
      have o4 : OpIs (z4 (D k) s bb) (trD (z3 (D k) s bb) s ((D k).get s).b.length) (trE (z3 (D k) s bb) s ((D k).get s).b.length) (trE (z3 (D k) s bb) s ((D k).get s).b.length) := ⟨rfl, rfl⟩
      have hh4 : (z4 (D k) s bb).has s = true := by rw [R.has, hs]
      have hg4 : (z4 (D k) s bb).get s = (D k).f s := by rw [get_t hh4, R.f]
      have hrd4 := rd_all R.q hh4
      rw [R.f] at hrd4
      obtain ⟨r1, r2, r3, r4, r5, -, -, -, -, -⟩ := R
      rw [hg] at hrd o4 r4
      rw [hg4] at hrd4
      simp only [hg, hg4]
      generalize z4 (D k) s bb = y4 at *
      generalize z3 (D k) s bb = y3 at *
      generalize z2 (D k) s = y2 at *
      generalize z1 (D k) s = y1 at *
      rw [hg] at *
      generalize rnE (D k) s sO = e1 at *
      generalize rnE y1 sO s = e2 at *
      generalize apE y2 s bb = e3 at *
      generalize D k = Dk at *
      rw [hr] at hlp
      subst r1
      subst r2
      rw [if_neg (by simp)] at hD1
      rcases r3 with r3 | r3
      all_goals
        subst r3
        simp [hr, hk, hw, hq0, hlp, hso, o1, o2, o3, o4, r5, hrd, hrd4, r4, hh4]
        refine ⟨by omega, by omega, by rw [r4] at o4; exact o4, by omega, by omega, k + 1, by omega, by omega, ?_⟩
        rw [hD1]
        simp
  · have hk : ¬k < ks.length := by simpa using hk
    have e : D k = D ks.length := by show bnD d ks bb (min k ks.length) = bnD d ks bb (min ks.length ks.length); rw [Nat.min_eq_right (by omega), Nat.min_self]
    simp [e]
theorem back_c (b c : Bool) (l : List Wr) (bb : List Int) (hl : WrsOk l) : (boR true).Sat (ACall' Tryd.prog 4 [encWs b l, encBs c bb] []) := by
  obtain ⟨hI, hQ⟩ := bkD_inv l l.length
  obtain ⟨ks, hks⟩ := hI.srt
  have hl1 := ba_loop b c l bb hl 0
  have hl2 := bn_loop c bb ks (bkD l l.length) hI hQ hks 0
  obtain ⟨j1, j2, j3, j4⟩ := bnD_inv (b := bb) hI hQ (fun x hx => (hks.srt.mem x).2 hx) ks.length (Nat.le_refl _)
  have hks2 : SrtOk ks (bnD (bkD l l.length) ks bb ks.length).has (bnD (bkD l l.length) ks bb ks.length).n := by
    rw [j4, funext j3]; exact hks
  refine ctr_vc (ht := bkH b c l bb ks (fun k => bkD l (min k l.length)) (fun k => bnD (bkD l l.length) ks bb (min k ks.length))) Tryd.mixed rfl ?_
  rw [vcBk_eq b c l bb ks (fun k => bkD l (min k l.length)) (fun k => bnD (bkD l l.length) ks bb (min k ks.length))]
  unfold vcBk
  have hd0 : (d0 65536).room = 65536 ∧ (d0 65536).used = 0 ∧ (d0 65536).down = false ∧ (d0 65536).trip = -1 ∧ (d0 65536).fail = -1 ∧ (d0 65536).n = 0 := ⟨rfl, rfl, rfl, rfl, rfl, rfl⟩
  have hdh : ∀ x, (d0 65536).has x = false := fun _ => rfl
  have k0 : bkD l (min 0 l.length) = d0 65536 := by rw [Nat.zero_min]; rfl
  have k1 : bnD (bkD l l.length) ks bb (min 0 ks.length) = bkD l l.length := by rw [Nat.zero_min]; rfl
  rw [k0] at hl1
  rw [k1] at hl2
  simp only [k0, k1, Nat.min_self] at *
  generalize bnD (bkD l l.length) ks bb ks.length = d2 at *
  generalize bkD l l.length = d1 at *
  simp [hd0, hdh, hl1, hl2, hks, hks2]
end Go.Proofs.YtfiohpojlgkmkaaDoor.O

namespace Go.Proofs.YtfiohpojlgkmkaaDoor.O
open Go.Ax Go.Shelf Go.RowKit Go.ChangeShapes Go.WideShapes Go.ChangeAt
set_option maxRecDepth 1000000
def toI {K : Type} : DataW K → Int
  | .lit (.int _ a) => a
  | _ => 0
def toS {K : Type} : DataW K → ByteArray
  | .lit (.string l) => ⟨l.toArray⟩
  | _ => ByteArray.empty
theorem encI_ok {K : Type} {k : IntKind} {d : DataW K} (h : (Sh.int k).wf d) : (Sh.int k).enc d = [.y (.int k (toI d))] := by
  obtain ⟨k', n, rfl, _⟩ := h
  rfl
theorem encS_ok {K : Type} {d : DataW K} (h : Sh.str.wf d) : Sh.str.enc d = [.y (.string (toS d))] := by
  obtain ⟨l, rfl, _⟩ := h
  rfl
theorem enc_st {K : Type} (fs : List Sh) (ds : List (DataW K)) : (Sh.st fs).enc (.agg ds) = Sh.encL fs ds := by simp only [Sh.enc]
theorem enc_cons {K : Type} (s : Sh) (r : List Sh) (d : DataW K) (ds : List (DataW K)) : Sh.encL (s :: r) (d :: ds) = s.enc d ++ Sh.encL r ds := by simp only [Sh.encL]
theorem enc_nil {K : Type} (l : List (DataW K)) : Sh.encL [] l = [] := by simp only [Sh.encL]
def toB {K : Type} : DataW K → Bool
  | .lit (.bool b) => b
  | _ => false
theorem encO_ok {K : Type} {d : DataW K} (h : Sh.bool.wf d) : Sh.bool.enc d = [.y (.bool (toB d))] := by
  obtain ⟨l, rfl⟩ := h
  rfl
theorem Tryd.own : ownKnob Tryd.prog.godebug = Option.none := by kernel_rfl
theorem Tryd.laidOut : laidOutB Tryd.prog = true := by kernel_rfl
theorem Tryd.mapsRowed : mapsRowed Tryd.prog = true := by kernel_rfl
theorem Tryd.slicesOk : slicesOk Tryd.prog = true := by kernel_rfl
theorem underBool : Tryd.prog.underlying 4 = some .bool := by kernel_rfl
theorem relB {K : Type} {d : DataW K} (hd : (Sh.sl (.int .u8)).wf d) {H : HH} {E : Env} {v : Value} (h : Rel (slAV (.int .u8) d) H E v) : Rel (encBs true (listOf toI d)) H E v := conv_sl (encA := encB) (fun x hx => encI_ok hx) hd h
def structTypes (P : Program) (t : TypeId) : Option (List TypeId) := match P.underlying t with | some (.struct fs) => some (fs.toList.map (·.type)) | _ => Option.none
theorem structTypes_ok {P : Program} {t : TypeId} {l : List TypeId} (h : structTypes P t = some l) : ∃ fs, P.underlying t = some (.struct fs) ∧ fs.toList.map (·.type) = l := by
  unfold structTypes at h
  split at h
  · rename_i fs hu
    exact ⟨fs, hu, Option.some.inj h⟩
  · cases h
theorem weights_elem {K : Type} {P : Program} {e : TypeId} : ∀ {xs : List (DataW K)}, (DataW.weightsAll P e xs).all (· ≤ reachBytes) = true → ∀ x ∈ xs, (x.weights P e).all (· ≤ reachBytes) = true
  | [], _, _, h => by cases h
  | y :: r, h, x, hx => by
    rw [DataW.weightsAll, List.all_append, Bool.and_eq_true] at h
    rcases List.mem_cons.1 hx with rfl | hx
    · exact h.1
    · exact weights_elem h.2 x hx
theorem weights_elems {K : Type} {P : Program} {t u : TypeId} {xs r : List (DataW K)} (hu : P.underlying t = some (.slice u)) (h : ((DataW.slice xs r).weights P t).all (· ≤ reachBytes) = true) : ∀ x ∈ xs, (x.weights P u).all (· ≤ reachBytes) = true := by
  rw [DataW.weights, hu] at h
  simp only [List.all_cons, List.all_append, Bool.and_eq_true] at h
  exact weights_elem h.2.1
theorem undBs : Tryd.prog.underlying 32 = some (.slice 5) := by kernel_rfl
theorem bytesB : Tryd.prog.bytesOf 5 = 1 := by kernel_rfl
theorem bs_sized {K : Type} {d : DataW K} (hw : (d.weights Tryd.prog 32).all (· ≤ reachBytes) = true) : (listOf toI d).length ≤ 140737488351232 := by
  have := weights_slice toI undBs hw
  rwa [bytesB, Nat.mul_one] at this
def shWr : Sh := .st [.str, .sl (.int .u8), .bool]
def toWr {K : Type} : DataW K → Wr
  | .agg [a, b, c] => ⟨toS a, listOf toI b, toB c⟩
  | _ => default
theorem wr_enc {K : Type} {d : DataW K} (hd : shWr.wf d) : ∃ a b c, d = .agg [a, b, c] ∧ (Sh.sl (.int .u8)).wf b ∧ shWr.enc d = [.y (.string (toS a)), slAV (.int .u8) b, .y (.bool (toB c))] := by
  obtain ⟨ds, rfl, d1, r1, rfl, w1, d2, r2, rfl, w2, d3, r3, rfl, w3, rfl⟩ := hd
  refine ⟨d1, d2, d3, rfl, w2, ?_⟩
  simp only [shWr, enc_st, enc_cons, enc_nil, encS_ok w1, slAV_eq, encO_ok w3]
  rfl
theorem wr_conv {K : Type} {d : DataW K} (hd : shWr.wf d) (j : Nat) (hj : j < 3) (H : HH) (E : Env) (v : Value) (h : Rel (Ax.get (shWr.enc d) j) H E v) : Rel (Ax.get (encW (toWr d)) j) H E v := by
  obtain ⟨a, b, c, rfl, wb, he⟩ := wr_enc hd
  rw [he] at h
  match j, hj with
  | 0, _ => exact h
  | 1, _ => exact relB wb h
  | 2, _ => exact h
theorem relWrs {K : Type} {d : DataW K} (hd : (Sh.sl shWr).wf d) {H : HH} {E : Env} {v : Value} (h : Rel (slAV shWr d) H E v) : Rel (encWs true (listOf toWr d)) H E v :=
  conv_slR (encA := encW) (fun x hx j hj H E v => wr_conv hx j hj H E v) hd h
theorem undWrs : Tryd.prog.underlying 22 = some (.slice 34) := by kernel_rfl
theorem bytesWr : Tryd.prog.bytesOf 34 = 48 := by kernel_rfl
theorem undWr : ∃ fs, Tryd.prog.underlying 34 = some (.struct fs) ∧ fs.toList.map (·.type) = [9, 32, 4] := structTypes_ok (by kernel_rfl)
theorem wr_sized {K : Type} {d : DataW K} (hd : shWr.wf d) (hw : (d.weights Tryd.prog 34).all (· ≤ reachBytes) = true) : (toWr d).b.length ≤ 140737488355328 := by
  obtain ⟨a, b, c, rfl, wb, _⟩ := wr_enc hd
  obtain ⟨fs, hf, ht⟩ := undWr
  have h := weights_struct hf hw
  rw [ht] at h
  obtain ⟨_, h⟩ := weights_cons h
  obtain ⟨h2, _⟩ := weights_cons h
  have k2 := bs_sized h2
  show (listOf toI b).length ≤ _
  omega
theorem wrs_ok {K : Type} {d : DataW K} (hd : (Sh.sl shWr).wf d) (hw : (d.weights Tryd.prog 22).all (· ≤ reachBytes) = true) : WrsOk (listOf toWr d) := by
  have hl := weights_slice toWr undWrs hw
  rw [bytesWr] at hl
  refine ⟨?_, by omega⟩
  rcases hd with rfl | ⟨xs, r, rfl, hx⟩
  · intro y hy; cases hy
  · intro y hy
    obtain ⟨x, hx', rfl⟩ := List.mem_map.1 hy
    exact wr_sized (hx x hx') (weights_elems undWrs hw x hx')
theorem hd_var : Tryd.prog.globalNamed "errors.errorType" = some 0 := by kernel_rfl
theorem hd_row : (Tryd.prog.cutTypes.find? (·.1 == "internal/reflectlite.rtype")).map (·.2) = some 103 := by kernel_rfl
theorem hd_one : ((List.range Tryd.prog.types.size).filter fun t => Tryd.prog.rowNamed t [101, 114, 114, 111, 114]) = [51] := by kernel_rfl
theorem gl_of {laid : List (String × DataW Unit)} {W : World} (hf : (laid.filter fun x => x.2.handleName?.isSome) = [("errors.errorType", Rows.laid_errors_errorType)]) (h : laidMetH Tryd.prog laid W) : GlOk W := by
  unfold laidMetH at h
  rw [hf] at h
  obtain ⟨name, u, ty, e1, e2, e3, e4, e5⟩ := h.2 _ (List.mem_singleton.2 rfl)
  have en : name = [101, 114, 114, 111, 114] := (Option.some.inj e1).symm
  subst en
  obtain rfl := Option.some.inj (hd_row.symm.trans e2)
  have hm : ty ∈ (List.range Tryd.prog.types.size).filter fun t => Tryd.prog.rowNamed t [101, 114, 114, 111, 114] := List.mem_filter.2 ⟨List.mem_range.2 e3, e4⟩
  rw [hd_one] at hm
  obtain rfl := List.mem_singleton.1 hm
  have hc := World.var?_cell hd_var e5 0
  intro p hp
  obtain rfl := List.mem_singleton.1 hp
  exact ⟨by kernel_rfl, hc⟩
noncomputable def hdWorld (os : Os) : World :=
  { World.holding Tryd.prog os ⟨#[], #[], []⟩ with heap := (World.holding Tryd.prog os ⟨#[], #[], []⟩).heap.modify 0 fun
      | .cells _ t frozen => .cells #[.iface 103 (.agg #[typeHandle Tryd.prog 51])] t frozen
      | o => o }
theorem laidMet_lay {P : Program} {w0 : World} {laid : List (String × DataW Unit)} (args : Array Value) (hf : w0.layFits P laid [] = true) (hi : w0.layIfaces P laid (w0.layVars P laid) = true) :
    laidMet P laid ((w0.layVars P laid).forCall (fun _ _ => 0) ⟨#[], args, []⟩).memory := by
  have e1 : (laid.filter fun x => (laid.map (·.1)).contains x.1) = laid := List.filter_eq_self.2 fun x hx => List.contains_iff_mem.2 (List.mem_map.2 ⟨x, hx, rfl⟩)
  have e2 : (laid.filter fun x => !(laid.map (·.1)).contains x.1) = [] := List.filter_eq_nil_iff.2 fun x hx => by rw [List.contains_iff_mem.2 (List.mem_map.2 ⟨x, hx, rfl⟩)]; simp
  have h : laidMet P laid (w0.layVars P laid) := laidMet_layVars (w0 := w0) (laid.map (·.1)) [] (by rw [e1]) (by rw [e1]; exact hf) (by rw [e1]; exact hi) (by rw [e2]; exact LaidIn.none)
  exact h.of_heap (by simp [World.memory, World.forCall, Input.heap])
end Go.Proofs.YtfiohpojlgkmkaaDoor.O
