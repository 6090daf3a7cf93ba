import Derived.KernelRfl
import Derived.Test.YtfiohpojlgkmkaaGreatDoorE12
import Derived.Test.YtfiohpojlgkmkaaGreatDoorW1
set_option linter.unusedVariables false
set_option linter.unusedSimpArgs false
set_option linter.unusedSectionVars false
namespace Go.Proofs.YtfiohpojlgkmkaaGreatDoor.O
open Go.Ax Go.Maps
set_option maxRecDepth 1000000
theorem nw_c (room : Int) : (nwR room).Sat (ACall' Tryz.prog 7 [.y (.int .i64 room)] []) := by
  refine ctr_vc (ht := nwH) Tryz.mixed rfl ?_
  rw [vcNw_eq room]
  unfold vcNw
  simp [d0]
  omega
noncomputable def nwC (room : Int) : Ctr Tryz.prog := ⟨7, [.y (.int .i64 room)], [], nwR room, nw_c room⟩
theorem sz_c (d : Dsk) (s : ByteArray) : (szR d s).Sat (ACall' Tryz.prog 13 [.ptr 0 0 0 0, .y (.string s)] (dkM d)) := by
  refine ctr_vc (ht := subA) Tryz.mixed rfl ?_
  rw [vcSz_eq d s]
  unfold vcSz
  cases hh : d.has s with
  | true => simp [get_t hh, hh]
  | false => simp [get_f hh, hh]
noncomputable def szC (d : Dsk) (s : ByteArray) : Ctr Tryz.prog := ⟨13, [.ptr 0 0 0 0, .y (.string s)], dkM d, szR d s, sz_c d s⟩
theorem dn_c (d : Dsk) : (T.ret (.y (.bool d.down), dkM d, jM) : T An).Sat (ACall' Tryz.prog 19 [.ptr 0 0 0 0] (dkM d)) := by
  refine ctr_vc (ht := subA) Tryz.mixed rfl ?_
  rw [vcDn_eq d]
  unfold vcDn
  simp
noncomputable def dnC (d : Dsk) : Ctr Tryz.prog := ⟨19, [.ptr 0 0 0 0], dkM d, .ret (.y (.bool d.down), dkM d, jM), dn_c d⟩
theorem us_c (d : Dsk) : (T.ret (.y (.int .i64 d.used), dkM d, jM) : T An).Sat (ACall' Tryz.prog 14 [.ptr 0 0 0 0] (dkM d)) := by
  refine ctr_vc (ht := subA) Tryz.mixed rfl ?_
  rw [vcUs_eq d]
  unfold vcUs
  simp
noncomputable def usC (d : Dsk) : Ctr Tryz.prog := ⟨14, [.ptr 0 0 0 0], dkM d, .ret (.y (.int .i64 d.used), dkM d, jM), us_c d⟩
theorem tp_c (d : Dsk) (n : Int) : (T.ret (.tup [], dkM { d with trip := mx n }, jM) : T An).Sat (ACall' Tryz.prog 18 [.ptr 0 0 0 0, .y (.int .i64 n)] (dkM d)) := by
  refine ctr_vc (ht := subA) Tryz.mixed rfl ?_
  rw [vcTp_eq d n]
  unfold vcTp
  simp [mx]
noncomputable def tpC (d : Dsk) (n : Int) : Ctr Tryz.prog := ⟨18, [.ptr 0 0 0 0, .y (.int .i64 n)], dkM d, .ret (.tup [], dkM { d with trip := mx n }, jM), tp_c d n⟩
theorem fl_c (d : Dsk) (n : Int) : (T.ret (.tup [], dkM { d with fail := mx n }, jM) : T An).Sat (ACall' Tryz.prog 20 [.ptr 0 0 0 0, .y (.int .i64 n)] (dkM d)) := by
  refine ctr_vc (ht := subA) Tryz.mixed rfl ?_
  rw [vcFl_eq d n]
  unfold vcFl
  simp [mx]
noncomputable def flC (d : Dsk) (n : Int) : Ctr Tryz.prog := ⟨20, [.ptr 0 0 0 0, .y (.int .i64 n)], dkM d, .ret (.tup [], dkM { d with fail := mx n }, jM), fl_c d n⟩
theorem li_c (d : Dsk) (ks : List ByteArray) (h : SrtOk ks d.has d.n) : (liR d ks).Sat (ACall' Tryz.prog 12 [.ptr 0 0 0 0] (dkM d)) := by
  refine ctr_vc (ht := liH d ks) Tryz.mixed rfl ?_
  rw [vcLi_eq d ks]
  unfold vcLi
  simp [h]
  intro k _
  rfl
noncomputable def liC (d : Dsk) (ks : List ByteArray) : Ctr Tryz.prog := ⟨12, [.ptr 0 0 0 0], dkM d, .need (SrtOk ks d.has d.n) (liR d ks), T.Sat.need fun h => li_c d ks h⟩
theorem sub_le {l : List Int} {a m : Nat} (h : a + m ≤ l.length) : contLe m 1 (Ax.rowAt a (cellsOf' encB l)) (cellsOf' encB ((l.drop a).take m)) := by
  intro k hk j _
  rw [rowAt_eq]
  unfold cellsOf'
  simp [List.getElem?_take, List.getElem?_drop, hk]
theorem rd_c (d : Dsk) (s : ByteArray) (a n : Int) (hl : (d.get s).b.length ≤ 140737488355328) (hn : n ≤ 9223372036854775807) : (rdR d (rdL d s a n) (rdE d s a n)).Sat (ACall' Tryz.prog 17 [.ptr 0 0 0 0, .y (.string s), .y (.int .i64 a), .y (.int .i64 n)] (dkM d)) := by
  refine ctr_vc (ht := rdH (rdL d s a n)) Tryz.mixed rfl ?_
  rw [vcRd_eq d s a n (rdL d s a n) (rdE d s a n)]
  unfold vcRd
  refine ⟨fun hd => ?_, fun hd => ?_⟩
  · have e : rdE d s a n = 22 := by simp [rdE, hd]
    simp [e, rdL]
  cases hh : d.has s with
  | false =>
    have e : rdE d s a n = 24 := by simp [rdE, hd, hh]
    simp [e, rdL]
  | true =>
    rw [get_t hh] at hl
    by_cases h1 : a < 0
    · have e : rdE d s a n = 1 := by simp [rdE, hd, hh, h1]
      simp [e, rdL, h1]
    by_cases h2 : n < 0
    · have e : rdE d s a n = 1 := by simp [rdE, hd, hh, h1, h2]
      simp [e, rdL, h1, h2]
    by_cases h3 : ((d.f s).b.length : Int) < a
    · have e : rdE d s a n = 1 := by simp [rdE, hd, hh, h1, h2, h3]
      simp [e, rdL, h1, h2, h3]
    have e : rdE d s a n = 0 := by simp [rdE, hd, hh, h1, h2, h3]
    obtain ⟨p, rfl⟩ : ∃ p : Nat, a = p := ⟨a.toNat, by omega⟩
    obtain ⟨q, rfl⟩ : ∃ q : Nat, n = q := ⟨n.toNat, by omega⟩
    have el : rdL d s p q = ((d.f s).b.drop p).take q := by simp [rdL, e]
    have w1 : IntKind.i64.wrap (((d.f s).b.length : Int) - p) = (((d.f s).b.length - p : Nat) : Int) := by rw [wrap_i64 (by omega) (by omega)]; omega
    have em : (if ((((d.f s).b.length - p : Nat) : Int) < (q : Int)) then (((d.f s).b.length - p : Nat) : Int) else (q : Int)) = ((min q ((d.f s).b.length - p) : Nat) : Int) := by
      split <;> omega
    have w2 : IntKind.i64.wrap ((p : Int) + ((min q ((d.f s).b.length - p) : Nat) : Int)) = ((p + min q ((d.f s).b.length - p) : Nat) : Int) := by rw [wrap_i64 (by omega) (by omega)]; omega
    have hsub := sub_le (l := (d.f s).b) (a := p) (m := min q ((d.f s).b.length - p)) (by omega)
    have htk : ((d.f s).b.drop p).take (min q ((d.f s).b.length - p)) = ((d.f s).b.drop p).take q := by
      rw [← List.length_drop (i := p), List.take_eq_take_min (l := (d.f s).b.drop p) (i := q)]
    rw [htk] at hsub
    simp only [w1, em, w2, e, el, Int.toNat_natCast]
    simp [h1, h2, h3]
    exact ⟨⟨by omega, by omega⟩, hsub, by omega⟩
noncomputable def rdC (d : Dsk) (s : ByteArray) (a n : Int) : Ctr Tryz.prog := ⟨17, [.ptr 0 0 0 0, .y (.string s), .y (.int .i64 a), .y (.int .i64 n)], dkM d, .need ((d.get s).b.length ≤ 140737488355328) (.need (n ≤ 9223372036854775807) (rdR d (rdL d s a n) (rdE d s a n))), T.Sat.need fun h1 => T.Sat.need fun h2 => rd_c d s a n h1 h2⟩
def kvA (keep : List Int) (i : Nat) : Int := if i < keep.length then keep.getD i 0 else 0
def mx0 (k : Int) : Int := if 0 > k then 0 else k
def crN (x : Fil) (k : Int) : Nat := (x.syn + (if (x.b.length : Int) - x.syn < mx0 k then (x.b.length : Int) - x.syn else mx0 k)).toNat
def crF (x : Fil) (k : Int) : Fil := ⟨x.b.take (crN x k), crN x k⟩
def crS (d : Dsk) (ks : List ByteArray) (keep : List Int) : Nat → Dsk
  | 0 => { d with used := 0 }
  | i + 1 => let y := crS d ks keep i; let s := ks.getD i default; let v := crF (y.f s) (kvA keep i); { y with f := fun x => if x = s then v else y.f x, used := IntKind.i64.wrap (y.used + v.b.length) }
def crT (b : Bool) (ks : List ByteArray) (keep : List Int) (k : Nat) : List AV := mkT 61 [(0, .ptr 0 0 0 0), (1, encIs b keep), (11, encSs true ks), (12, .y (.int .i64 ks.length)), (13, .y (.int .i64 k))]
def crO (y : Dsk) (_ : Unit) : Exit × List AV × List Blk := (.exit 0, mkT 61 [(0, .ptr 0 0 0 0)], dkM y)
noncomputable def crLH (l : List Int) : HintsT Tryz.prog := { withSh (hh _ noLp (cs1 49 0 24 (clnC false l) noCs) noOp) (sh1 16 8 9 784 noSh) with sub := subO }
def vcCrL (b : Bool) (X : Nat → Dsk) (ks : List ByteArray) (keep : List Int) (l : List Int) (k : Nat) : Prop :=
  (decide ((↑k : Int) < (↑(List.length ks) : Int)) = true → (true && decide ((↑k : Int) < (↑(List.length ks) : Int))) = true ∧ (decide ((↑k : Int) < (↑(List.length keep) : Int)) = true → (true && decide ((↑k : Int) < (↑(List.length keep) : Int))) = true ∧ ((X k).has (List.getD ks (Int.toNat (↑k : Int)) (@default ByteArray ByteArray.instInhabited)) = true → (true && decide ((0 : Int) ≤ IntKind.wrap IntKind.i64 (((X k).f (List.getD ks (Int.toNat (↑k : Int)) (@default ByteArray ByteArray.instInhabited))).syn + if IntKind.wrap IntKind.i64 ((↑(List.length ((X k).f (List.getD ks (Int.toNat (↑k : Int)) (@default ByteArray ByteArray.instInhabited))).b) : Int) - ((X k).f (List.getD ks (Int.toNat (↑k : Int)) (@default ByteArray ByteArray.instInhabited))).syn) < if (0 : Int) > List.getD keep (Int.toNat (↑k : Int)) (0 : Int) then (0 : Int) else List.getD keep (Int.toNat (↑k : Int)) (0 : Int) then IntKind.wrap IntKind.i64 ((↑(List.length ((X k).f (List.getD ks (Int.toNat (↑k : Int)) (@default ByteArray ByteArray.instInhabited))).b) : Int) - ((X k).f (List.getD ks (Int.toNat (↑k : Int)) (@default ByteArray ByteArray.instInhabited))).syn) else if (0 : Int) > List.getD keep (Int.toNat (↑k : Int)) (0 : Int) then (0 : Int) else List.getD keep (Int.toNat (↑k : Int)) (0 : Int))) && decide (IntKind.wrap IntKind.i64 (((X k).f (List.getD ks (Int.toNat (↑k : Int)) (@default ByteArray ByteArray.instInhabited))).syn + if IntKind.wrap IntKind.i64 ((↑(List.length ((X k).f (List.getD ks (Int.toNat (↑k : Int)) (@default ByteArray ByteArray.instInhabited))).b) : Int) - ((X k).f (List.getD ks (Int.toNat (↑k : Int)) (@default ByteArray ByteArray.instInhabited))).syn) < if (0 : Int) > List.getD keep (Int.toNat (↑k : Int)) (0 : Int) then (0 : Int) else List.getD keep (Int.toNat (↑k : Int)) (0 : Int) then IntKind.wrap IntKind.i64 ((↑(List.length ((X k).f (List.getD ks (Int.toNat (↑k : Int)) (@default ByteArray ByteArray.instInhabited))).b) : Int) - ((X k).f (List.getD ks (Int.toNat (↑k : Int)) (@default ByteArray ByteArray.instInhabited))).syn) else if (0 : Int) > List.getD keep (Int.toNat (↑k : Int)) (0 : Int) then (0 : Int) else List.getD keep (Int.toNat (↑k : Int)) (0 : Int)) ≤ (↑(List.length ((X k).f (List.getD ks (Int.toNat (↑k : Int)) (@default ByteArray ByteArray.instInhabited))).b) : Int))) = true ∧ ((false = false ∧ Int.toNat (IntKind.wrap IntKind.i64 (((X k).f (List.getD ks (Int.toNat (↑k : Int)) (@default ByteArray ByteArray.instInhabited))).syn + if IntKind.wrap IntKind.i64 ((↑(List.length ((X k).f (List.getD ks (Int.toNat (↑k : Int)) (@default ByteArray ByteArray.instInhabited))).b) : Int) - ((X k).f (List.getD ks (Int.toNat (↑k : Int)) (@default ByteArray ByteArray.instInhabited))).syn) < if (0 : Int) > List.getD keep (Int.toNat (↑k : Int)) (0 : Int) then (0 : Int) else List.getD keep (Int.toNat (↑k : Int)) (0 : Int) then IntKind.wrap IntKind.i64 ((↑(List.length ((X k).f (List.getD ks (Int.toNat (↑k : Int)) (@default ByteArray ByteArray.instInhabited))).b) : Int) - ((X k).f (List.getD ks (Int.toNat (↑k : Int)) (@default ByteArray ByteArray.instInhabited))).syn) else if (0 : Int) > List.getD keep (Int.toNat (↑k : Int)) (0 : Int) then (0 : Int) else List.getD keep (Int.toNat (↑k : Int)) (0 : Int))) - (0 : Nat) = List.length l ∧ contLe (Int.toNat (IntKind.wrap IntKind.i64 (((X k).f (List.getD ks (Int.toNat (↑k : Int)) (@default ByteArray ByteArray.instInhabited))).syn + if IntKind.wrap IntKind.i64 ((↑(List.length ((X k).f (List.getD ks (Int.toNat (↑k : Int)) (@default ByteArray ByteArray.instInhabited))).b) : Int) - ((X k).f (List.getD ks (Int.toNat (↑k : Int)) (@default ByteArray ByteArray.instInhabited))).syn) < if (0 : Int) > List.getD keep (Int.toNat (↑k : Int)) (0 : Int) then (0 : Int) else List.getD keep (Int.toNat (↑k : Int)) (0 : Int) then IntKind.wrap IntKind.i64 ((↑(List.length ((X k).f (List.getD ks (Int.toNat (↑k : Int)) (@default ByteArray ByteArray.instInhabited))).b) : Int) - ((X k).f (List.getD ks (Int.toNat (↑k : Int)) (@default ByteArray ByteArray.instInhabited))).syn) else if (0 : Int) > List.getD keep (Int.toNat (↑k : Int)) (0 : Int) then (0 : Int) else List.getD keep (Int.toNat (↑k : Int)) (0 : Int))) - (0 : Nat)) (1 : Nat) (Ax.rowAt (0 : Nat) (cellsOf' encB ((X k).f (List.getD ks (Int.toNat (↑k : Int)) (@default ByteArray ByteArray.instInhabited))).b)) (cellsOf' encB l)) ∧ True) ∧ True ∧ List.length l ≤ (140737488355328 : Nat) ∧ true = true ∧ ((∀ (k : Nat), k < List.length l → ∀ (j : Nat), j < (1 : Nat) → tagT (cellsOf' encB l k j) = true) ∧ True) ∧ List.getD ks (Int.toNat (↑k : Int)) (@default ByteArray ByteArray.instInhabited) = List.getD ks (Int.toNat (↑k : Int)) (@default ByteArray ByteArray.instInhabited) ∧ ∃ (j : Nat), List.length ks - j < List.length ks - k ∧ ((((0 : Nat) = (0 : Nat) ∧ (0 : Nat) = (0 : Nat)) ∧ (b = b ∧ List.length keep = List.length keep ∧ contLe (List.length keep) (1 : Nat) (cellsOf' encI keep) (cellsOf' encI keep)) ∧ (true = true ∧ List.length ks = List.length ks ∧ contLe (List.length ks) (1 : Nat) (cellsOf' encS ks) (cellsOf' encS ks)) ∧ (↑(List.length ks) : Int) = (↑(List.length ks) : Int) ∧ IntKind.wrap IntKind.i64 ((↑k : Int) + (1 : Int)) = (↑j : Int) ∧ True) ∧ (((True ∧ (X k).room = (X j).room ∧ IntKind.wrap IntKind.i64 ((X k).used + (↑(List.length l) : Int)) = (X j).used ∧ (X k).down = (X j).down ∧ (X k).trip = (X j).trip ∧ (X k).fail = (X j).fail ∧ True) ∧ ((X k).n = (X j).n ∧ (∀ (x : ByteArray), (X k).has x = (X j).has x) ∧ (((List.length ((X j).f (List.getD ks (Int.toNat (↑k : Int)) (@default ByteArray ByteArray.instInhabited))).b = List.length l ∧ contLe (List.length ((X j).f (List.getD ks (Int.toNat (↑k : Int)) (@default ByteArray ByteArray.instInhabited))).b) (1 : Nat) (cellsOf' encB l) (cellsOf' encB ((X j).f (List.getD ks (Int.toNat (↑k : Int)) (@default ByteArray ByteArray.instInhabited))).b)) ∧ (true = true ∧ (↑(List.length l) : Int) = ((X j).f (List.getD ks (Int.toNat (↑k : Int)) (@default ByteArray ByteArray.instInhabited))).syn) ∧ True) ∧ True) ∧ ∀ (x : ByteArray), (X k).has x = true → ¬x = List.getD ks (Int.toNat (↑k : Int)) (@default ByteArray ByteArray.instInhabited) → (List.length ((X k).f x).b = List.length ((X j).f x).b ∧ contLe (List.length ((X k).f x).b) (1 : Nat) (cellsOf' encB ((X k).f x).b) (cellsOf' encB ((X j).f x).b)) ∧ ((X k).f x).syn = ((X j).f x).syn ∧ True) ∧ True) ∧ True) ∧ true = true) ∧ true = true ∧ () = ()) ∧ ((X k).has (List.getD ks (Int.toNat (↑k : Int)) (@default ByteArray ByteArray.instInhabited)) = false → False)) ∧ (decide ((↑k : Int) < (↑(List.length keep) : Int)) = false → ((X k).has (List.getD ks (Int.toNat (↑k : Int)) (@default ByteArray ByteArray.instInhabited)) = true → (true && decide ((0 : Int) ≤ IntKind.wrap IntKind.i64 (((X k).f (List.getD ks (Int.toNat (↑k : Int)) (@default ByteArray ByteArray.instInhabited))).syn + if IntKind.wrap IntKind.i64 ((↑(List.length ((X k).f (List.getD ks (Int.toNat (↑k : Int)) (@default ByteArray ByteArray.instInhabited))).b) : Int) - ((X k).f (List.getD ks (Int.toNat (↑k : Int)) (@default ByteArray ByteArray.instInhabited))).syn) < (0 : Int) then IntKind.wrap IntKind.i64 ((↑(List.length ((X k).f (List.getD ks (Int.toNat (↑k : Int)) (@default ByteArray ByteArray.instInhabited))).b) : Int) - ((X k).f (List.getD ks (Int.toNat (↑k : Int)) (@default ByteArray ByteArray.instInhabited))).syn) else (0 : Int))) && decide (IntKind.wrap IntKind.i64 (((X k).f (List.getD ks (Int.toNat (↑k : Int)) (@default ByteArray ByteArray.instInhabited))).syn + if IntKind.wrap IntKind.i64 ((↑(List.length ((X k).f (List.getD ks (Int.toNat (↑k : Int)) (@default ByteArray ByteArray.instInhabited))).b) : Int) - ((X k).f (List.getD ks (Int.toNat (↑k : Int)) (@default ByteArray ByteArray.instInhabited))).syn) < (0 : Int) then IntKind.wrap IntKind.i64 ((↑(List.length ((X k).f (List.getD ks (Int.toNat (↑k : Int)) (@default ByteArray ByteArray.instInhabited))).b) : Int) - ((X k).f (List.getD ks (Int.toNat (↑k : Int)) (@default ByteArray ByteArray.instInhabited))).syn) else (0 : Int)) ≤ (↑(List.length ((X k).f (List.getD ks (Int.toNat (↑k : Int)) (@default ByteArray ByteArray.instInhabited))).b) : Int))) = true ∧ ((false = false ∧ Int.toNat (IntKind.wrap IntKind.i64 (((X k).f (List.getD ks (Int.toNat (↑k : Int)) (@default ByteArray ByteArray.instInhabited))).syn + if IntKind.wrap IntKind.i64 ((↑(List.length ((X k).f (List.getD ks (Int.toNat (↑k : Int)) (@default ByteArray ByteArray.instInhabited))).b) : Int) - ((X k).f (List.getD ks (Int.toNat (↑k : Int)) (@default ByteArray ByteArray.instInhabited))).syn) < (0 : Int) then IntKind.wrap IntKind.i64 ((↑(List.length ((X k).f (List.getD ks (Int.toNat (↑k : Int)) (@default ByteArray ByteArray.instInhabited))).b) : Int) - ((X k).f (List.getD ks (Int.toNat (↑k : Int)) (@default ByteArray ByteArray.instInhabited))).syn) else (0 : Int))) - (0 : Nat) = List.length l ∧ contLe (Int.toNat (IntKind.wrap IntKind.i64 (((X k).f (List.getD ks (Int.toNat (↑k : Int)) (@default ByteArray ByteArray.instInhabited))).syn + if IntKind.wrap IntKind.i64 ((↑(List.length ((X k).f (List.getD ks (Int.toNat (↑k : Int)) (@default ByteArray ByteArray.instInhabited))).b) : Int) - ((X k).f (List.getD ks (Int.toNat (↑k : Int)) (@default ByteArray ByteArray.instInhabited))).syn) < (0 : Int) then IntKind.wrap IntKind.i64 ((↑(List.length ((X k).f (List.getD ks (Int.toNat (↑k : Int)) (@default ByteArray ByteArray.instInhabited))).b) : Int) - ((X k).f (List.getD ks (Int.toNat (↑k : Int)) (@default ByteArray ByteArray.instInhabited))).syn) else (0 : Int))) - (0 : Nat)) (1 : Nat) (Ax.rowAt (0 : Nat) (cellsOf' encB ((X k).f (List.getD ks (Int.toNat (↑k : Int)) (@default ByteArray ByteArray.instInhabited))).b)) (cellsOf' encB l)) ∧ True) ∧ True ∧ List.length l ≤ (140737488355328 : Nat) ∧ true = true ∧ ((∀ (k : Nat), k < List.length l → ∀ (j : Nat), j < (1 : Nat) → tagT (cellsOf' encB l k j) = true) ∧ True) ∧ List.getD ks (Int.toNat (↑k : Int)) (@default ByteArray ByteArray.instInhabited) = List.getD ks (Int.toNat (↑k : Int)) (@default ByteArray ByteArray.instInhabited) ∧ ∃ (j : Nat), List.length ks - j < List.length ks - k ∧ ((((0 : Nat) = (0 : Nat) ∧ (0 : Nat) = (0 : Nat)) ∧ (b = b ∧ List.length keep = List.length keep ∧ contLe (List.length keep) (1 : Nat) (cellsOf' encI keep) (cellsOf' encI keep)) ∧ (true = true ∧ List.length ks = List.length ks ∧ contLe (List.length ks) (1 : Nat) (cellsOf' encS ks) (cellsOf' encS ks)) ∧ (↑(List.length ks) : Int) = (↑(List.length ks) : Int) ∧ IntKind.wrap IntKind.i64 ((↑k : Int) + (1 : Int)) = (↑j : Int) ∧ True) ∧ (((True ∧ (X k).room = (X j).room ∧ IntKind.wrap IntKind.i64 ((X k).used + (↑(List.length l) : Int)) = (X j).used ∧ (X k).down = (X j).down ∧ (X k).trip = (X j).trip ∧ (X k).fail = (X j).fail ∧ True) ∧ ((X k).n = (X j).n ∧ (∀ (x : ByteArray), (X k).has x = (X j).has x) ∧ (((List.length ((X j).f (List.getD ks (Int.toNat (↑k : Int)) (@default ByteArray ByteArray.instInhabited))).b = List.length l ∧ contLe (List.length ((X j).f (List.getD ks (Int.toNat (↑k : Int)) (@default ByteArray ByteArray.instInhabited))).b) (1 : Nat) (cellsOf' encB l) (cellsOf' encB ((X j).f (List.getD ks (Int.toNat (↑k : Int)) (@default ByteArray ByteArray.instInhabited))).b)) ∧ (true = true ∧ (↑(List.length l) : Int) = ((X j).f (List.getD ks (Int.toNat (↑k : Int)) (@default ByteArray ByteArray.instInhabited))).syn) ∧ True) ∧ True) ∧ ∀ (x : ByteArray), (X k).has x = true → ¬x = List.getD ks (Int.toNat (↑k : Int)) (@default ByteArray ByteArray.instInhabited) → (List.length ((X k).f x).b = List.length ((X j).f x).b ∧ contLe (List.length ((X k).f x).b) (1 : Nat) (cellsOf' encB ((X k).f x).b) (cellsOf' encB ((X j).f x).b)) ∧ ((X k).f x).syn = ((X j).f x).syn ∧ True) ∧ True) ∧ True) ∧ true = true) ∧ true = true ∧ () = ()) ∧ ((X k).has (List.getD ks (Int.toNat (↑k : Int)) (@default ByteArray ByteArray.instInhabited)) = false → False))) ∧ (decide ((↑k : Int) < (↑(List.length ks) : Int)) = false → (((0 : Nat) = (0 : Nat) ∧ (0 : Nat) = (0 : Nat)) ∧ True) ∧ ((True ∧ (X k).room = (X (List.length ks)).room ∧ (X k).used = (X (List.length ks)).used ∧ (X k).down = (X (List.length ks)).down ∧ (X k).trip = (X (List.length ks)).trip ∧ (X k).fail = (X (List.length ks)).fail ∧ True) ∧ ((X k).n = (X (List.length ks)).n ∧ (∀ (x : ByteArray), (X k).has x = (X (List.length ks)).has x) ∧ ∀ (x : ByteArray), (X k).has x = true → (List.length ((X k).f x).b = List.length ((X (List.length ks)).f x).b ∧ contLe (List.length ((X k).f x).b) (1 : Nat) (cellsOf' encB ((X k).f x).b) (cellsOf' encB ((X (List.length ks)).f x).b)) ∧ ((X k).f x).syn = ((X (List.length ks)).f x).syn ∧ True) ∧ True) ∧ true = true)
theorem vcCrL_eq (b : Bool) (X : Nat → Dsk) (ks : List ByteArray) (keep : List Int) (l : List Int) (k : Nat) : (loopVC Tryz.prog (crLH l) 16 2 (fun k => ks.length - k) (crT b ks keep) (fun k => dkM (X k)) jM (fun _ => .ret ()) (crO (X ks.length)) k) = vcCrL b X ks keep l k := by kernel_rfl
noncomputable def crH (b : Bool) (d : Dsk) (X : Nat → Dsk) (ks : List ByteArray) (keep : List Int) : HintsT Tryz.prog := { hh _ (lp1 16 2 (jobOf (crT b ks keep) (fun k => dkM (X k)) jM (fun _ => .ret ()) (crO (X ks.length)) 0) noLp) (cs1 16 1 1 (liC { d with used := 0 } ks) noCs) noOp with sub := fun _ => true }
def vcCr (b : Bool) (d : Dsk) (X : Nat → Dsk) (ks : List ByteArray) (keep : List Int) : Prop :=
  (((0 : Nat) = (0 : Nat) ∧ (0 : Nat) = (0 : Nat)) ∧ True) ∧ ((True ∧ d.room = d.room ∧ (0 : Int) = (0 : Int) ∧ d.down = d.down ∧ d.trip = d.trip ∧ d.fail = d.fail ∧ True) ∧ (d.n = d.n ∧ (∀ (x : ByteArray), d.has x = d.has x) ∧ ∀ (x : ByteArray), d.has x = true → (List.length (d.f x).b = List.length (d.f x).b ∧ contLe (List.length (d.f x).b) (1 : Nat) (cellsOf' encB (d.f x).b) (cellsOf' encB (d.f x).b)) ∧ (d.f x).syn = (d.f x).syn ∧ True) ∧ True) ∧ SrtOk ks d.has d.n ∧ ((((0 : Nat) = (0 : Nat) ∧ (0 : Nat) = (0 : Nat)) ∧ (b = b ∧ List.length keep = List.length keep ∧ contLe (List.length keep) (1 : Nat) (cellsOf' encI keep) (cellsOf' encI keep)) ∧ (true = true ∧ List.length ks = List.length ks ∧ contLe (List.length ks) (1 : Nat) (cellsOf' encS ks) (cellsOf' encS ks)) ∧ (↑(List.length ks) : Int) = (↑(List.length ks) : Int) ∧ (0 : Int) = (0 : Int) ∧ True) ∧ ((True ∧ d.room = (X (0 : Nat)).room ∧ (0 : Int) = (X (0 : Nat)).used ∧ d.down = (X (0 : Nat)).down ∧ d.trip = (X (0 : Nat)).trip ∧ d.fail = (X (0 : Nat)).fail ∧ True) ∧ (d.n = (X (0 : Nat)).n ∧ (∀ (x : ByteArray), d.has x = (X (0 : Nat)).has x) ∧ ∀ (x : ByteArray), d.has x = true → (List.length (d.f x).b = List.length ((X (0 : Nat)).f x).b ∧ contLe (List.length (d.f x).b) (1 : Nat) (cellsOf' encB (d.f x).b) (cellsOf' encB ((X (0 : Nat)).f x).b)) ∧ (d.f x).syn = ((X (0 : Nat)).f x).syn ∧ True) ∧ True) ∧ true = true) ∧ LoopOk Tryz.prog (16 : Nat) (2 : Nat) (loopAt Tryz.prog (16 : Nat) (2 : Nat)) { t := crT b ks keep (0 : Nat), m := dkM (X (0 : Nat)), mv := [] : St } (T.map (lout jM (crO (X (List.length ks)))) ((fun (x : Nat) => T.ret ()) (0 : Nat))) ∧ True ∧ (True ∧ (X (List.length ks)).room = (X (List.length ks)).room ∧ (X (List.length ks)).used = (X (List.length ks)).used ∧ false = false ∧ (-1 : Int) = (-1 : Int) ∧ (-1 : Int) = (-1 : Int) ∧ True) ∧ ((X (List.length ks)).n = (X (List.length ks)).n ∧ (∀ (x : ByteArray), (X (List.length ks)).has x = (X (List.length ks)).has x) ∧ ∀ (x : ByteArray), (X (List.length ks)).has x = true → (List.length ((X (List.length ks)).f x).b = List.length ((X (List.length ks)).f x).b ∧ contLe (List.length ((X (List.length ks)).f x).b) (1 : Nat) (cellsOf' encB ((X (List.length ks)).f x).b) (cellsOf' encB ((X (List.length ks)).f x).b)) ∧ ((X (List.length ks)).f x).syn = ((X (List.length ks)).f x).syn ∧ True) ∧ True
theorem vcCr_eq (b : Bool) (d : Dsk) (X : Nat → Dsk) (ks : List ByteArray) (keep : List Int) : (ctrVC Tryz.prog (crH b d X ks keep) 16 [.ptr 0 0 0 0, encIs b keep] (dkM d) (.ret (.tup [], dkM { X ks.length with down := false, trip := -1, fail := -1 }, jM))) = vcCr b d X ks keep := by kernel_rfl
end Go.Proofs.YtfiohpojlgkmkaaGreatDoor.O

namespace Go.Proofs.YtfiohpojlgkmkaaGreatDoor.O
open Go.Ax Go.Maps
set_option maxRecDepth 1000000
structure FOk (x : Fil) : Prop where
  l : 0 ≤ x.syn
  u : x.syn ≤ x.b.length
  m : x.b.length ≤ 140737488355328
theorem mx0_nn (k : Int) : 0 ≤ mx0 k := by unfold mx0; split <;> omega
theorem crN_le {x : Fil} (h : FOk x) (k : Int) : crN x k ≤ x.b.length := by
  have h1 := h.l
  have h2 := h.u
  have h3 := mx0_nn k
  unfold crN
  split <;> omega
theorem crF_ok {x : Fil} (h : FOk x) (k : Int) : FOk (crF x k) := by
  have := crN_le h k
  have hm := h.m
  refine ⟨?_, ?_, ?_⟩ <;> simp only [crF, List.length_take] <;> omega
theorem crF_len {x : Fil} (h : FOk x) (k : Int) : (crF x k).b.length = crN x k := by
  have := crN_le h k
  simp only [crF, List.length_take]; omega
theorem crS_has (d : Dsk) (ks : List ByteArray) (keep : List Int) : ∀ i, (crS d ks keep i).has = d.has ∧ (crS d ks keep i).n = d.n
  | 0 => ⟨rfl, rfl⟩
  | i + 1 => crS_has d ks keep i
theorem crS_ok {d : Dsk} {ks : List ByteArray} {keep : List Int} (h : ∀ s, d.has s = true → FOk (d.f s)) (hs : Srt ks d.has) : ∀ i, i ≤ ks.length → ∀ s, d.has s = true → FOk ((crS d ks keep i).f s)
  | 0, _ => h
  | i + 1, hi => fun s hsd => by
    have ih := crS_ok (keep := keep) h hs i (by omega)
    have hk : d.has (ks.getD i default) = true := (hs.mem _).2 (by rw [List.getD_eq_getElem?_getD, List.getElem?_eq_getElem (by omega)]; exact List.getElem_mem _)
    show FOk (if s = ks.getD i default then crF ((crS d ks keep i).f (ks.getD i default)) (kvA keep i) else (crS d ks keep i).f s)
    split
    · exact crF_ok (ih _ hk) _
    · exact ih s hsd
theorem takeB_le {l : List Int} {m : Nat} : contLe m 1 (cellsOf' encB l) (cellsOf' encB (l.take m)) := by
  intro k hk j _
  unfold cellsOf'
  simp [List.getElem?_take, hk]
def crX (d : Dsk) (ks : List ByteArray) (keep : List Int) (k : Nat) : Dsk := crS d ks keep (min k ks.length)
theorem cr_loop (b : Bool) (d : Dsk) (ks : List ByteArray) (keep : List Int) (h : ∀ s, d.has s = true → FOk (d.f s)) (hs : Srt ks d.has) (hn : ks.length ≤ 140737488355328) (k : Nat) : LoopOk Tryz.prog 16 2 (loopAt Tryz.prog 16 2) ⟨crT b ks keep k, dkM (crX d ks keep k), []⟩ ((T.ret ()).map (lout jM (crO (crX d ks keep ks.length)))) := by
  refine loop_vcH Tryz.mixed (fun _ => rfl) (ht := fun k => crLH (crF ((crS d ks keep k).f (ks.getD k default)) (kvA keep k)).b) (μ := fun k => ks.length - k) (stT := crT b ks keep) (stM := fun k => dkM (crX d ks keep k)) (X := jM) (o := fun _ => .ret ()) (S := crO (crX d ks keep ks.length)) (fun k => (vcCrL_eq b (crX d ks keep) ks keep (crF ((crS d ks keep k).f (ks.getD k default)) (kvA keep k)).b k).mpr ?_) k
  unfold vcCrL
  simp only [Int.toNat_natCast]
  refine ⟨fun hk => ?_, fun hk => ?_⟩
  · have hk : k < ks.length := by simpa using hk
    have x1 : crX d ks keep k = crS d ks keep k := by unfold crX; rw [Nat.min_eq_left (by omega)]
    have x2 : crX d ks keep (k + 1) = crS d ks keep (k + 1) := by unfold crX; rw [Nat.min_eq_left (by omega)]
    rw [x1]
    have hks : d.has (ks.getD k default) = true := (hs.mem _).2 (by rw [List.getD_eq_getElem?_getD, List.getElem?_eq_getElem hk]; exact List.getElem_mem _)
    have hf := crS_ok (keep := keep) h hs k (by omega) _ hks
    have hh := (crS_has d ks keep k).1
    have hx : (crS d ks keep (k + 1)) = { crS d ks keep k with f := fun x => if x = ks.getD k default then crF ((crS d ks keep k).f (ks.getD k default)) (kvA keep k) else (crS d ks keep k).f x, used := IntKind.i64.wrap ((crS d ks keep k).used + (crF ((crS d ks keep k).f (ks.getD k default)) (kvA keep k)).b.length) } := rfl
    have hks2 : (crS d ks keep k).has (ks.getD k default) = true := by rw [hh]; exact hks
    have hl := crF_len hf (kvA keep k)
    have hle := crN_le hf (kvA keep k)
    have hw := hf.l
    have hw2 := hf.u
    have hw3 := hf.m
    generalize ks.getD k default = s at *
    generalize hy : crS d ks keep k = y at *
    have e1 : IntKind.i64.wrap (((y.f s).b.length : Int) - (y.f s).syn) = ((y.f s).b.length : Int) - (y.f s).syn := wrap_i64 (by omega) (by omega)
    have key : ∀ kv : Int, kv = kvA keep k → IntKind.i64.wrap ((y.f s).syn + if ((y.f s).b.length : Int) - (y.f s).syn < (if 0 > kv then 0 else kv) then ((y.f s).b.length : Int) - (y.f s).syn else if 0 > kv then 0 else kv) = (crN (y.f s) (kvA keep k) : Int) := by
      rintro kv rfl
      have := mx0_nn (kvA keep k)
      unfold mx0 at this
      unfold crN mx0
      rw [wrap_i64]
      all_goals (split <;> omega)
    have hb : (crF (y.f s) (kvA keep k)).b = (y.f s).b.take (crN (y.f s) (kvA keep k)) := rfl
    have hsyn : (crF (y.f s) (kvA keep k)).syn = (crN (y.f s) (kvA keep k) : Int) := rfl
    have tk := takeB_le (l := (y.f s).b) (m := crN (y.f s) (kvA keep k))
    rw [← hb] at tk
    rw [e1]
    refine ⟨by simpa using hk, fun hkk => ⟨by simpa using hkk, fun _ => ?_, fun hq => by rw [hks2] at hq; cases hq⟩, fun hkk => ⟨fun _ => ?_, fun hq => by rw [hks2] at hq; cases hq⟩⟩
    · have e2 : keep.getD k 0 = kvA keep k := by
        have : k < keep.length := by simpa using hkk
        simp [kvA, this]
      rw [key _ e2]
      generalize kvA keep k = kv at *
      generalize crF (y.f s) kv = v at *
      generalize crN (y.f s) kv = m at *
      have hl2 := hl
      simp [hl, hsyn]
      refine ⟨hle, tk, by omega, fun _ _ => rfl, ?_⟩
      refine Exists.intro (k + 1) ?_
      rw [x2, hx]
      simp +contextual [hl, hsyn]
      exact ⟨by omega, wrap_i64 (by omega) (by omega)⟩
    · have e2 : (0 : Int) = kvA keep k := by
        have : ¬k < keep.length := by simpa using hkk
        simp [kvA, this]
      have e3 := key _ e2
      simp only [show ¬((0 : Int) > 0) by omega, if_false] at e3
      rw [e3]
      generalize kvA keep k = kv at *
      generalize crF (y.f s) kv = v at *
      generalize crN (y.f s) kv = m at *
      simp [hl, hsyn]
      refine ⟨hle, tk, by omega, fun _ _ => rfl, ?_⟩
      refine Exists.intro (k + 1) ?_
      rw [x2, hx]
      simp +contextual [hl, hsyn]
      exact ⟨by omega, wrap_i64 (by omega) (by omega)⟩
  · have : ¬k < ks.length := by simpa using hk
    have e : crX d ks keep k = crX d ks keep ks.length := by unfold crX; rw [Nat.min_eq_right (by omega), Nat.min_self]
    rw [e]
    simp
def crD (d : Dsk) (ks : List ByteArray) (keep : List Int) : Dsk := { crS d ks keep ks.length with down := false, trip := -1, fail := -1 }
theorem cr_c (b : Bool) (d : Dsk) (ks : List ByteArray) (keep : List Int) (h : ∀ s, d.has s = true → FOk (d.f s)) (hs : SrtOk ks d.has d.n) : (T.ret (.tup [], dkM (crD d ks keep), jM) : T An).Sat (ACall' Tryz.prog 16 [.ptr 0 0 0 0, encIs b keep] (dkM d)) := by
  have e0 : crX d ks keep ks.length = crS d ks keep ks.length := by unfold crX; rw [Nat.min_self]
  have hlp := cr_loop b d ks keep h hs.srt (by have := hs.bnd; have := hs.len; omega) 0
  have e1 : crX d ks keep 0 = { d with used := 0 } := by unfold crX; rw [Nat.zero_min]; rfl
  unfold crD
  rw [← e0]
  refine ctr_vc (ht := crH b d (crX d ks keep) ks keep) Tryz.mixed rfl ?_
  rw [vcCr_eq b d (crX d ks keep) ks keep]
  unfold vcCr
  rw [e1] at hlp
  have hs2 : SrtOk ks ({ d with used := 0 } : Dsk).has ({ d with used := 0 } : Dsk).n := hs
  simp [e1, hlp, hs]
noncomputable def crC (b : Bool) (d : Dsk) (ks : List ByteArray) (keep : List Int) : Ctr Tryz.prog := ⟨16, [.ptr 0 0 0 0, encIs b keep], dkM d, .need (∀ s, d.has s = true → FOk (d.f s)) (.need (SrtOk ks d.has d.n) (.ret (.tup [], dkM (crD d ks keep), jM))), T.Sat.need fun h1 => T.Sat.need fun h2 => cr_c b d ks keep h1 h2⟩
end Go.Proofs.YtfiohpojlgkmkaaGreatDoor.O

namespace Go.Proofs.YtfiohpojlgkmkaaGreatDoor.O
open Go.Ax Go.Maps
set_option maxRecDepth 1000000
def tot (f : ByteArray → Fil) (L : List ByteArray) : Nat := (L.map fun s => (f s).b.length).sum
structure Cov (d : Dsk) (L : List ByteArray) : Prop where
  nd : L.Nodup
  mem : ∀ x, d.has x = true ↔ x ∈ L
  len : L.length = d.n
  sum : (tot d.f L : Int) = d.used
theorem srt_of {has : ByteArray → Bool} {L : List ByteArray} (nd : L.Nodup) (mem : ∀ x, has x = true ↔ x ∈ L) : ∃ ks, Srt ks has ∧ ks.Perm L := by
  let le : ByteArray → ByteArray → Bool := fun a b => decide (bl a ≤ bl b)
  have tr : ∀ a b c : ByteArray, le a b = true → le b c = true → le a c = true := fun a b c h1 h2 => by
    simp only [le, decide_eq_true_eq] at *; exact List.le_trans h1 h2
  have tt : ∀ a b : ByteArray, (le a b || le b a) = true := fun a b => by
    simp only [le, Bool.or_eq_true, decide_eq_true_eq]; exact List.le_total _ _
  have hp := List.mergeSort_perm L le
  have hs := List.pairwise_mergeSort tr tt L
  have hnd : (L.mergeSort le).Nodup := hp.symm.nodup nd
  refine ⟨L.mergeSort le, ⟨?_, fun x => by rw [mem x]; exact hp.mem_iff.symm⟩, hp⟩
  rw [List.nodup_iff_pairwise_ne] at hnd
  refine (hs.and hnd).imp fun {a b} h => ?_
  have h1 : bl a ≤ bl b := by simpa [le] using h.1
  rcases List.le_iff_lt_or_eq.1 h1 with h2 | h2
  · exact h2
  · exact absurd (bl_inj h2) h.2
theorem Srt.nd {ks : List ByteArray} {has : ByteArray → Bool} (h : Srt ks has) : ks.Nodup := by
  rw [List.nodup_iff_pairwise_ne]
  refine h.so.imp fun {a b} hab e => ?_
  subst e
  exact absurd hab (List.lt_irrefl _)
theorem tot_perm {f : ByteArray → Fil} {L L' : List ByteArray} (h : L.Perm L') : tot f L = tot f L' := (h.map _).sum_nat
theorem tot_cons (f : ByteArray → Fil) (s : ByteArray) (L : List ByteArray) : tot f (s :: L) = (f s).b.length + tot f L := by simp [tot]
def ers (s : ByteArray) (L : List ByteArray) : List ByteArray := L.filter fun x => decide (x ≠ s)
theorem mem_ers {s x : ByteArray} {L : List ByteArray} : x ∈ ers s L ↔ x ≠ s ∧ x ∈ L := by
  unfold ers
  rw [List.mem_filter, decide_eq_true_eq]
  exact And.comm
theorem nd_ers {s : ByteArray} {L : List ByteArray} (h : L.Nodup) : (ers s L).Nodup := List.filter_sublist.nodup h
theorem not_mem_erase (L : List ByteArray) (s : ByteArray) : s ∉ ers s L := fun hx => (mem_ers.1 hx).1 rfl
theorem perm_ers {s : ByteArray} {L : List ByteArray} (h : L.Nodup) (hs : s ∈ L) : L.Perm (s :: ers s L) := by
  refine (List.perm_ext_iff_of_nodup h (List.nodup_cons.2 ⟨not_mem_erase L s, nd_ers h⟩)).2 fun x => ?_
  rw [List.mem_cons, mem_ers]
  by_cases e : x = s
  · subst e; simp [hs]
  · simp [e]
theorem tot_mem {f : ByteArray → Fil} {L : List ByteArray} {s : ByteArray} (hn : L.Nodup) (h : s ∈ L) : tot f L = (f s).b.length + tot f (ers s L) := by
  rw [tot_perm (perm_ers hn h), tot_cons]
theorem Cov.tick {d : Dsk} {L : List ByteArray} (h : Cov d L) : Cov d.tick L := ⟨h.nd, h.mem, h.len, h.sum⟩
theorem Cov.fld {d : Dsk} {L : List ByteArray} (h : Cov d L) : Cov d.fld L := ⟨h.nd, h.mem, h.len, h.sum⟩
theorem Cov.del {d : Dsk} {L : List ByteArray} {s : ByteArray} {u : Int} (h : Cov d L) (hs : d.has s = true) (hu : u = d.used - (d.f s).b.length) : Cov { d.del s with used := u } (ers s L) := by
  have hm := (h.mem s).1 hs
  refine ⟨nd_ers h.nd, fun x => ?_, ?_, ?_⟩
  · show delBs d.has s x = true ↔ _
    unfold delBs
    rw [Bool.and_eq_true, Bool.not_eq_true', decide_eq_false_iff_not, mem_ers, h.mem x]
    exact and_congr ⟨fun h e => h e.symm, fun h e => h e.symm⟩ Iff.rfl
  · show _ = d.n - 1
    have := (perm_ers h.nd hm).length_eq; rw [List.length_cons, h.len] at this; omega
  · show (tot d.f (ers s L) : Int) = u
    have h1 := h.sum
    rw [tot_mem h.nd hm] at h1
    omega
theorem Cov.le {d : Dsk} {L : List ByteArray} {s : ByteArray} (h : Cov d L) (hs : d.has s = true) : ((d.f s).b.length : Int) ≤ d.used := by
  have h1 := h.sum
  rw [tot_mem h.nd ((h.mem s).1 hs)] at h1
  omega
structure DInv (d : Dsk) : Prop where
  cov : ∃ L, Cov d L
  r0 : 0 ≤ d.room
  r1 : d.room ≤ 16777216
  us : d.used ≤ d.room
  n : d.n ≤ 64
  nm : ∀ s, d.has s = true → nmd s = true
  syn : ∀ s, d.has s = true → 0 ≤ (d.f s).syn ∧ (d.f s).syn ≤ (d.f s).b.length
  fl : -1 ≤ d.fail ∧ d.fail ≤ 9223372036854775807
  tr : -1 ≤ d.trip ∧ d.trip ≤ 9223372036854775807
theorem nmd_size {s : ByteArray} (h : nmd s = true) : s.size ≤ 24 := by
  unfold nmd at h
  simp only [Bool.and_eq_true, decide_eq_true_eq] at h
  omega
theorem DInv.srt {d : Dsk} (h : DInv d) : ∃ ks, SrtOk ks d.has d.n := by
  obtain ⟨L, hL⟩ := h.cov
  obtain ⟨ks, h1, h2⟩ := srt_of hL.nd hL.mem
  have hn := h.n
  exact ⟨ks, h1, by rw [h2.length_eq, hL.len], by omega, fun x hx => by have := nmd_size (h.nm x hx); unfold maxLen; omega⟩
theorem mx_rng {v : Int} (h : v ≤ 9223372036854775807) : -1 ≤ mx v ∧ mx v ≤ 9223372036854775807 := by unfold mx; split <;> omega
theorem i64_rng (n : Int) : -9223372036854775808 ≤ IntKind.i64.wrap n ∧ IntKind.i64.wrap n ≤ 9223372036854775807 := by
  simp [IntKind.wrap, IntKind.bits, IntKind.signed]; omega
theorem DInv.tick {d : Dsk} (h : DInv d) : DInv d.tick := ⟨h.cov.imp fun _ => Cov.tick, h.r0, h.r1, h.us, h.n, h.nm, h.syn, h.fl, mx_rng (i64_rng _).2⟩
theorem DInv.fld {d : Dsk} (h : DInv d) : DInv d.fld := ⟨h.cov.imp fun _ => Cov.fld, h.r0, h.r1, h.us, h.n, h.nm, h.syn, mx_rng (i64_rng _).2, h.tr⟩
theorem DInv.dn {d : Dsk} (h : DInv d) (b : Bool) : DInv { d with down := b } := ⟨h.cov.imp fun _ h => ⟨h.nd, h.mem, h.len, h.sum⟩, h.r0, h.r1, h.us, h.n, h.nm, h.syn, h.fl, h.tr⟩
end Go.Proofs.YtfiohpojlgkmkaaGreatDoor.O

namespace Go.Proofs.YtfiohpojlgkmkaaGreatDoor.O
open Go.Ax Go.Maps
set_option maxRecDepth 1000000
end Go.Proofs.YtfiohpojlgkmkaaGreatDoor.O

namespace Go.Proofs.YtfiohpojlgkmkaaGreatDoor.O
open Go.Ax Go.Maps
set_option maxRecDepth 1000000
structure OpIs (y y' : Dsk) (e e' : Int) : Prop where
  d : y = y'
  n : e = e'
structure ApRoom (d : Dsk) (s : ByteArray) (l : List Int) : Prop where
  r : apP d s l = 0 → (d.get s).b.length + l.length ≤ 140737488355328
theorem apV_c (c : Bool) (d y : Dsk) (s : ByteArray) (l : List Int) (e : Int) (h : ApRoom d s l) (q : OpIs y (apD d s l) e (apE d s l)) : (opR y e).Sat (ACall' Tryz.prog 8 [.ptr 0 0 0 0, .y (.string s), encBs c l] (dkM d)) := by
  rw [q.d, q.n]; exact ap_c d s c l h.r
noncomputable def apV (c : Bool) (d y : Dsk) (s : ByteArray) (l : List Int) (e : Int) : Ctr Tryz.prog := ⟨8, [.ptr 0 0 0 0, .y (.string s), encBs c l], dkM d, .need (ApRoom d s l) (.need (OpIs y (apD d s l) e (apE d s l)) (opR y e)), T.Sat.need fun h => T.Sat.need fun q => apV_c c d y s l e h q⟩
theorem syV_c (d y : Dsk) (s : ByteArray) (e : Int) (q : OpIs y (syD d s) e (syE d s)) : (opR y e).Sat (ACall' Tryz.prog 15 [.ptr 0 0 0 0, .y (.string s)] (dkM d)) := by
  rw [q.d, q.n]; exact sy_c d s
noncomputable def syV (d y : Dsk) (s : ByteArray) (e : Int) : Ctr Tryz.prog := ⟨15, [.ptr 0 0 0 0, .y (.string s)], dkM d, .need (OpIs y (syD d s) e (syE d s)) (opR y e), T.Sat.need fun q => syV_c d y s e q⟩
def sA : ByteArray := ⟨#[97]⟩
noncomputable def lvH (d d1 d2 d3 : Dsk) (e1 e2 e3 : Int) : HintsT Tryz.prog := { withSh (hh _ noLp (cs1 6 1 0 (nwC 10) (cs1 6 4 3 (apV true d d1 sA [120, 121, 122] e1) (cs1 6 5 1 (syV d1 d2 sA e2) (cs1 6 6 3 (apV true d2 d3 sA [117, 118] e3) (cs1 6 7 1 (szC d3 sA) noCs))))) noOp) (sh1 6 4 1 779 (sh1 6 6 1 779 noSh)) with sub := fun _ => true }
def vcLv (d : Dsk) (d1 : Dsk) (d2 : Dsk) (d3 : Dsk) (e1 : Int) (e2 : Int) (e3 : Int) : Prop :=
  ((10 : Int) = (10 : Int) ∧ True) ∧ True ∧ (false = true → false = true ∧ True) ∧ (false = false → (((0 : Nat) = (0 : Nat) ∧ (0 : Nat) = (0 : Nat)) ∧ { data := #[(97 : UInt8)] : ByteArray } = sA ∧ (true = true ∧ (3 : Nat) = (3 : Nat) ∧ contLe (3 : Nat) (1 : Nat) (Ax.rowAt (0 : Nat) fun (k j : Nat) => Ax.get [AV.s (Value.int IntKind.u8 (120 : Int)), AV.s (Value.int IntKind.u8 (121 : Int)), AV.s (Value.int IntKind.u8 (122 : Int))] (k * (1 : Nat) + j)) (cellsOf' encB [(120 : Int), (121 : Int), (122 : Int)])) ∧ True) ∧ ((True ∧ (10 : Int) = d.room ∧ (0 : Int) = d.used ∧ false = d.down ∧ (-1 : Int) = d.trip ∧ (-1 : Int) = d.fail ∧ True) ∧ ((0 : Nat) = d.n ∧ (∀ (x : ByteArray), false = d.has x) ∧ ∀ (x : ByteArray), false = true → ((0 : Nat) = List.length (d.f x).b ∧ contLe (0 : Nat) (1 : Nat) (cellsOf' encB []) (cellsOf' encB (d.f x).b)) ∧ (0 : Int) = (d.f x).syn ∧ True) ∧ True) ∧ ApRoom d sA [(120 : Int), (121 : Int), (122 : Int)] ∧ OpIs d1 (apD d sA [(120 : Int), (121 : Int), (122 : Int)]) e1 (apE d sA [(120 : Int), (121 : Int), (122 : Int)]) ∧ (((0 : Nat) = (0 : Nat) ∧ (0 : Nat) = (0 : Nat)) ∧ { data := #[(97 : UInt8)] : ByteArray } = sA ∧ True) ∧ ((True ∧ d1.room = d1.room ∧ d1.used = d1.used ∧ d1.down = d1.down ∧ d1.trip = d1.trip ∧ d1.fail = d1.fail ∧ True) ∧ (d1.n = d1.n ∧ (∀ (x : ByteArray), d1.has x = d1.has x) ∧ ∀ (x : ByteArray), d1.has x = true → (List.length (d1.f x).b = List.length (d1.f x).b ∧ contLe (List.length (d1.f x).b) (1 : Nat) (cellsOf' encB (d1.f x).b) (cellsOf' encB (d1.f x).b)) ∧ (d1.f x).syn = (d1.f x).syn ∧ True) ∧ True) ∧ OpIs d2 (syD d1 sA) e2 (syE d1 sA) ∧ (((0 : Nat) = (0 : Nat) ∧ (0 : Nat) = (0 : Nat)) ∧ { data := #[(97 : UInt8)] : ByteArray } = sA ∧ (true = true ∧ (2 : Nat) = (2 : Nat) ∧ contLe (2 : Nat) (1 : Nat) (Ax.rowAt (0 : Nat) fun (k j : Nat) => Ax.get [AV.s (Value.int IntKind.u8 (117 : Int)), AV.s (Value.int IntKind.u8 (118 : Int))] (k * (1 : Nat) + j)) (cellsOf' encB [(117 : Int), (118 : Int)])) ∧ True) ∧ ((True ∧ d2.room = d2.room ∧ d2.used = d2.used ∧ d2.down = d2.down ∧ d2.trip = d2.trip ∧ d2.fail = d2.fail ∧ True) ∧ (d2.n = d2.n ∧ (∀ (x : ByteArray), d2.has x = d2.has x) ∧ ∀ (x : ByteArray), d2.has x = true → (List.length (d2.f x).b = List.length (d2.f x).b ∧ contLe (List.length (d2.f x).b) (1 : Nat) (cellsOf' encB (d2.f x).b) (cellsOf' encB (d2.f x).b)) ∧ (d2.f x).syn = (d2.f x).syn ∧ True) ∧ True) ∧ ApRoom d2 sA [(117 : Int), (118 : Int)] ∧ OpIs d3 (apD d2 sA [(117 : Int), (118 : Int)]) e3 (apE d2 sA [(117 : Int), (118 : Int)]) ∧ (((0 : Nat) = (0 : Nat) ∧ (0 : Nat) = (0 : Nat)) ∧ { data := #[(97 : UInt8)] : ByteArray } = sA ∧ True) ∧ ((True ∧ d3.room = d3.room ∧ d3.used = d3.used ∧ d3.down = d3.down ∧ d3.trip = d3.trip ∧ d3.fail = d3.fail ∧ True) ∧ (d3.n = d3.n ∧ (∀ (x : ByteArray), d3.has x = d3.has x) ∧ ∀ (x : ByteArray), d3.has x = true → (List.length (d3.f x).b = List.length (d3.f x).b ∧ contLe (List.length (d3.f x).b) (1 : Nat) (cellsOf' encB (d3.f x).b) (cellsOf' encB (d3.f x).b)) ∧ (d3.f x).syn = (d3.f x).syn ∧ True) ∧ True) ∧ ((e2 == (0 : Int)) = true → (((↑(List.length (Dsk.get d3 sA).b) : Int) == (5 : Int)) = true → (((Dsk.get d3 sA).syn == (3 : Int)) = true → d3.has sA = true ∧ True) ∧ (((Dsk.get d3 sA).syn == (3 : Int)) = false → false = true ∧ True)) ∧ (((↑(List.length (Dsk.get d3 sA).b) : Int) == (5 : Int)) = false → false = true ∧ True)) ∧ ((e2 == (0 : Int)) = false → false = true ∧ True))
theorem vcLv_eq (d : Dsk) (d1 : Dsk) (d2 : Dsk) (d3 : Dsk) (e1 : Int) (e2 : Int) (e3 : Int) : (ctrVC Tryz.prog (lvH d d1 d2 d3 e1 e2 e3) 6 [] [] (boR true)) = vcLv d d1 d2 d3 e1 e2 e3 := by kernel_rfl
end Go.Proofs.YtfiohpojlgkmkaaGreatDoor.O

namespace Go.Proofs.YtfiohpojlgkmkaaGreatDoor.O
open Go.Ax Go.Maps
set_option maxRecDepth 1000000
def lv1 : Dsk := apD (d0 10) sA [120, 121, 122]
def lv2 : Dsk := syD lv1 sA
def lv3 : Dsk := apD lv2 sA [117, 118]
theorem lv_nm : nmd sA = true := by decide
theorem w10 : IntKind.i64.wrap 10 = 10 := by decide
theorem w7 : IntKind.i64.wrap 7 = 7 := by decide
theorem w3 : IntKind.i64.wrap 3 = 3 := by decide
theorem wm2 : IntKind.i64.wrap (-2) = -2 := by decide
theorem mxm2 : mx (-2) = -1 := by decide
theorem d0_f : (d0 10).down = false ∧ (d0 10).trip = -1 ∧ (d0 10).fail = -1 ∧ (d0 10).n = 0 ∧ (d0 10).room = 10 ∧ (d0 10).used = 0 := ⟨rfl, rfl, rfl, rfl, rfl, rfl⟩
theorem d0_h (x : ByteArray) : (d0 10).has x = false := rfl
theorem lv_p1 : apP (d0 10) sA [120, 121, 122] = 0 := by simp [apP, lv_nm, d0_f, d0_h, w10]
theorem lv_1 : lv1 = apY (d0 10) sA [120, 121, 122] := by
  unfold lv1 apD opD
  simp [lv_p1, apQ, lv_nm, d0_f, Dsk.fld]
theorem lv_has1 : lv1.has sA = true := by rw [lv_1]; simp [apY, Dsk.put, updBs]
theorem lv_f1 : lv1.f sA = ⟨[120, 121, 122], 0⟩ := by rw [lv_1]; simp [apY, Dsk.put, Dsk.get, d0]
theorem lv_t1 : lv1.trip = -1 ∧ lv1.down = false ∧ lv1.fail = -1 ∧ lv1.n = 1 ∧ lv1.room = 10 ∧ lv1.used = 3 := by
  rw [lv_1]
  refine ⟨?_, rfl, ?_, rfl, rfl, ?_⟩
  · simp [apY, Dsk.put, Dsk.tick, Dsk.fld, d0_f, wm2, mxm2]
  · simp [apY, Dsk.put, Dsk.tick, Dsk.fld, d0_f, wm2, mxm2]
  · simp [apY, d0_f, w3]
theorem lv_e2 : syE lv1 sA = 0 := by simp [syE, opE, fnP, lv_has1, lv_t1]
theorem lv_2 : lv2 = syY lv1 sA := by simp [lv2, syD, opD, fnP, lv_has1, lv_t1]
theorem lv_f2 : lv2.f sA = ⟨[120, 121, 122], 3⟩ := by rw [lv_2]; simp [syY, Dsk.put, lv_f1]
theorem lv_has2 : lv2.has sA = true := by rw [lv_2]; simp [syY, Dsk.put, updBs]
theorem lv_t2 : lv2.trip = -1 ∧ lv2.down = false ∧ lv2.fail = -1 ∧ lv2.room = 10 ∧ lv2.used = 3 := by
  rw [lv_2]
  refine ⟨?_, lv_t1.2.1, lv_t1.2.2.1, lv_t1.2.2.2.2.1, lv_t1.2.2.2.2.2⟩
  simp [syY, Dsk.put, Dsk.tick, lv_t1, wm2, mxm2]
theorem lv_p3 : apP lv2 sA [117, 118] = 0 := by simp [apP, lv_nm, lv_t2, lv_has2, w7]
theorem lv_3 : lv3 = apY lv2 sA [117, 118] := by simp [lv3, apD, opD, lv_p3, apQ, lv_nm, lv_t2, Dsk.fld]
theorem lv_f3 : lv3.f sA = ⟨[120, 121, 122, 117, 118], 3⟩ := by rw [lv_3]; simp [apY, Dsk.put, get_t lv_has2, lv_f2]
theorem lv_has3 : lv3.has sA = true := by rw [lv_3]; simp [apY, Dsk.put, updBs]
theorem lv_c : (boR true).Sat (ACall' Tryz.prog 6 [] []) := by
  refine ctr_vc (ht := lvH (d0 10) lv1 lv2 lv3 (apE (d0 10) sA [120, 121, 122]) 0 (apE lv2 sA [117, 118])) Tryz.mixed rfl ?_
  rw [vcLv_eq (d0 10) lv1 lv2 lv3]
  unfold vcLv
  have a1 : ApRoom (d0 10) sA [120, 121, 122] := ⟨fun _ => by simp [Dsk.get, d0]⟩
  have a2 : OpIs lv1 (apD (d0 10) sA [120, 121, 122]) (apE (d0 10) sA [120, 121, 122]) (apE (d0 10) sA [120, 121, 122]) := ⟨rfl, rfl⟩
  have a3 : OpIs lv2 (syD lv1 sA) 0 (syE lv1 sA) := ⟨rfl, lv_e2.symm⟩
  have a4 : ApRoom lv2 sA [117, 118] := ⟨fun _ => by rw [get_t lv_has2, lv_f2]; simp⟩
  have a5 : OpIs lv3 (apD lv2 sA [117, 118]) (apE lv2 sA [117, 118]) (apE lv2 sA [117, 118]) := ⟨rfl, rfl⟩
  have h3 := lv_has3
  have f3 := get_t lv_has3
  rw [lv_f3] at f3
  have hs : ({ data := #[97] } : ByteArray) = sA := rfl
  have g1 : (d0 10).room = 10 ∧ (d0 10).used = 0 ∧ (d0 10).down = false ∧ (d0 10).trip = -1 ∧ (d0 10).fail = -1 ∧ (d0 10).n = 0 := ⟨rfl, rfl, rfl, rfl, rfl, rfl⟩
  have g2 : ∀ x, (d0 10).has x = false := fun _ => rfl
  generalize apE (d0 10) sA [120, 121, 122] = e1 at *
  generalize apE lv2 sA [117, 118] = e3 at *
  generalize lv3 = z3 at *
  generalize lv2 = z2 at *
  generalize lv1 = z1 at *
  generalize d0 10 = z0 at *
  simp [hs, a1, a2, a3, a4, a5, h3, f3, g1, g2]
  refine ⟨fun k hk j hj => ?_, fun k hk j hj => ?_⟩
  all_goals
    obtain rfl : j = 0 := by omega
    rcases (by omega : k = 0 ∨ k = 1 ∨ k = 2) with rfl | rfl | rfl <;> first | (exact rfl) | omega
end Go.Proofs.YtfiohpojlgkmkaaGreatDoor.O

namespace Go.Proofs.YtfiohpojlgkmkaaGreatDoor.O
open Go.Ax Go.Maps
set_option maxRecDepth 1000000
structure Wr where
  name : ByteArray
  b : List Int
  sync : Bool
instance : Inhabited Wr := ⟨⟨ByteArray.empty, [], false⟩⟩
noncomputable def lvC : Ctr Tryz.prog := ⟨6, [], [], boR true, lv_c⟩
def str (l : List Int) : ByteArray := strN l.length (cellsOf' encB l)
structure KS where
  d : Dsk
  ns : List ByteArray
  bs : List ByteArray
  ys : List Int
def fi (ns : List ByteArray) (s : ByteArray) (k : Nat) : Nat := k + (ns.drop k).findIdx fun x => x.data.toList == s.data.toList
def KS.more (K : KS) (s : ByteArray) : KS := ⟨K.d, K.ns ++ [s], K.bs ++ [ByteArray.empty], K.ys ++ [0]⟩
def kq (K : KS) (s : ByteArray) (q : Nat) : KS := if q = K.ns.length then K.more s else K
def kb2 (K : KS) (w : Wr) (q : Nat) : List ByteArray := (kq K w.name q).bs.set q ((kq K w.name q).bs.getD q default ++ str w.b)
end Go.Proofs.YtfiohpojlgkmkaaGreatDoor.O

namespace Go.Proofs.YtfiohpojlgkmkaaGreatDoor.O
open Go.Ax Go.Maps
set_option maxRecDepth 1000000
def u8 (x : Int) : UInt8 := UInt8.ofNat x.toNat
def keStep (K : KS) (w : Wr) : KS :=
  let y1 := apD K.d w.name w.b
  if apE K.d w.name w.b ≠ 0 then ⟨y1, K.ns, K.bs, K.ys⟩
  else
    let q := fi K.ns w.name 0
    let K' := kq K w.name q
    let bs := kb2 K w q
    if w.sync then
      (if syE y1 w.name = 0 then ⟨syD y1 w.name, K'.ns, bs, K'.ys.set q (bs.getD q default).size⟩ else ⟨syD y1 w.name, K'.ns, bs, K'.ys⟩)
    else ⟨y1, K'.ns, bs, K'.ys⟩
structure KInv (K : KS) : Prop where
  d : DInv K.d
  nb : K.bs.length = K.ns.length
  ny : K.ys.length = K.ns.length
  nd : K.ns.Nodup
  mem : ∀ x, K.d.has x = true ↔ x ∈ K.ns
  b : ∀ j, j < K.ns.length → K.bs.getD j default = str (K.d.f (K.ns.getD j default)).b
  y : ∀ j, j < K.ns.length → K.ys.getD j 0 = (K.d.f (K.ns.getD j default)).syn
end Go.Proofs.YtfiohpojlgkmkaaGreatDoor.O

namespace Go.Proofs.YtfiohpojlgkmkaaGreatDoor.O
open Go.Ax Go.Maps
set_option maxRecDepth 1000000
theorem KInv.len {K : KS} (h : KInv K) : K.ns.length ≤ 64 := by
  obtain ⟨L, hL⟩ := h.d.cov
  have hp : K.ns.Perm L := (List.perm_ext_iff_of_nodup h.nd hL.nd).2 fun x => by rw [← h.mem x, hL.mem x]
  rw [hp.length_eq, hL.len]
  exact h.d.n
def kes (trip : Int) (l : List Wr) (k : Nat) : KS := (l.take k).foldl keStep ⟨{ d0 65536 with trip := mx trip }, [], [], []⟩
end Go.Proofs.YtfiohpojlgkmkaaGreatDoor.O

namespace Go.Proofs.YtfiohpojlgkmkaaGreatDoor.O
open Go.Ax Go.Maps
set_option maxRecDepth 1000000
def kx (trip : Int) (l : List Wr) (k : Nat) : KS := kes trip l (min k l.length)
end Go.Proofs.YtfiohpojlgkmkaaGreatDoor.O

namespace Go.Proofs.YtfiohpojlgkmkaaGreatDoor.O
open Go.Ax Go.Maps
set_option maxRecDepth 1000000
end Go.Proofs.YtfiohpojlgkmkaaGreatDoor.O

namespace Go.Proofs.YtfiohpojlgkmkaaGreatDoor.O
open Go.Ax Go.Maps
set_option maxRecDepth 1000000
theorem rnV_c (d y : Dsk) (s t : ByteArray) (e : Int) (q : OpIs y (rnD d s t) e (rnE d s t)) : (opR y e).Sat (ACall' Tryz.prog 9 [.ptr 0 0 0 0, .y (.string s), .y (.string t)] (dkM d)) := by
  rw [q.d, q.n]; exact rn_c d s t
noncomputable def rnV (d y : Dsk) (s t : ByteArray) (e : Int) : Ctr Tryz.prog := ⟨9, [.ptr 0 0 0 0, .y (.string s), .y (.string t)], dkM d, .need (OpIs y (rnD d s t) e (rnE d s t)) (opR y e), T.Sat.need fun q => rnV_c d y s t e q⟩
def sO : ByteArray := ⟨#[111, 116, 104, 101, 114, 46, 48]⟩
end Go.Proofs.YtfiohpojlgkmkaaGreatDoor.O

namespace Go.Proofs.YtfiohpojlgkmkaaGreatDoor.O
open Go.Ax Go.Maps
set_option maxRecDepth 1000000
structure Qt (d : Dsk) : Prop where
  down : d.down = false
  trip : d.trip = -1
  fail : d.fail = -1
theorem Qt.tick {d : Dsk} (h : Qt d) : Qt d.tick := ⟨h.down, by show mx (IntKind.i64.wrap (d.trip - 1)) = -1; rw [h.trip]; decide, h.fail⟩
theorem Qt.fld {d : Dsk} (h : Qt d) : Qt d.fld := ⟨h.down, h.trip, by show mx (IntKind.i64.wrap (d.fail - 1)) = -1; rw [h.fail]; decide⟩
theorem DInv.n1 {d : Dsk} {s : ByteArray} (h : DInv d) (hs : d.has s = true) : 1 ≤ d.n := by
  obtain ⟨L, hL⟩ := h.cov
  have h1 := hL.len
  have h2 : 0 < L.length := List.length_pos_of_mem ((hL.mem s).1 hs)
  omega
def z1 (d : Dsk) (s : ByteArray) : Dsk := rnD d s sO
def z2 (d : Dsk) (s : ByteArray) : Dsk := rnD (z1 d s) sO s
def z3 (d : Dsk) (s : ByteArray) (b : List Int) : Dsk := apD (z2 d s) s b
def z4 (d : Dsk) (s : ByteArray) (b : List Int) : Dsk := trD (z3 d s b) s (d.get s).b.length
end Go.Proofs.YtfiohpojlgkmkaaGreatDoor.O

namespace Go.Proofs.YtfiohpojlgkmkaaGreatDoor.O
open Go.Ax Go.Maps
set_option maxRecDepth 1000000
structure Opn where
  kind : Int
  name : ByteArray
  other : ByteArray
  b : List Int
  n : Int
  at' : Int
  keep : List Int
instance : Inhabited Opn := ⟨⟨0, ByteArray.empty, ByteArray.empty, [], 0, 0, []⟩⟩
theorem rmV_c (d y : Dsk) (s : ByteArray) (e : Int) (q : OpIs y (rmD d s) e (rmE d s)) : (opR y e).Sat (ACall' Tryz.prog 11 [.ptr 0 0 0 0, .y (.string s)] (dkM d)) := by
  rw [q.d, q.n]; exact rm_c d s
noncomputable def rmV (d y : Dsk) (s : ByteArray) (e : Int) : Ctr Tryz.prog := ⟨11, [.ptr 0 0 0 0, .y (.string s)], dkM d, .need (OpIs y (rmD d s) e (rmE d s)) (opR y e), T.Sat.need fun q => rmV_c d y s e q⟩
end Go.Proofs.YtfiohpojlgkmkaaGreatDoor.O

namespace Go.Proofs.YtfiohpojlgkmkaaGreatDoor.O
open Go.Ax Go.Maps
set_option maxRecDepth 1000000
end Go.Proofs.YtfiohpojlgkmkaaGreatDoor.O

namespace Go.Proofs.YtfiohpojlgkmkaaGreatDoor.O
open Go.Ax Go.Maps
set_option maxRecDepth 1000000
def sB : ByteArray := ⟨#[98]⟩
def sUB : ByteArray := ⟨#[66]⟩
def sC : ByteArray := ⟨#[99]⟩
noncomputable def snH (d1 d2 d3 d4 d5 d6 d7 d8 d9 d10 d11 d12 : Dsk) (e1 e2 e3 e4 e5 e6 e7 e8 e9 e10 e11 : Int) (k1 k2 k3 : List ByteArray) : HintsT Tryz.prog := { withF (hh _ noLp
  (cs1 4 1 0 lvC (cs1 4 2 0 (nwC 10) (cs1 4 3 0 (nwC (-1))
  (cs1 4 6 3 (apV true (d0 10) d1 sA [120, 121, 122] e1) (cs1 4 7 1 (syV d1 d2 sA e2) (cs1 4 8 3 (apV true d2 d3 sA [117, 118] e3) (cs1 4 9 2 (crC true d3 k1 [1])
  (cs1 4 10 1 (rdC (crD d3 k1 [1]) sA 0 9) (cs1 4 11 1 (szC (crD d3 k1 [1]) sA) (cs1 4 12 3 (apV true (crD d3 k1 [1]) d4 sB [49, 50, 51, 52, 53, 54, 55] e4) (cs1 4 13 1 (apV true d4 d5 sUB [] e5)
  (cs1 4 14 1 (tpC d5 1) (cs1 4 15 1 (rmV { d5 with trip := mx 1 } d6 sC e6) (cs1 4 16 1 (syV d6 d7 sA e7) (cs1 4 17 1 (syV d7 d8 sA e8) (cs1 4 18 1 (rdC d8 sA 0 1) (cs1 4 19 1 (dnC d8)
  (cs1 4 20 1 (crC true d8 k2 []) (cs1 4 21 1 (flC (crD d8 k2 []) 0) (cs1 4 22 3 (apV true { (crD d8 k2 []) with fail := mx 0 } d9 sA [113] e9) (cs1 4 23 3 (apV true d9 d10 sA [113] e10) (cs1 4 24 1 (rnV d10 d11 sA sB e11) (cs1 4 25 1 (liC d11 k3) (cs1 4 27 26 (usC d11) noCs)))))))))))))))))))))))) noOp)
  noSh (fz1 4 9 1 noFz) with sub := fun _ => true }
def vcSn_q1 (d3 : Dsk) (k1 : List ByteArray) : Prop := ((True ∧ (crS d3 k1 [(1 : Int)] (List.length k1)).room = (crS d3 k1 [(1 : Int)] (List.length k1)).room ∧ (crS d3 k1 [(1 : Int)] (List.length k1)).used = (crS d3 k1 [(1 : Int)] (List.length k1)).used ∧ false = false ∧ (-1 : Int) = (-1 : Int) ∧ (-1 : Int) = (-1 : Int) ∧ True) ∧ ((crS d3 k1 [(1 : Int)] (List.length k1)).n = (crS d3 k1 [(1 : Int)] (List.length k1)).n ∧ (∀ (x : ByteArray), (crS d3 k1 [(1 : Int)] (List.length k1)).has x = (crS d3 k1 [(1 : Int)] (List.length k1)).has x) ∧ ∀ (x : ByteArray), (crS d3 k1 [(1 : Int)] (List.length k1)).has x = true → (List.length ((crS d3 k1 [(1 : Int)] (List.length k1)).f x).b = List.length ((crS d3 k1 [(1 : Int)] (List.length k1)).f x).b ∧ contLe (List.length ((crS d3 k1 [(1 : Int)] (List.length k1)).f x).b) (1 : Nat) (cellsOf' encB ((crS d3 k1 [(1 : Int)] (List.length k1)).f x).b) (cellsOf' encB ((crS d3 k1 [(1 : Int)] (List.length k1)).f x).b)) ∧ ((crS d3 k1 [(1 : Int)] (List.length k1)).f x).syn = ((crS d3 k1 [(1 : Int)] (List.length k1)).f x).syn ∧ True) ∧ True)
def vcSn_q2 (d8 : Dsk) : Prop := ((True ∧ d8.room = d8.room ∧ d8.used = d8.used ∧ d8.down = d8.down ∧ d8.trip = d8.trip ∧ d8.fail = d8.fail ∧ True) ∧ (d8.n = d8.n ∧ (∀ (x : ByteArray), d8.has x = d8.has x) ∧ ∀ (x : ByteArray), d8.has x = true → (List.length (d8.f x).b = List.length (d8.f x).b ∧ contLe (List.length (d8.f x).b) (1 : Nat) (cellsOf' encB (d8.f x).b) (cellsOf' encB (d8.f x).b)) ∧ (d8.f x).syn = (d8.f x).syn ∧ True) ∧ True)
def vcSn_q3 (d8 : Dsk) (k2 : List ByteArray) : Prop := ((crS d8 k2 [] (List.length k2)).n = (crS d8 k2 [] (List.length k2)).n ∧ (∀ (x : ByteArray), (crS d8 k2 [] (List.length k2)).has x = (crS d8 k2 [] (List.length k2)).has x) ∧ ∀ (x : ByteArray), (crS d8 k2 [] (List.length k2)).has x = true → (List.length ((crS d8 k2 [] (List.length k2)).f x).b = List.length ((crS d8 k2 [] (List.length k2)).f x).b ∧ contLe (List.length ((crS d8 k2 [] (List.length k2)).f x).b) (1 : Nat) (cellsOf' encB ((crS d8 k2 [] (List.length k2)).f x).b) (cellsOf' encB ((crS d8 k2 [] (List.length k2)).f x).b)) ∧ ((crS d8 k2 [] (List.length k2)).f x).syn = ((crS d8 k2 [] (List.length k2)).f x).syn ∧ True)
def vcSn_q4 (d11 : Dsk) : Prop := ((True ∧ d11.room = d11.room ∧ d11.used = d11.used ∧ d11.down = d11.down ∧ d11.trip = d11.trip ∧ d11.fail = d11.fail ∧ True) ∧ (d11.n = d11.n ∧ (∀ (x : ByteArray), d11.has x = d11.has x) ∧ ∀ (x : ByteArray), d11.has x = true → (List.length (d11.f x).b = List.length (d11.f x).b ∧ contLe (List.length (d11.f x).b) (1 : Nat) (cellsOf' encB (d11.f x).b) (cellsOf' encB (d11.f x).b)) ∧ (d11.f x).syn = (d11.f x).syn ∧ True) ∧ True)
def vcSn (d1 : Dsk) (d2 : Dsk) (d3 : Dsk) (d4 : Dsk) (d5 : Dsk) (d6 : Dsk) (d7 : Dsk) (d8 : Dsk) (d9 : Dsk) (d10 : Dsk) (d11 : Dsk) (e1 : Int) (e2 : Int) (e3 : Int) (e4 : Int) (e5 : Int) (e6 : Int) (e7 : Int) (e8 : Int) (e9 : Int) (e10 : Int) (e11 : Int) (k1 : List ByteArray) (k2 : List ByteArray) (k3 : List ByteArray) : Prop :=
  True ∧ True ∧ ((10 : Int) = (10 : Int) ∧ True) ∧ True ∧ (false = true → ((-1 : Int) = (-1 : Int) ∧ True) ∧ True ∧ (true = true → (false = true → false = true ∧ True) ∧ (false = false → false = true ∧ True)) ∧ (true = false → (false = true → false = true ∧ True) ∧ (false = false → false = true ∧ True))) ∧ (false = false → ((-1 : Int) = (-1 : Int) ∧ True) ∧ True ∧ (true = true → (false = true → false = true ∧ True) ∧ (false = false → (((0 : Nat) = (0 : Nat) ∧ (0 : Nat) = (0 : Nat)) ∧ { data := #[(97 : UInt8)] : ByteArray } = sA ∧ (true = true ∧ (3 : Nat) = (3 : Nat) ∧ contLe (3 : Nat) (1 : Nat) (Ax.rowAt (0 : Nat) fun (k j : Nat) => Ax.get [AV.s (Value.int IntKind.u8 (120 : Int)), AV.s (Value.int IntKind.u8 (121 : Int)), AV.s (Value.int IntKind.u8 (122 : Int))] (k * (1 : Nat) + j)) (cellsOf' encB [(120 : Int), (121 : Int), (122 : Int)])) ∧ True) ∧ ((True ∧ (10 : Int) = (10 : Int) ∧ (0 : Int) = (0 : Int) ∧ false = false ∧ (-1 : Int) = (-1 : Int) ∧ (-1 : Int) = (-1 : Int) ∧ True) ∧ ((0 : Nat) = (0 : Nat) ∧ (∀ (x : ByteArray), false = false) ∧ ∀ (x : ByteArray), false = true → ((0 : Nat) = (0 : Nat) ∧ contLe (0 : Nat) (1 : Nat) (cellsOf' encB []) (cellsOf' encB [])) ∧ (0 : Int) = (0 : Int) ∧ True) ∧ True) ∧ ApRoom (d0 (10 : Int)) sA [(120 : Int), (121 : Int), (122 : Int)] ∧ OpIs d1 (apD (d0 (10 : Int)) sA [(120 : Int), (121 : Int), (122 : Int)]) e1 (0 : Int) ∧ (((0 : Nat) = (0 : Nat) ∧ (0 : Nat) = (0 : Nat)) ∧ { data := #[(97 : UInt8)] : ByteArray } = sA ∧ True) ∧ ((True ∧ d1.room = d1.room ∧ d1.used = d1.used ∧ d1.down = d1.down ∧ d1.trip = d1.trip ∧ d1.fail = d1.fail ∧ True) ∧ (d1.n = d1.n ∧ (∀ (x : ByteArray), d1.has x = d1.has x) ∧ ∀ (x : ByteArray), d1.has x = true → (List.length (d1.f x).b = List.length (d1.f x).b ∧ contLe (List.length (d1.f x).b) (1 : Nat) (cellsOf' encB (d1.f x).b) (cellsOf' encB (d1.f x).b)) ∧ (d1.f x).syn = (d1.f x).syn ∧ True) ∧ True) ∧ OpIs d2 (syD d1 sA) e2 (syE d1 sA) ∧ (((0 : Nat) = (0 : Nat) ∧ (0 : Nat) = (0 : Nat)) ∧ { data := #[(97 : UInt8)] : ByteArray } = sA ∧ (true = true ∧ (2 : Nat) = (2 : Nat) ∧ contLe (2 : Nat) (1 : Nat) (Ax.rowAt (0 : Nat) fun (k j : Nat) => Ax.get [AV.s (Value.int IntKind.u8 (117 : Int)), AV.s (Value.int IntKind.u8 (118 : Int))] (k * (1 : Nat) + j)) (cellsOf' encB [(117 : Int), (118 : Int)])) ∧ True) ∧ ((True ∧ d2.room = d2.room ∧ d2.used = d2.used ∧ d2.down = d2.down ∧ d2.trip = d2.trip ∧ d2.fail = d2.fail ∧ True) ∧ (d2.n = d2.n ∧ (∀ (x : ByteArray), d2.has x = d2.has x) ∧ ∀ (x : ByteArray), d2.has x = true → (List.length (d2.f x).b = List.length (d2.f x).b ∧ contLe (List.length (d2.f x).b) (1 : Nat) (cellsOf' encB (d2.f x).b) (cellsOf' encB (d2.f x).b)) ∧ (d2.f x).syn = (d2.f x).syn ∧ True) ∧ True) ∧ ApRoom d2 sA [(117 : Int), (118 : Int)] ∧ OpIs d3 (apD d2 sA [(117 : Int), (118 : Int)]) e3 (apE d2 sA [(117 : Int), (118 : Int)]) ∧ (((0 : Nat) = (0 : Nat) ∧ (0 : Nat) = (0 : Nat)) ∧ (true = true ∧ (1 : Nat) = (1 : Nat) ∧ contLe (1 : Nat) (1 : Nat) (Ax.rowAt (0 : Nat) fun (k j : Nat) => Ax.get [AV.s (Value.int IntKind.i64 (1 : Int))] (k * (1 : Nat) + j)) (cellsOf' encI [(1 : Int)])) ∧ True) ∧ ((True ∧ d3.room = d3.room ∧ d3.used = d3.used ∧ d3.down = d3.down ∧ d3.trip = d3.trip ∧ d3.fail = d3.fail ∧ True) ∧ (d3.n = d3.n ∧ (∀ (x : ByteArray), d3.has x = d3.has x) ∧ ∀ (x : ByteArray), d3.has x = true → (List.length (d3.f x).b = List.length (d3.f x).b ∧ contLe (List.length (d3.f x).b) (1 : Nat) (cellsOf' encB (d3.f x).b) (cellsOf' encB (d3.f x).b)) ∧ (d3.f x).syn = (d3.f x).syn ∧ True) ∧ True) ∧ (∀ (s : ByteArray), d3.has s = true → FOk (d3.f s)) ∧ SrtOk k1 d3.has d3.n ∧ (((0 : Nat) = (0 : Nat) ∧ (0 : Nat) = (0 : Nat)) ∧ { data := #[(97 : UInt8)] : ByteArray } = sA ∧ (0 : Int) = (0 : Int) ∧ (9 : Int) = (9 : Int) ∧ True) ∧ (vcSn_q1 d3 k1) ∧ List.length (Dsk.get (crD d3 k1 [(1 : Int)]) sA).b ≤ (140737488355328 : Nat) ∧ (9 : Int) ≤ (9223372036854775807 : Int) ∧ (((0 : Nat) = (0 : Nat) ∧ (0 : Nat) = (0 : Nat)) ∧ { data := #[(97 : UInt8)] : ByteArray } = sA ∧ True) ∧ (vcSn_q1 d3 k1) ∧ (((0 : Nat) = (0 : Nat) ∧ (0 : Nat) = (0 : Nat)) ∧ { data := #[(98 : UInt8)] : ByteArray } = sB ∧ (true = true ∧ (7 : Nat) = (7 : Nat) ∧ contLe (7 : Nat) (1 : Nat) (Ax.rowAt (0 : Nat) fun (k j : Nat) => Ax.get [AV.s (Value.int IntKind.u8 (49 : Int)), AV.s (Value.int IntKind.u8 (50 : Int)), AV.s (Value.int IntKind.u8 (51 : Int)), AV.s (Value.int IntKind.u8 (52 : Int)), AV.s (Value.int IntKind.u8 (53 : Int)), AV.s (Value.int IntKind.u8 (54 : Int)), AV.s (Value.int IntKind.u8 (55 : Int))] (k * (1 : Nat) + j)) (cellsOf' encB [(49 : Int), (50 : Int), (51 : Int), (52 : Int), (53 : Int), (54 : Int), (55 : Int)])) ∧ True) ∧ (vcSn_q1 d3 k1) ∧ ApRoom (crD d3 k1 [(1 : Int)]) sB [(49 : Int), (50 : Int), (51 : Int), (52 : Int), (53 : Int), (54 : Int), (55 : Int)] ∧ OpIs d4 (apD (crD d3 k1 [(1 : Int)]) sB [(49 : Int), (50 : Int), (51 : Int), (52 : Int), (53 : Int), (54 : Int), (55 : Int)]) e4 (apE (crD d3 k1 [(1 : Int)]) sB [(49 : Int), (50 : Int), (51 : Int), (52 : Int), (53 : Int), (54 : Int), (55 : Int)]) ∧ (((0 : Nat) = (0 : Nat) ∧ (0 : Nat) = (0 : Nat)) ∧ { data := #[(66 : UInt8)] : ByteArray } = sUB ∧ (0 : Nat) = (0 : Nat) ∧ True) ∧ ((True ∧ d4.room = d4.room ∧ d4.used = d4.used ∧ d4.down = d4.down ∧ d4.trip = d4.trip ∧ d4.fail = d4.fail ∧ True) ∧ (d4.n = d4.n ∧ (∀ (x : ByteArray), d4.has x = d4.has x) ∧ ∀ (x : ByteArray), d4.has x = true → (List.length (d4.f x).b = List.length (d4.f x).b ∧ contLe (List.length (d4.f x).b) (1 : Nat) (cellsOf' encB (d4.f x).b) (cellsOf' encB (d4.f x).b)) ∧ (d4.f x).syn = (d4.f x).syn ∧ True) ∧ True) ∧ ApRoom d4 sUB [] ∧ OpIs d5 (apD d4 sUB []) e5 (apE d4 sUB []) ∧ (((0 : Nat) = (0 : Nat) ∧ (0 : Nat) = (0 : Nat)) ∧ (1 : Int) = (1 : Int) ∧ True) ∧ ((True ∧ d5.room = d5.room ∧ d5.used = d5.used ∧ d5.down = d5.down ∧ d5.trip = d5.trip ∧ d5.fail = d5.fail ∧ True) ∧ (d5.n = d5.n ∧ (∀ (x : ByteArray), d5.has x = d5.has x) ∧ ∀ (x : ByteArray), d5.has x = true → (List.length (d5.f x).b = List.length (d5.f x).b ∧ contLe (List.length (d5.f x).b) (1 : Nat) (cellsOf' encB (d5.f x).b) (cellsOf' encB (d5.f x).b)) ∧ (d5.f x).syn = (d5.f x).syn ∧ True) ∧ True) ∧ (((0 : Nat) = (0 : Nat) ∧ (0 : Nat) = (0 : Nat)) ∧ { data := #[(99 : UInt8)] : ByteArray } = sC ∧ True) ∧ ((True ∧ d5.room = d5.room ∧ d5.used = d5.used ∧ d5.down = d5.down ∧ (1 : Int) = (1 : Int) ∧ d5.fail = d5.fail ∧ True) ∧ (d5.n = d5.n ∧ (∀ (x : ByteArray), d5.has x = d5.has x) ∧ ∀ (x : ByteArray), d5.has x = true → (List.length (d5.f x).b = List.length (d5.f x).b ∧ contLe (List.length (d5.f x).b) (1 : Nat) (cellsOf' encB (d5.f x).b) (cellsOf' encB (d5.f x).b)) ∧ (d5.f x).syn = (d5.f x).syn ∧ True) ∧ True) ∧ OpIs d6 (rmD { has := d5.has, f := d5.f, n := d5.n, room := d5.room, used := d5.used, down := d5.down, trip := (1 : Int), fail := d5.fail : Dsk } sC) e6 (rmE { has := d5.has, f := d5.f, n := d5.n, room := d5.room, used := d5.used, down := d5.down, trip := (1 : Int), fail := d5.fail : Dsk } sC) ∧ (((0 : Nat) = (0 : Nat) ∧ (0 : Nat) = (0 : Nat)) ∧ { data := #[(97 : UInt8)] : ByteArray } = sA ∧ True) ∧ ((True ∧ d6.room = d6.room ∧ d6.used = d6.used ∧ d6.down = d6.down ∧ d6.trip = d6.trip ∧ d6.fail = d6.fail ∧ True) ∧ (d6.n = d6.n ∧ (∀ (x : ByteArray), d6.has x = d6.has x) ∧ ∀ (x : ByteArray), d6.has x = true → (List.length (d6.f x).b = List.length (d6.f x).b ∧ contLe (List.length (d6.f x).b) (1 : Nat) (cellsOf' encB (d6.f x).b) (cellsOf' encB (d6.f x).b)) ∧ (d6.f x).syn = (d6.f x).syn ∧ True) ∧ True) ∧ OpIs d7 (syD d6 sA) e7 (syE d6 sA) ∧ (((0 : Nat) = (0 : Nat) ∧ (0 : Nat) = (0 : Nat)) ∧ { data := #[(97 : UInt8)] : ByteArray } = sA ∧ True) ∧ ((True ∧ d7.room = d7.room ∧ d7.used = d7.used ∧ d7.down = d7.down ∧ d7.trip = d7.trip ∧ d7.fail = d7.fail ∧ True) ∧ (d7.n = d7.n ∧ (∀ (x : ByteArray), d7.has x = d7.has x) ∧ ∀ (x : ByteArray), d7.has x = true → (List.length (d7.f x).b = List.length (d7.f x).b ∧ contLe (List.length (d7.f x).b) (1 : Nat) (cellsOf' encB (d7.f x).b) (cellsOf' encB (d7.f x).b)) ∧ (d7.f x).syn = (d7.f x).syn ∧ True) ∧ True) ∧ OpIs d8 (syD d7 sA) e8 (syE d7 sA) ∧ (((0 : Nat) = (0 : Nat) ∧ (0 : Nat) = (0 : Nat)) ∧ { data := #[(97 : UInt8)] : ByteArray } = sA ∧ (0 : Int) = (0 : Int) ∧ (1 : Int) = (1 : Int) ∧ True) ∧ (vcSn_q2 d8) ∧ List.length (Dsk.get d8 sA).b ≤ (140737488355328 : Nat) ∧ (1 : Int) ≤ (9223372036854775807 : Int) ∧ (((0 : Nat) = (0 : Nat) ∧ (0 : Nat) = (0 : Nat)) ∧ True) ∧ (vcSn_q2 d8) ∧ (((0 : Nat) = (0 : Nat) ∧ (0 : Nat) = (0 : Nat)) ∧ (0 : Nat) = (0 : Nat) ∧ True) ∧ (vcSn_q2 d8) ∧ (∀ (s : ByteArray), d8.has s = true → FOk (d8.f s)) ∧ SrtOk k2 d8.has d8.n ∧ (((0 : Nat) = (0 : Nat) ∧ (0 : Nat) = (0 : Nat)) ∧ (0 : Int) = (0 : Int) ∧ True) ∧ ((True ∧ (crS d8 k2 [] (List.length k2)).room = (crS d8 k2 [] (List.length k2)).room ∧ (crS d8 k2 [] (List.length k2)).used = (crS d8 k2 [] (List.length k2)).used ∧ false = false ∧ (-1 : Int) = (-1 : Int) ∧ (-1 : Int) = (-1 : Int) ∧ True) ∧ (vcSn_q3 d8 k2) ∧ True) ∧ (((0 : Nat) = (0 : Nat) ∧ (0 : Nat) = (0 : Nat)) ∧ { data := #[(97 : UInt8)] : ByteArray } = sA ∧ (true = true ∧ (1 : Nat) = (1 : Nat) ∧ contLe (1 : Nat) (1 : Nat) (Ax.rowAt (0 : Nat) fun (k j : Nat) => Ax.get [AV.s (Value.int IntKind.u8 (113 : Int))] (k * (1 : Nat) + j)) (cellsOf' encB [(113 : Int)])) ∧ True) ∧ ((True ∧ (crS d8 k2 [] (List.length k2)).room = (crS d8 k2 [] (List.length k2)).room ∧ (crS d8 k2 [] (List.length k2)).used = (crS d8 k2 [] (List.length k2)).used ∧ false = false ∧ (-1 : Int) = (-1 : Int) ∧ (0 : Int) = (0 : Int) ∧ True) ∧ (vcSn_q3 d8 k2) ∧ True) ∧ ApRoom { has := (crS d8 k2 [] (List.length k2)).has, f := (crS d8 k2 [] (List.length k2)).f, n := (crS d8 k2 [] (List.length k2)).n, room := (crS d8 k2 [] (List.length k2)).room, used := (crS d8 k2 [] (List.length k2)).used, down := false, trip := (-1 : Int), fail := (0 : Int) : Dsk } sA [(113 : Int)] ∧ OpIs d9 (apD { has := (crS d8 k2 [] (List.length k2)).has, f := (crS d8 k2 [] (List.length k2)).f, n := (crS d8 k2 [] (List.length k2)).n, room := (crS d8 k2 [] (List.length k2)).room, used := (crS d8 k2 [] (List.length k2)).used, down := false, trip := (-1 : Int), fail := (0 : Int) : Dsk } sA [(113 : Int)]) e9 (apE { has := (crS d8 k2 [] (List.length k2)).has, f := (crS d8 k2 [] (List.length k2)).f, n := (crS d8 k2 [] (List.length k2)).n, room := (crS d8 k2 [] (List.length k2)).room, used := (crS d8 k2 [] (List.length k2)).used, down := false, trip := (-1 : Int), fail := (0 : Int) : Dsk } sA [(113 : Int)]) ∧ (((0 : Nat) = (0 : Nat) ∧ (0 : Nat) = (0 : Nat)) ∧ { data := #[(97 : UInt8)] : ByteArray } = sA ∧ (true = true ∧ (1 : Nat) = (1 : Nat) ∧ contLe (1 : Nat) (1 : Nat) (Ax.rowAt (0 : Nat) fun (k j : Nat) => Ax.get [AV.s (Value.int IntKind.u8 (113 : Int))] (k * (1 : Nat) + j)) (cellsOf' encB [(113 : Int)])) ∧ True) ∧ ((True ∧ d9.room = d9.room ∧ d9.used = d9.used ∧ d9.down = d9.down ∧ d9.trip = d9.trip ∧ d9.fail = d9.fail ∧ True) ∧ (d9.n = d9.n ∧ (∀ (x : ByteArray), d9.has x = d9.has x) ∧ ∀ (x : ByteArray), d9.has x = true → (List.length (d9.f x).b = List.length (d9.f x).b ∧ contLe (List.length (d9.f x).b) (1 : Nat) (cellsOf' encB (d9.f x).b) (cellsOf' encB (d9.f x).b)) ∧ (d9.f x).syn = (d9.f x).syn ∧ True) ∧ True) ∧ ApRoom d9 sA [(113 : Int)] ∧ OpIs d10 (apD d9 sA [(113 : Int)]) e10 (apE d9 sA [(113 : Int)]) ∧ (((0 : Nat) = (0 : Nat) ∧ (0 : Nat) = (0 : Nat)) ∧ { data := #[(97 : UInt8)] : ByteArray } = sA ∧ { data := #[(98 : UInt8)] : ByteArray } = sB ∧ True) ∧ ((True ∧ d10.room = d10.room ∧ d10.used = d10.used ∧ d10.down = d10.down ∧ d10.trip = d10.trip ∧ d10.fail = d10.fail ∧ True) ∧ (d10.n = d10.n ∧ (∀ (x : ByteArray), d10.has x = d10.has x) ∧ ∀ (x : ByteArray), d10.has x = true → (List.length (d10.f x).b = List.length (d10.f x).b ∧ contLe (List.length (d10.f x).b) (1 : Nat) (cellsOf' encB (d10.f x).b) (cellsOf' encB (d10.f x).b)) ∧ (d10.f x).syn = (d10.f x).syn ∧ True) ∧ True) ∧ OpIs d11 (rnD d10 sA sB) e11 (rnE d10 sA sB) ∧ (((0 : Nat) = (0 : Nat) ∧ (0 : Nat) = (0 : Nat)) ∧ True) ∧ (vcSn_q4 d11) ∧ SrtOk k3 d11.has d11.n ∧ (∀ (k : Nat), k < List.length (rdL (crD d3 k1 [(1 : Int)]) sA (0 : Int) (9 : Int)) → true = true) ∧ ((List.map (fun (a : AV) => match match a with | AV.s (Value.int IntKind.u8 n) => some n | AV.y (Value.int IntKind.u8 n) => some n | x => none with | some n => UInt8.ofNat (Int.toNat n) | none => (0 : UInt8)) (List.map (fun (k : Nat) => AV.y (Value.int IntKind.u8 (List.getD (rdL (crD d3 k1 [(1 : Int)]) sA (0 : Int) (9 : Int)) k (0 : Int)))) (List.range (List.length (rdL (crD d3 k1 [(1 : Int)]) sA (0 : Int) (9 : Int))))) == [(120 : UInt8), (121 : UInt8), (122 : UInt8), (117 : UInt8)]) = true → ((rdE (crD d3 k1 [(1 : Int)]) sA (0 : Int) (9 : Int) == (0 : Int)) = true → (((↑(List.length (Dsk.get (crD d3 k1 [(1 : Int)]) sA).b) : Int) == (4 : Int)) = true → (((Dsk.get (crD d3 k1 [(1 : Int)]) sA).syn == (4 : Int)) = true → ((e4 == (23 : Int)) = true → ((e5 == (21 : Int)) = true → ((e6 == (24 : Int)) = true → ((e7 == (0 : Int)) = true → ((e8 == (22 : Int)) = true → ((rdE d8 sA (0 : Int) (1 : Int) == (22 : Int)) = true → (d8.down = true → ((e9 == (23 : Int)) = true → ((e10 == (0 : Int)) = true → ((e11 == (0 : Int)) = true → (((↑(List.length k3) : Int) == (1 : Int)) = true → (true && decide ((0 : Int) < (↑(List.length k3) : Int))) = true ∧ (((List.getD k3 (0 : Nat) (@default ByteArray ByteArray.instInhabited)).data.toList == [(98 : UInt8)]) = true → (((0 : Nat) = (0 : Nat) ∧ (0 : Nat) = (0 : Nat)) ∧ True) ∧ (vcSn_q4 d11) ∧ (d11.used == (5 : Int)) = true ∧ True) ∧ (((List.getD k3 (0 : Nat) (@default ByteArray ByteArray.instInhabited)).data.toList == [(98 : UInt8)]) = false → false = true ∧ True)) ∧ (((↑(List.length k3) : Int) == (1 : Int)) = false → false = true ∧ True)) ∧ ((e11 == (0 : Int)) = false → false = true ∧ True)) ∧ ((e10 == (0 : Int)) = false → false = true ∧ True)) ∧ ((e9 == (23 : Int)) = false → false = true ∧ True)) ∧ (d8.down = false → false = true ∧ True)) ∧ ((rdE d8 sA (0 : Int) (1 : Int) == (22 : Int)) = false → false = true ∧ True)) ∧ ((e8 == (22 : Int)) = false → false = true ∧ True)) ∧ ((e7 == (0 : Int)) = false → false = true ∧ True)) ∧ ((e6 == (24 : Int)) = false → false = true ∧ True)) ∧ ((e5 == (21 : Int)) = false → false = true ∧ True)) ∧ ((e4 == (23 : Int)) = false → false = true ∧ True)) ∧ (((Dsk.get (crD d3 k1 [(1 : Int)]) sA).syn == (4 : Int)) = false → false = true ∧ True)) ∧ (((↑(List.length (Dsk.get (crD d3 k1 [(1 : Int)]) sA).b) : Int) == (4 : Int)) = false → false = true ∧ True)) ∧ ((rdE (crD d3 k1 [(1 : Int)]) sA (0 : Int) (9 : Int) == (0 : Int)) = false → false = true ∧ True)) ∧ ((List.map (fun (a : AV) => match match a with | AV.s (Value.int IntKind.u8 n) => some n | AV.y (Value.int IntKind.u8 n) => some n | x => none with | some n => UInt8.ofNat (Int.toNat n) | none => (0 : UInt8)) (List.map (fun (k : Nat) => AV.y (Value.int IntKind.u8 (List.getD (rdL (crD d3 k1 [(1 : Int)]) sA (0 : Int) (9 : Int)) k (0 : Int)))) (List.range (List.length (rdL (crD d3 k1 [(1 : Int)]) sA (0 : Int) (9 : Int))))) == [(120 : UInt8), (121 : UInt8), (122 : UInt8), (117 : UInt8)]) = false → false = true ∧ True))) ∧ (true = false → (false = true → false = true ∧ True) ∧ (false = false → false = true ∧ True)))
theorem vcSn_eq (d1 : Dsk) (d2 : Dsk) (d3 : Dsk) (d4 : Dsk) (d5 : Dsk) (d6 : Dsk) (d7 : Dsk) (d8 : Dsk) (d9 : Dsk) (d10 : Dsk) (d11 : Dsk) (e1 : Int) (e2 : Int) (e3 : Int) (e4 : Int) (e5 : Int) (e6 : Int) (e7 : Int) (e8 : Int) (e9 : Int) (e10 : Int) (e11 : Int) (k1 : List ByteArray) (k2 : List ByteArray) (k3 : List ByteArray) : (ctrVC Tryz.prog (snH d1 d2 d3 d4 d5 d6 d7 d8 d9 d10 d11 d11 e1 e2 e3 e4 e5 e6 e7 e8 e9 e10 e11 k1 k2 k3) 4 [] [] (boR true)) = vcSn d1 d2 d3 d4 d5 d6 d7 d8 d9 d10 d11 e1 e2 e3 e4 e5 e6 e7 e8 e9 e10 e11 k1 k2 k3 := by kernel_rfl
end Go.Proofs.YtfiohpojlgkmkaaGreatDoor.O

namespace Go.Proofs.YtfiohpojlgkmkaaGreatDoor.O
open Go.Ax Go.Maps
set_option maxRecDepth 1000000
structure Is1 (d : Dsk) (s : ByteArray) (x : Fil) (u : Int) (dn : Bool) (tr fl : Int) : Prop where
  has : ∀ y, d.has y = decide (s = y)
  f : d.f s = x
  n : d.n = 1
  room : d.room = 10
  used : d.used = u
  down : d.down = dn
  trip : d.trip = tr
  fail : d.fail = fl
theorem Is1.hs {d : Dsk} {s : ByteArray} {x : Fil} {u : Int} {dn : Bool} {tr fl : Int} (h : Is1 d s x u dn tr fl) : d.has s = true := by rw [h.has]; simp
theorem Is1.get {d : Dsk} {s : ByteArray} {x : Fil} {u : Int} {dn : Bool} {tr fl : Int} (h : Is1 d s x u dn tr fl) : d.get s = x := by rw [get_t h.hs, h.f]
theorem is1_ap {d : Dsk} {s : ByteArray} {x : Fil} {u tr fl : Int} {l : List Int} (h : Is1 d s x u false tr fl) (ht : tr ≠ 0) (hf : fl ≠ 0) (hn : nmd s = true) (hu : 0 ≤ u) (hl : u + l.length ≤ 10) : apE d s l = 0 ∧ Is1 (apD d s l) s ⟨x.b ++ l, x.syn⟩ (u + l.length) false (mx (IntKind.i64.wrap (tr - 1))) (mx (IntKind.i64.wrap (fl - 1))) := by
  have hw : IntKind.i64.wrap (d.room - d.used) = 10 - u := by rw [h.room, h.used, wrap_i64 (by omega) (by omega)]
  have hw2 : IntKind.i64.wrap (d.used + l.length) = u + l.length := by rw [h.used, wrap_i64 (by omega) (by omega)]
  have hp : apP d s l = 0 := by
    unfold apP
    rw [if_neg (by simp [hn]), if_neg (by rw [h.fail]; exact hf), if_neg (by simp [h.hs]), hw, if_neg (by omega)]
  have hq : apQ d s = d.fld := by simp [apQ, hn]
  have ht' : d.fld.trip = tr := h.trip
  refine ⟨by unfold apE opE; rw [h.down, hp, hq, ht']; simp [ht], ?_⟩
  have e : apD d s l = apY d s l := by unfold apD opD; rw [h.down, hp, hq, ht']; simp [ht]
  rw [e]
  refine ⟨fun y => ?_, ?_, ?_, h.room, hw2, h.down, ?_, ?_⟩
  · show updBs d.has s y = _
    rw [updBs_same h.hs, h.has]
  · show (if s = s then _ else _) = _
    rw [if_pos rfl, h.get]
  · show (if d.has s then d.n else d.n + 1) = 1
    rw [if_pos h.hs, h.n]
  · show mx (IntKind.i64.wrap (d.trip - 1)) = _
    rw [h.trip]
  · show mx (IntKind.i64.wrap (d.fail - 1)) = _
    rw [h.fail]
theorem is1_full {d : Dsk} {s t : ByteArray} {x : Fil} {u tr fl : Int} {l : List Int} (h : Is1 d s x u false tr fl) (hn : nmd t = true) (hu : 0 ≤ u) (hu2 : u ≤ 10) (hl : 10 < u + l.length ∨ fl = 0) : apE d t l = 23 ∧ Is1 (apD d t l) s x u false tr (mx (IntKind.i64.wrap (fl - 1))) := by
  have hw : IntKind.i64.wrap (d.room - d.used) = 10 - u := by rw [h.room, h.used, wrap_i64 (by omega) (by omega)]
  have hp : apP d t l = 23 := by
    unfold apP
    rw [if_neg (by simp [hn])]
    by_cases h0 : d.fail = 0
    · rw [if_pos h0]
    · rw [if_neg h0, if_neg (by rw [h.n]; simp), hw, if_pos (by rw [h.fail] at h0; omega)]
  have hq : apQ d t = d.fld := by simp [apQ, hn]
  refine ⟨by unfold apE opE; rw [h.down, hp]; simp, ?_⟩
  have e : apD d t l = d.fld := by unfold apD opD; rw [h.down, hp, hq]; simp
  rw [e]
  exact ⟨h.has, h.f, h.n, h.room, h.used, h.down, h.trip, by show mx (IntKind.i64.wrap (d.fail - 1)) = _; rw [h.fail]⟩
theorem is1_bad {d : Dsk} {s t : ByteArray} {x : Fil} {u tr fl : Int} {l : List Int} (h : Is1 d s x u false tr fl) (hn : nmd t = false) : apE d t l = 21 ∧ Is1 (apD d t l) s x u false tr fl := by
  have hp : apP d t l = 21 := by unfold apP; rw [if_pos hn]
  have hq : apQ d t = d := by simp [apQ, hn]
  refine ⟨by unfold apE opE; rw [h.down, hp]; simp, ?_⟩
  have e : apD d t l = d := by unfold apD opD; rw [h.down, hp, hq]; simp
  rw [e]; exact h
theorem is1_rm {d : Dsk} {s t : ByteArray} {x : Fil} {u tr fl : Int} (h : Is1 d s x u false tr fl) (hn : ¬s = t) : rmE d t = 24 ∧ Is1 (rmD d t) s x u false tr fl := by
  have hp : fnP d t = 24 := by unfold fnP; rw [h.has]; simp [hn]
  refine ⟨by unfold rmE opE; rw [h.down, hp]; simp, ?_⟩
  have e : rmD d t = d := by unfold rmD opD; rw [h.down, hp]; simp
  rw [e]; exact h
theorem is1_sy {d : Dsk} {s : ByteArray} {x : Fil} {u tr fl : Int} (h : Is1 d s x u false tr fl) (ht : tr ≠ 0) : syE d s = 0 ∧ Is1 (syD d s) s ⟨x.b, x.b.length⟩ u false (mx (IntKind.i64.wrap (tr - 1))) fl := by
  have hp : fnP d s = 0 := by unfold fnP; rw [h.hs]; simp
  refine ⟨by unfold syE opE; rw [h.down, hp, h.trip]; simp [ht], ?_⟩
  have e : syD d s = syY d s := by unfold syD opD; rw [h.down, hp, h.trip]; simp [ht]
  rw [e]
  refine ⟨fun y => ?_, ?_, ?_, h.room, h.used, h.down, ?_, h.fail⟩
  · show updBs d.has s y = _
    rw [updBs_same h.hs, h.has]
  · show (if s = s then _ else _) = _
    rw [if_pos rfl, h.f]
  · show (if d.has s then d.n else d.n + 1) = 1
    rw [if_pos h.hs, h.n]
  · show mx (IntKind.i64.wrap (d.trip - 1)) = _
    rw [h.trip]
theorem is1_sy0 {d : Dsk} {s : ByteArray} {x : Fil} {u fl : Int} (h : Is1 d s x u false 0 fl) : syE d s = 22 ∧ Is1 (syD d s) s x u true 0 fl := by
  have hp : fnP d s = 0 := by unfold fnP; rw [h.hs]; simp
  refine ⟨by unfold syE opE; rw [h.down, hp, h.trip]; simp, ?_⟩
  have e : syD d s = { d with down := true } := by unfold syD opD; rw [h.down, hp, h.trip]; simp
  rw [e]
  exact ⟨h.has, h.f, h.n, h.room, h.used, rfl, h.trip, h.fail⟩
theorem is1_rn {d : Dsk} {s t : ByteArray} {x : Fil} {u tr fl : Int} (h : Is1 d s x u false tr fl) (ht : tr ≠ 0) (hn : nmd t = true) (hst : ¬s = t) : rnE d s t = 0 ∧ Is1 (rnD d s t) t x u false (mx (IntKind.i64.wrap (tr - 1))) fl := by
  have hp : rnP d s t = 0 := by unfold rnP; rw [h.hs]; simp [hn]
  refine ⟨by unfold rnE opE; rw [h.down, hp, h.trip]; simp [ht], ?_⟩
  have e : rnD d s t = rnY d s t := by unfold rnD opD; rw [h.down, hp, h.trip]; simp [ht]
  have hht : d.has t = false := by rw [h.has]; simp [hst]
  have hts : ¬t = s := fun e => hst e.symm
  rw [e]
  unfold rnY
  rw [if_neg hst]
  refine ⟨fun y => ?_, ?_, ?_, h.room, ?_, h.down, ?_, h.fail⟩
  · show updBs (delBs d.has s) t y = _
    unfold updBs delBs
    rw [h.has]
    by_cases h1 : s = y
    · subst h1; simp
    · simp [h1]
  · show (if t = t then _ else _) = _
    rw [if_pos rfl]; exact h.f
  · show (if delBs d.has s t then d.n - 1 else d.n - 1 + 1) = 1
    have : delBs d.has s t = false := by simp [delBs, hht]
    rw [this, h.n]; rfl
  · show (if d.has t then _ else d.used) = u
    rw [hht]; exact h.used
  · show mx (IntKind.i64.wrap (d.trip - 1)) = _
    rw [h.trip]
theorem is1_srt {d : Dsk} {s : ByteArray} {x : Fil} {u tr fl : Int} {dn : Bool} (h : Is1 d s x u dn tr fl) (hn : nmd s = true) : SrtOk [s] d.has d.n :=
  ⟨⟨List.pairwise_singleton _ _, fun y => by rw [h.has, decide_eq_true_eq, List.mem_singleton]; exact eq_comm⟩, by rw [h.n]; rfl, by rw [h.n]; omega, fun y hy => by
    rw [h.has, decide_eq_true_eq] at hy
    subst hy
    have := nmd_size hn
    unfold maxLen; omega⟩
theorem is1_cr {d : Dsk} {s : ByteArray} {x : Fil} {u tr fl : Int} {dn : Bool} {keep : List Int} (h : Is1 d s x u dn tr fl) (hx : (crF x (kvA keep 0)).b.length ≤ 10) : Is1 (crD d [s] keep) s (crF x (kvA keep 0)) (crF x (kvA keep 0)).b.length false (-1) (-1) := by
  have e : crD d [s] keep = { crS d [s] keep 1 with down := false, trip := -1, fail := -1 } := rfl
  have e2 : crS d [s] keep 1 = { (crS d [s] keep 0) with f := fun y => if y = s then crF (d.f s) (kvA keep 0) else d.f y, used := IntKind.i64.wrap (0 + (crF (d.f s) (kvA keep 0)).b.length) } := rfl
  rw [e, e2]
  refine ⟨h.has, ?_, h.n, h.room, ?_, rfl, rfl, rfl⟩
  · show (if s = s then _ else _) = _
    rw [if_pos rfl, h.f]
  · show IntKind.i64.wrap (0 + ((crF (d.f s) (kvA keep 0)).b.length : Int)) = _
    rw [h.f, wrap_i64 (by omega) (by omega)]; omega
end Go.Proofs.YtfiohpojlgkmkaaGreatDoor.O

namespace Go.Proofs.YtfiohpojlgkmkaaGreatDoor.O
open Go.Ax Go.Maps
set_option maxRecDepth 1000000
theorem is1_lv1 : Is1 lv1 sA ⟨[120, 121, 122], 0⟩ 3 false (-1) (-1) := by
  obtain ⟨a, b, c, e, f, g⟩ := lv_t1
  refine ⟨fun y => ?_, lv_f1, e, f, g, b, a, c⟩
  rw [lv_1]
  show updBs (fun _ => false) sA y = _
  unfold updBs
  simp
theorem is1_lv3 : Is1 lv3 sA ⟨[120, 121, 122, 117, 118], 3⟩ 5 false (-1) (-1) :=
  (is1_ap (l := [117, 118]) (is1_sy is1_lv1 (by decide)).2 (by decide) (by decide) lv_nm (by decide) (by decide)).2
theorem is1_c1 : Is1 (crD lv3 [sA] [1]) sA ⟨[120, 121, 122, 117], 4⟩ 4 false (-1) (-1) := is1_cr is1_lv3 (by decide)
theorem sn_c : (boR true).Sat (ACall' Tryz.prog 4 [] []) := by
  have hc1 := is1_c1
  have h3 := is1_lv3
  have hs3 := is1_srt h3 lv_nm
  have hfo3 : ∀ s, lv3.has s = true → FOk (lv3.f s) := fun s hs => by
    rw [h3.has, decide_eq_true_eq] at hs
    subst hs
    rw [h3.f]
    exact ⟨by decide, by decide, by decide⟩
  have a4 : ApRoom (crD lv3 [sA] [1]) sB [49, 50, 51, 52, 53, 54, 55] := ⟨fun _ => by rw [get_f (by rw [hc1.has]; decide)]; decide⟩
  obtain ⟨d4, o4, h4⟩ : ∃ d4, OpIs d4 (apD (crD lv3 [sA] [1]) sB [49, 50, 51, 52, 53, 54, 55]) 23 (apE (crD lv3 [sA] [1]) sB [49, 50, 51, 52, 53, 54, 55]) ∧ Is1 d4 sA ⟨[120, 121, 122, 117], 4⟩ 4 false (-1) (-1) := by
    obtain ⟨p, q⟩ := is1_full (t := sB) (l := [49, 50, 51, 52, 53, 54, 55]) hc1 (by decide) (by decide) (by decide) (.inl (by decide))
    exact ⟨_, ⟨rfl, p.symm⟩, q⟩
  have a5 : ApRoom d4 sUB [] := ⟨fun _ => by rw [get_f (by rw [h4.has]; decide)]; decide⟩
  obtain ⟨d5, o5, h5⟩ : ∃ d5, OpIs d5 (apD d4 sUB []) 21 (apE d4 sUB []) ∧ Is1 d5 sA ⟨[120, 121, 122, 117], 4⟩ 4 false (-1) (-1) := by
    obtain ⟨p, q⟩ := is1_bad (t := sUB) (l := []) h4 (by decide)
    exact ⟨_, ⟨rfl, p.symm⟩, q⟩
  have h5' : Is1 { d5 with trip := 1 } sA ⟨[120, 121, 122, 117], 4⟩ 4 false 1 (-1) := ⟨h5.has, h5.f, h5.n, h5.room, h5.used, h5.down, rfl, h5.fail⟩
  obtain ⟨d6, o6, h6⟩ : ∃ d6, OpIs d6 (rmD { d5 with trip := 1 } sC) 24 (rmE { d5 with trip := 1 } sC) ∧ Is1 d6 sA ⟨[120, 121, 122, 117], 4⟩ 4 false 1 (-1) := by
    obtain ⟨p, q⟩ := is1_rm (t := sC) h5' (by decide)
    exact ⟨_, ⟨rfl, p.symm⟩, q⟩
  obtain ⟨d7, o7, h7⟩ : ∃ d7, OpIs d7 (syD d6 sA) 0 (syE d6 sA) ∧ Is1 d7 sA ⟨[120, 121, 122, 117], 4⟩ 4 false 0 (-1) := by
    obtain ⟨p, q⟩ := is1_sy h6 (by decide)
    exact ⟨_, ⟨rfl, p.symm⟩, q⟩
  obtain ⟨d8, o8, h8⟩ : ∃ d8, OpIs d8 (syD d7 sA) 22 (syE d7 sA) ∧ Is1 d8 sA ⟨[120, 121, 122, 117], 4⟩ 4 true 0 (-1) := by
    obtain ⟨p, q⟩ := is1_sy0 h7
    exact ⟨_, ⟨rfl, p.symm⟩, q⟩
  have hs8 := is1_srt h8 lv_nm
  have hfo8 : ∀ s, d8.has s = true → FOk (d8.f s) := fun s hs => by
    rw [h8.has, decide_eq_true_eq] at hs
    subst hs
    rw [h8.f]
    exact ⟨by decide, by decide, by decide⟩
  have hc2 : Is1 (crD d8 [sA] []) sA ⟨[120, 121, 122, 117], 4⟩ 4 false (-1) (-1) := is1_cr h8 (by decide)
  have hc2' : Is1 { crD d8 [sA] [] with fail := 0 } sA ⟨[120, 121, 122, 117], 4⟩ 4 false (-1) 0 := ⟨hc2.has, hc2.f, hc2.n, hc2.room, hc2.used, hc2.down, hc2.trip, rfl⟩
  obtain ⟨k1, hk1⟩ : ∃ k, k = [sA] := ⟨_, rfl⟩
  rw [← hk1] at hc1 hs3 a4 o4 hs8 hc2 hc2'
  have a9 : ApRoom { has := (crS d8 k1 [] k1.length).has, f := (crS d8 k1 [] k1.length).f, n := (crS d8 k1 [] k1.length).n, room := (crS d8 k1 [] k1.length).room, used := (crS d8 k1 [] k1.length).used, down := false, trip := -1, fail := 0 } sA [113] := ⟨fun _ => by have := hc2'.get; unfold crD at this; rw [this]; decide⟩
  obtain ⟨d9, o9, h9⟩ : ∃ d9, OpIs d9 (apD { has := (crS d8 k1 [] k1.length).has, f := (crS d8 k1 [] k1.length).f, n := (crS d8 k1 [] k1.length).n, room := (crS d8 k1 [] k1.length).room, used := (crS d8 k1 [] k1.length).used, down := false, trip := -1, fail := 0 } sA [113]) 23 (apE { has := (crS d8 k1 [] k1.length).has, f := (crS d8 k1 [] k1.length).f, n := (crS d8 k1 [] k1.length).n, room := (crS d8 k1 [] k1.length).room, used := (crS d8 k1 [] k1.length).used, down := false, trip := -1, fail := 0 } sA [113]) ∧ Is1 d9 sA ⟨[120, 121, 122, 117], 4⟩ 4 false (-1) (-1) := by
    obtain ⟨p, q⟩ := is1_full (t := sA) (l := [113]) hc2' (by decide) (by decide) (by decide) (.inr rfl)
    exact ⟨_, ⟨rfl, p.symm⟩, q⟩
  have a10 : ApRoom d9 sA [113] := ⟨fun _ => by rw [h9.get]; decide⟩
  obtain ⟨d10, o10, h10⟩ : ∃ d10, OpIs d10 (apD d9 sA [113]) 0 (apE d9 sA [113]) ∧ Is1 d10 sA ⟨[120, 121, 122, 117, 113], 4⟩ 5 false (-1) (-1) := by
    obtain ⟨p, q⟩ := is1_ap (l := [113]) h9 (by decide) (by decide) (by decide) (by decide) (by decide)
    exact ⟨_, ⟨rfl, p.symm⟩, q⟩
  obtain ⟨d11, o11, h11⟩ : ∃ d11, OpIs d11 (rnD d10 sA sB) 0 (rnE d10 sA sB) ∧ Is1 d11 sB ⟨[120, 121, 122, 117, 113], 4⟩ 5 false (-1) (-1) := by
    obtain ⟨p, q⟩ := is1_rn (t := sB) h10 (by decide) (by decide) (by decide)
    exact ⟨_, ⟨rfl, p.symm⟩, q⟩
  have hs11 := is1_srt h11 (by decide)
  have hr1 : rdE (crD lv3 k1 [1]) sA 0 9 = 0 := by unfold rdE; rw [hc1.down, hc1.hs, hc1.f]; decide
  have hr2 : rdL (crD lv3 k1 [1]) sA 0 9 = [120, 121, 122, 117] := by unfold rdL; rw [if_pos hr1, hc1.f]; rfl
  have hr3 : rdE d8 sA 0 1 = 22 := by unfold rdE; rw [h8.down]; rfl
  have hg1 := hc1.get
  have hg8 := h8.get
  have a1 : ApRoom (d0 10) sA [120, 121, 122] := ⟨fun _ => by simp [Dsk.get, d0]⟩
  have a2 : OpIs lv1 (apD (d0 10) sA [120, 121, 122]) 0 0 := ⟨rfl, rfl⟩
  have a3 : OpIs lv2 (syD lv1 sA) 0 (syE lv1 sA) := ⟨rfl, lv_e2.symm⟩
  have a6 : ApRoom lv2 sA [117, 118] := ⟨fun _ => by rw [get_t lv_has2, lv_f2]; simp⟩
  have a7 : OpIs lv3 (apD lv2 sA [117, 118]) (apE lv2 sA [117, 118]) (apE lv2 sA [117, 118]) := ⟨rfl, rfl⟩
  have hu := h11.used
  have hd8 := h8.down
  refine ctr_vc (ht := snH lv1 lv2 lv3 d4 d5 d6 d7 d8 d9 d10 d11 d11 0 0 (apE lv2 sA [117, 118]) 23 21 24 0 22 23 0 0 k1 k1 [sB]) Tryz.mixed rfl ?_
  rw [vcSn_eq lv1 lv2 lv3 d4 d5 d6 d7 d8 d9 d10 d11 0 0 (apE lv2 sA [117, 118]) 23 21 24 0 22 23 0 0 k1 k1 [sB]]
  unfold vcSn vcSn_q4 vcSn_q3 vcSn_q2 vcSn_q1
  have e1 : ({ data := #[97] } : ByteArray) = sA := rfl
  have e2 : ({ data := #[98] } : ByteArray) = sB := rfl
  have e3 : ({ data := #[66] } : ByteArray) = sUB := rfl
  have e4 : ({ data := #[99] } : ByteArray) = sC := rfl
  have e5 : sB.data.toList = [98] := rfl
  generalize apE lv2 sA [117, 118] = z3 at *
  generalize lv3 = d3 at *
  generalize lv2 = d2 at *
  generalize lv1 = d1 at *
  simp [e1, e2, e3, e4, e5, a1, a2, a3, a4, a5, a6, a7, a9, a10, o4, o5, o6, o7, o8, o9, o10, o11, hs3, hs8, hs11, hfo3, hfo8, hr1, hr2, hr3, hg1, hg8, hu, hd8]
  refine ⟨fun k hk j hj => ?_, fun k hk j hj => ?_, fun k hk j hj => ?_, hfo3, fun k hk j hj => ?_, hfo8, fun k hk j hj => ?_, by rfl⟩
  all_goals
    obtain rfl : j = 0 := by omega
    rcases (by omega : k = 0 ∨ k = 1 ∨ k = 2 ∨ k = 3 ∨ k = 4 ∨ k = 5 ∨ k = 6) with rfl | rfl | rfl | rfl | rfl | rfl | rfl <;> first | (exact rfl) | omega
end Go.Proofs.YtfiohpojlgkmkaaGreatDoor.O
