import Derived.Test.YtnbhdjadlbhknaaGreatDoorProg
import Derived.KernelRfl
import Derived.Shelf.Strings.SlTrimAscii
import Derived.Test.YtnbhdjadlbhknaaGreatDoorE11
set_option linter.unusedVariables false
set_option linter.unusedSimpArgs false
set_option linter.unusedSectionVars false
namespace Go.Proofs.YtnbhdjadlbhknaaGreatDoor
open Go.Ax
noncomputable instance glSeat : Inhabited Gl0 := ⟨⟨[(0, 191, typeHandle Tryz.prog 74)]⟩⟩
end Go.Proofs.YtnbhdjadlbhknaaGreatDoor

namespace Go.Proofs.YtnbhdjadlbhknaaGreatDoor
open Go.Ax
set_option maxRecDepth 1000000
structure Rec where
  off : Int
  key : ByteArray
  val : List Int
  prod : Int
  seq : Int
instance : Inhabited Rec := ⟨⟨0, ByteArray.empty, [], 0, 0⟩⟩
structure Rng where
  lo : ByteArray
  hi : ByteArray
instance : Inhabited Rng := ⟨⟨ByteArray.empty, ByteArray.empty⟩⟩
structure Con where
  name : ByteArray
  off : Int
instance : Inhabited Con := ⟨⟨ByteArray.empty, 0⟩⟩
def encB (x : Int) : List AV := [.y (.int .u8 x)]
def encU (x : Int) : List AV := [.y (.int .u64 x)]
def encI (x : Int) : List AV := [.y (.int .i64 x)]
def encBs (b : Bool) (l : List Int) : AV := .ys b 1 l.length (cellsOf' encB l)
def bsLe (a b : List Int) : Prop := true = true ∧ List.length a = List.length b ∧ contLe (List.length a) (1 : Nat) (cellsOf' encB a) (cellsOf' encB b)
@[simp] theorem bsLe_eq (a b : List Int) : bsLe a b = (true = true ∧ List.length a = List.length b ∧ contLe (List.length a) (1 : Nat) (cellsOf' encB a) (cellsOf' encB b)) := rfl
def encUs (b : Bool) (l : List Int) : AV := .ys b 1 l.length (cellsOf' encU l)
def encR (x : Rec) : List AV := [.y (.int .u64 x.off), .y (.string x.key), encBs true x.val, .y (.int .u64 x.prod), .y (.int .u64 x.seq)]
def encRs (b : Bool) (l : List Rec) : AV := .ys b 5 l.length (cellsOf' encR l)
def encC (x : Con) : List AV := [.y (.string x.name), .y (.int .u64 x.off)]
def encCs (b : Bool) (l : List Con) : AV := .ys b 2 l.length (cellsOf' encC l)
def encG (r : Rng) : List AV := [.y (.string r.lo), .y (.string r.hi)]
def rowU (l : List Int) : Blk := .row 25 1 l.length none (cellsOf' encU l)
def rowR (l : List Rec) : Blk := .row 54 5 l.length none (cellsOf' encR l)
def rowC (l : List Con) : Blk := .row 83 2 l.length none (cellsOf' encC l)
theorem Tryz.mixed : Tryz.prog.follows .mixedOrders = true := by kernel_rfl
def boolR (b : Bool) : T An := .ret (.y (.bool b), [], [])
def intR (k : Int) : T An := .ret (.y (.int .i64 k), [], [])
def clnR (n : Nat) (c : Nat → Nat → AV) : T An := .ret (.own 0 1 0 n, [.row 5 1 n none c], [])
noncomputable def clnH : HintsT Tryz.prog := hh _ noLp noCs (op1 100 2 0 (.row 5 1) noOp)
def vcClone0 (n : Nat) (c : Nat → Nat → AV) : Prop :=
  ((0 : Nat) = (0 : Nat) ∧ (0 : Nat) = n) ∧ ((0 : Nat) = n ∧ contLe (0 : Nat) (1 : Nat) (fun (x x_1 : Nat) => AV.junk) c) ∧ True
theorem vcClone0_eq (n : Nat) (c : Nat → Nat → AV) : (ctrVC Tryz.prog clnH 100 [.s (.slice none 0 0)] [] (clnR n c)) = vcClone0 n c := by kernel_rfl
def vcClone1 (b : Bool) (n : Nat) (c : Nat → Nat → AV) : Prop :=
  (decide ((0 : Nat) + n ≤ (9223372036854775807 : Nat)) && decide (((0 : Nat) + n) * (1 : Nat) ≤ (140737488355328 : Nat))) = true ∧ ((0 : Nat) = (0 : Nat) ∧ (0 : Nat) + n = n) ∧ ((0 : Nat) + n = n ∧ contLe ((0 : Nat) + n) (1 : Nat) (appRow (0 : Nat) (fun (k j : Nat) => AV.junk) c) c) ∧ True
theorem vcClone1_eq (b : Bool) (n : Nat) (c : Nat → Nat → AV) : (ctrVC Tryz.prog clnH 100 [.yn b 1 n c] [] (clnR n c)) = vcClone1 b n c := by kernel_rfl
theorem clone_c (b : Bool) (n : Nat) (c : Nat → Nat → AV) (hl : n ≤ 140737488355328) : (clnR n c).Sat (ACall' Tryz.prog 100 [.ys b 1 n c] []) := by
  refine nil_cases (pre := []) (post := []) (fun h0 => ?_) ?_ ⟨_, rfl⟩
  · refine ctr_vc (ht := clnH) Tryz.mixed rfl ?_
    rw [List.nil_append, vcClone0_eq n c]
    unfold vcClone0
    simp [h0]
  · refine ctr_vc (ht := clnH) Tryz.mixed rfl ?_
    rw [List.nil_append, vcClone1_eq b n c]
    unfold vcClone1
    simp
    omega
noncomputable def clnC (b : Bool) (n : Nat) (c : Nat → Nat → AV) : Ctr Tryz.prog := ⟨100, [.ys b 1 n c], [], .need (n ≤ 140737488355328) (clnR n c), T.Sat.need fun h => clone_c b n c h⟩
def Rec.to (x : Rec) (o : Int) : Rec := ⟨o, x.key, x.val, x.prod, x.seq⟩
def recR (x : Rec) : T An := .ret (.agg (encR x), [], [])
noncomputable def ownH (x : Rec) : HintsT Tryz.prog := withSh (hh _ noLp (cs1 157 1 4 (clnC true x.val.length (cellsOf' encB x.val)) noCs) noOp) (sh1 157 2 0 779 noSh)
def vcOwn (x : Rec) (o : Int) : Prop :=
  ((bsLe x.val x.val) ∧ True) ∧ True ∧ List.length x.val ≤ (140737488355328 : Nat) ∧ (∀ (k : Nat), k < List.length x.val → ∀ (j : Nat), j < (1 : Nat) → tagT (cellsOf' encB x.val k j) = true) ∧ (IntKind.wrap IntKind.u64 o = IntKind.wrap IntKind.u64 o ∧ x.key = x.key ∧ (true = true ∧ List.length x.val = List.length x.val ∧ contLe (List.length x.val) (1 : Nat) (Ax.rowAt (0 : Nat) (cellsOf' encB x.val)) (cellsOf' encB x.val)) ∧ x.prod = x.prod ∧ x.seq = x.seq ∧ True) ∧ True
theorem vcOwn_eq (x : Rec) (o : Int) : (ctrVC Tryz.prog (ownH x) 157 [.agg (encR x), .y (.int .i64 o)] [] (recR (x.to (IntKind.u64.wrap o)))) = vcOwn x o := by kernel_rfl
def lt (a b : ByteArray) : Bool := Op.bytesLess a.data.toList b.data.toList
def chkK (r : Rng) : Int := if 32 < r.lo.size ∨ 32 < r.hi.size then 131 else if (!r.hi.data.toList == []) = true ∧ (lt r.hi r.lo || r.hi.data.toList == r.lo.data.toList) = true then 132 else 0
def vcChk (r : Rng) : Prop :=
  (decide ((32 : Int) < (↑(ByteArray.size r.lo) : Int)) = true → (131 : Int) = chkK r ∧ True) ∧ (decide ((32 : Int) < (↑(ByteArray.size r.lo) : Int)) = false → (decide ((32 : Int) < (↑(ByteArray.size r.hi) : Int)) = true → (131 : Int) = chkK r ∧ True) ∧ (decide ((32 : Int) < (↑(ByteArray.size r.hi) : Int)) = false → ((!r.hi.data.toList == []) = true → ((Op.bytesLess r.hi.data.toList r.lo.data.toList || r.hi.data.toList == r.lo.data.toList) = true → (132 : Int) = chkK r ∧ True) ∧ ((Op.bytesLess r.hi.data.toList r.lo.data.toList || r.hi.data.toList == r.lo.data.toList) = false → (0 : Int) = chkK r ∧ True)) ∧ ((!r.hi.data.toList == []) = false → (0 : Int) = chkK r ∧ True)))
theorem vcChk_eq (r : Rng) : (ctrVC Tryz.prog (hT _) 37 [.agg (encG r)] [] (intR (chkK r))) = vcChk r := by kernel_rfl
end Go.Proofs.YtnbhdjadlbhknaaGreatDoor

namespace Go.Proofs.YtnbhdjadlbhknaaGreatDoor.J
open Go.Ax
set_option maxRecDepth 1000000
def vint : Nat → Int → List Int
  | 0, v => [v]
  | f + 1, v => if v < 128 then [v] else (v % 128 + 128) :: vint f (v / 128)
def uintB (v : Int) : List Int := vint 10 v
def wM (l : List Int) : List Blk := [.dead, .row 5 1 l.length none (cellsOf' encB l), .box 117 [.own 1 1 0 l.length]]
def wmLe (a b : List Int) : Prop := (List.length a = List.length b ∧ contLe (List.length a) (1 : Nat) (cellsOf' encB a) (cellsOf' encB b)) ∧ (((0 : Nat) = (0 : Nat) ∧ List.length a = List.length b) ∧ True) ∧ True
@[simp] theorem wmLe_eq (a b : List Int) : wmLe a b = ((List.length a = List.length b ∧ contLe (List.length a) (1 : Nat) (cellsOf' encB a) (cellsOf' encB b)) ∧ (((0 : Nat) = (0 : Nat) ∧ List.length a = List.length b) ∧ True) ∧ True) := rfl
def wP : AV := .ptr 2 0 0 0
structure WU (t : List Int) where
  v : Int
  l : List Int
  f : Nat
  v0 : 0 ≤ v
  vf : v < 128 ^ (f + 1)
  n : l.length + f + 1 ≤ 140737488355327
  e : t = l ++ vint f v
def wuT (q : Int) : List AV := mkT 31 [(0, wP), (1, .y (.int .u64 q))]
def wuS (t : List Int) (_ : Unit) : Exit × List AV × List Blk := (.exit 0, mkT 31 [(0, wP), (1, .y (.int .u64 (t.getLastD 0)))], wM t.dropLast)
noncomputable def wuH : HintsT Tryz.prog := withSh (hT _) (sh1 77 2 12 3 (sh1 77 3 11 3 noSh))
def vcWuL (t : List Int) (q : WU t) : Prop :=
  (decide ((128 : Int) ≤ q.v) = true → true = true ∧ (decide (List.length q.l = List.length q.l) && decide (List.length q.l + (1 : Nat) ≤ (9223372036854775807 : Nat)) && decide ((List.length q.l + (1 : Nat)) * (1 : Nat) ≤ (140737488355328 : Nat))) = true ∧ ∃ (j : WU t), j.f < q.f ∧ ((((0 : Nat) = (0 : Nat) ∧ (0 : Nat) = (0 : Nat)) ∧ q.v / (128 : Int) = j.v ∧ True) ∧ ((List.length q.l + (1 : Nat) = List.length j.l ∧ contLe (List.length q.l + (1 : Nat)) (1 : Nat) (appRow (List.length q.l) (cellsOf' encB q.l) fun (k j : Nat) => Ax.get [AV.y (Value.int IntKind.u8 (IntKind.wrap IntKind.u8 (↑(BitVec.toNat (BitVec.ofInt (8 : Nat) (IntKind.wrap IntKind.u8 q.v) ||| BitVec.ofInt (8 : Nat) (128 : Int))) : Int)))] (k * (1 : Nat) + j)) (cellsOf' encB j.l)) ∧ (((0 : Nat) = (0 : Nat) ∧ List.length q.l + (1 : Nat) = List.length j.l) ∧ True) ∧ True) ∧ true = true) ∧ true = true ∧ () = ()) ∧ (decide ((128 : Int) ≤ q.v) = false → (((0 : Nat) = (0 : Nat) ∧ (0 : Nat) = (0 : Nat)) ∧ q.v = List.getLastD t (0 : Int) ∧ True) ∧ (wmLe q.l (List.dropLast t)) ∧ true = true)
theorem vcWuL_eq (t : List Int) (q : WU t) : (loopVC Tryz.prog wuH 77 0 (fun q => q.f) (fun q => wuT q.v) (fun q => wM q.l) [1, 3] (fun _ => .ret ()) (wuS t) q) = vcWuL t q := by kernel_rfl
def wR (l : List Int) : T An := .ret (.tup [], wM l, [1, 3])
noncomputable def wuJ (t : List Int) (q : WU t) : HintsT Tryz.prog := withSh (hh _ (lp1 77 0 (jobOf (fun q : WU t => wuT q.v) (fun q => wM q.l) [1, 3] (fun _ => .ret ()) (wuS t) q) noLp) noCs noOp) (sh1 77 2 12 3 (sh1 77 3 11 3 noSh))
def vcWu (t : List Int) (q : WU t) (v : Int) (l : List Int) : Prop :=
  ((((0 : Nat) = (0 : Nat) ∧ (0 : Nat) = (0 : Nat)) ∧ v = q.v ∧ True) ∧ (wmLe l q.l) ∧ true = true) ∧ LoopOk Tryz.prog (77 : Nat) (0 : Nat) (loopAt Tryz.prog (77 : Nat) (0 : Nat)) { t := wuT q.v, m := wM q.l, mv := [] : St } (T.map (lout [(1 : Nat), (3 : Nat)] (wuS t)) ((fun (x : WU t) => T.ret ()) q)) ∧ (decide (List.length (List.dropLast t) = List.length (List.dropLast t)) && decide (List.length (List.dropLast t) + (1 : Nat) ≤ (9223372036854775807 : Nat)) && decide ((List.length (List.dropLast t) + (1 : Nat)) * (1 : Nat) ≤ (140737488355328 : Nat))) = true ∧ True ∧ (List.length (List.dropLast t) + (1 : Nat) = List.length t ∧ contLe (List.length (List.dropLast t) + (1 : Nat)) (1 : Nat) (appRow (List.length (List.dropLast t)) (cellsOf' encB (List.dropLast t)) fun (k j : Nat) => Ax.get [AV.y (Value.int IntKind.u8 (IntKind.wrap IntKind.u8 (List.getLastD t (0 : Int))))] (k * (1 : Nat) + j)) (cellsOf' encB t)) ∧ (((0 : Nat) = (0 : Nat) ∧ List.length (List.dropLast t) + (1 : Nat) = List.length t) ∧ True) ∧ True
theorem vcWu_eq (t : List Int) (q : WU t) (v : Int) (l : List Int) : (ctrVCg Tryz.prog (wuJ t q) 77 [wP, .y (.int .u64 v)] (wM l) (wR t)) = vcWu t q v l := by kernel_rfl
end Go.Proofs.YtnbhdjadlbhknaaGreatDoor.J

namespace Go.Proofs.YtnbhdjadlbhknaaGreatDoor.J
open Go.Ax
set_option maxRecDepth 1000000
theorem of_retJ {P : Program} {f : FuncId} {args : List AV} {M : List Blk} {a : An} (h : (T.ret a : T An).Sat (ACall' P f args M)) : ACall' P f args M a := by
  obtain ⟨a', ha, e⟩ := h (fun x => x = a) rfl
  rw [← e]; exact ha
theorem acall_mv {P : Program} {f : FuncId} {args : List AV} {M M' : List Blk} {r : AV} {mv mv' : List Nat} (h : ACall P f args M r M' mv) (hd : ∀ i ∈ mv, i ∈ mv' ∨ getM M i = .dead) : ACall P f args M r M' mv' := by
  intro H E w vals hC hargs
  refine (h H E w vals hC hargs).mono ?_
  rintro e w' ⟨v, H', E', he, hr, hc, hev⟩
  refine ⟨v, H', E', he, hr, hc, { hev with ids := fun i hl hn => hev.ids i hl fun hi => ?_ }⟩
  rcases hd i hi with h1 | h1
  · exact hn h1
  · have := hC.blk i
    rw [h1] at this
    have this : E.lv i = false := this
    rw [this] at hl
    cases hl
def orB (v : Int) : Int := IntKind.wrap IntKind.u8 (↑(BitVec.toNat (BitVec.ofInt 8 (IntKind.wrap IntKind.u8 v) ||| BitVec.ofInt 8 128)) : Int)
theorem or_all : ∀ b : Fin 256, IntKind.wrap IntKind.u8 (↑(BitVec.toNat (BitVec.ofInt 8 (b.val : Int) ||| BitVec.ofInt 8 128)) : Int) = (b.val : Int) % 128 + 128 := by decide
theorem u8_mod (v : Int) : IntKind.wrap IntKind.u8 v = v % 256 := by
  unfold IntKind.wrap
  simp [IntKind.bits, IntKind.signed]
theorem orB_eq (v : Int) : orB v = v % 128 + 128 := by
  have h0 : 0 ≤ v % 256 := Int.emod_nonneg _ (by omega)
  have h1 : v % 256 < 256 := Int.emod_lt_of_pos _ (by omega)
  have h := or_all ⟨(v % 256).toNat, by omega⟩
  have e : (((v % 256).toNat : Nat) : Int) = v % 256 := by omega
  simp only [e] at h
  unfold orB
  rw [u8_mod v, h]
  omega
theorem vint_step {f : Nat} {v : Int} (h : 128 ≤ v) : vint (f + 1) v = (v % 128 + 128) :: vint f (v / 128) := by
  rw [vint, if_neg (by omega)]
theorem vint_end {f : Nat} {v : Int} (h : v < 128) : vint f v = [v] := by
  cases f with
  | zero => rfl
  | succ f => rw [vint, if_pos h]
theorem wu_loop (t : List Int) (q : WU t) : LoopOk Tryz.prog 77 0 (loopAt Tryz.prog 77 0) ⟨wuT q.v, wM q.l, []⟩ (T.map (lout [1, 3] (wuS t)) (.ret ())) := by
  refine loop_vcH (P := Tryz.prog) (f := 77) (k := 0) (ι := WU t) (μ := fun q => q.f) (ht := fun _ => wuH) (stT := fun q => wuT q.v) (stM := fun q => wM q.l) (X := [1, 3]) (o := fun _ => .ret ()) (S := wuS t) Tryz.mixed (fun _ => rfl) (fun q => ?_) q
  rw [vcWuL_eq t q]
  unfold vcWuL
  have hn := q.n
  have hv0 := q.v0
  have hvf := q.vf
  have he := q.e
  by_cases h : 128 ≤ q.v
  · obtain ⟨f, hf⟩ : ∃ f, q.f = f + 1 := by
      cases hf : q.f with
      | zero => rw [hf] at hvf; simp at hvf; omega
      | succ f => exact ⟨f, rfl⟩
    have hz : decide ((128 : Int) ≤ q.v) = true := by simp; omega
    rw [hf, vint_step h] at he
    have hdiv : q.v / 128 < 128 ^ (f + 1) := by
      rw [hf] at hvf
      have : (128 : Int) ^ (f + 1 + 1) = 128 ^ (f + 1) * 128 := Int.pow_succ 128 (f + 1)
      rw [this] at hvf
      exact Int.ediv_lt_of_lt_mul (by omega) hvf
    have ha := app1_le (enc := encB) (l := q.l) (n := q.l.length) (sz := 1) (x := q.v % 128 + 128) (cs := [.y (.int .u8 (q.v % 128 + 128))]) rfl (fun j hj => le0_refl _)
    simp only [Nat.mul_one] at ha
    have hO := orB_eq q.v
    unfold orB at hO
    simp only [hz, hO]
    simp
    refine ⟨⟨by omega, by omega⟩, ⟨q.v / 128, q.l ++ [q.v % 128 + 128], f, Int.ediv_nonneg hv0 (by omega), hdiv, by simp; omega, he.trans (by simp)⟩, by show f < q.f; omega, rfl, ?_⟩
    exact ⟨⟨by simp, ha⟩, by simp⟩
  · have hz : decide ((128 : Int) ≤ q.v) = false := by simp; omega
    rw [vint_end (by omega)] at he
    have h1 : t.getLastD 0 = q.v := (congrArg (fun x : List Int => x.getLastD 0) he).trans (by simp)
    have h2 : t.dropLast = q.l := (congrArg List.dropLast he).trans (by simp)
    simp only [hz, h1, h2]
    simp
theorem vint_len (f : Nat) : ∀ v, (vint f v).length ≤ f + 1 := by
  induction f with
  | zero => intro v; exact Nat.le_refl _
  | succ f ih =>
    intro v
    unfold vint
    split
    · simp
    · simp only [List.length_cons]
      have := ih (v / 128)
      omega
theorem vint_last (f : Nat) : ∀ v, 0 ≤ v → v < 128 ^ (f + 1) → ∃ l z, vint f v = l ++ [z] ∧ 0 ≤ z ∧ z < 128 := by
  induction f with
  | zero =>
    intro v h0 h1
    exact ⟨[], v, rfl, h0, by simpa using h1⟩
  | succ f ih =>
    intro v h0 h1
    by_cases h : v < 128
    · exact ⟨[], v, vint_end h, h0, h⟩
    · have : (128 : Int) ^ (f + 1 + 1) = 128 ^ (f + 1) * 128 := Int.pow_succ 128 (f + 1)
      rw [this] at h1
      obtain ⟨l, z, h2, h3, h4⟩ := ih (v / 128) (Int.ediv_nonneg h0 (by omega)) (Int.ediv_lt_of_lt_mul (by omega) h1)
      exact ⟨(v % 128 + 128) :: l, z, by rw [vint_step (by omega), h2]; rfl, h3, h4⟩
theorem wu_c (v : Int) (l : List Int) (h0 : 0 ≤ v) (h1 : v < 18446744073709551616) (hn : l.length + 20 ≤ 140737488355327) : (wR (l ++ uintB v)).Sat (ACall' Tryz.prog 77 [wP, .y (.int .u64 v)] (wM l)) := by
  have hv : v < 128 ^ (10 + 1) := by
    have : (128 : Int) ^ (10 + 1) = 151115727451828646838272 := by decide
    omega
  obtain ⟨a, z, ha, hz0, hz1⟩ := vint_last 10 v h0 hv
  have q : WU (l ++ uintB v) := ⟨v, l, 10, h0, hv, by omega, rfl⟩
  have hlen := vint_len 10 v
  have lp := wu_loop (l ++ uintB v) ⟨v, l, 10, h0, hv, by omega, rfl⟩
  refine ctr_vcg (ht := wuJ (l ++ uintB v) ⟨v, l, 10, h0, hv, by omega, rfl⟩) Tryz.mixed rfl ?_
  rw [vcWu_eq (l ++ uintB v) ⟨v, l, 10, h0, hv, by omega, rfl⟩ v l]
  unfold vcWu
  have e1 : (l ++ uintB v).dropLast = l ++ a := by unfold uintB; rw [ha, ← List.append_assoc]; simp
  have e2 : (l ++ uintB v).getLastD 0 = z := by unfold uintB; rw [ha, ← List.append_assoc]; simp
  have e3 : l ++ uintB v = (l ++ a) ++ [z] := by unfold uintB; rw [ha, ← List.append_assoc]
  have hz8 : IntKind.wrap IntKind.u8 z = z := by rw [u8_mod]; omega
  have hal : a.length ≤ 10 := by rw [ha] at hlen; simp at hlen; omega
  have hr := app1_le (enc := encB) (l := l ++ a) (n := (l ++ a).length) (sz := 1) (x := z) (cs := [.y (.int .u8 z)]) rfl (fun j hj => le0_refl _)
  simp only [Nat.mul_one] at hr
  simp only [e1, e2, hz8]
  simp [lp]
  have e4 : (uintB v).length = a.length + 1 := by unfold uintB; rw [ha]; simp
  rw [List.length_append] at hr
  refine ⟨⟨by omega, by omega⟩, ⟨by omega, ?_⟩, by omega⟩
  rw [e3]
  exact hr
def wR2 (l : List Int) : T An := .ret (.tup [], wM l, [1])
theorem wR2_of {f : FuncId} {args : List AV} {l l' : List Int} (h : (wR l').Sat (ACall' Tryz.prog f args (wM l))) : (wR2 l').Sat (ACall' Tryz.prog f args (wM l)) := by
  have h1 : ACall' Tryz.prog f args (wM l) (.tup [], wM l', [1, 3]) := of_retJ h
  have h2 : ACall' Tryz.prog f args (wM l) (.tup [], wM l', [1]) := acall_mv h1 fun i hi => by
    rcases List.mem_cons.1 hi with rfl | hi
    · exact .inl (by simp)
    · obtain rfl := List.mem_singleton.1 hi
      exact .inr rfl
  exact T.Sat.ret h2
structure WuOk (v : Int) (l : List Int) : Prop where
  v0 : 0 ≤ v
  v1 : v < 18446744073709551616
  n : l.length + 20 ≤ 140737488355327
noncomputable def wuC (v : Int) (l : List Int) : Ctr Tryz.prog := ⟨77, [wP, .y (.int .u64 v)], wM l, .need (WuOk v l) (wR2 (l ++ uintB v)), T.Sat.need fun h => wR2_of (wu_c v l h.v0 h.v1 h.n)⟩
end Go.Proofs.YtnbhdjadlbhknaaGreatDoor.J

namespace Go.Proofs.YtnbhdjadlbhknaaGreatDoor.J
open Go.Ax
set_option maxRecDepth 1000000
end Go.Proofs.YtnbhdjadlbhknaaGreatDoor.J

namespace Go.Proofs.YtnbhdjadlbhknaaGreatDoor.J
open Go.Ax
set_option maxRecDepth 1000000
end Go.Proofs.YtnbhdjadlbhknaaGreatDoor.J

namespace Go.Proofs.YtnbhdjadlbhknaaGreatDoor.J
open Go.Ax
set_option maxRecDepth 1000000
def zig (v : Int) : Int := if 0 ≤ v then 2 * v else -2 * v - 1
def intB (v : Int) : List Int := uintB (zig v)
def boolB (b : Bool) : List Int := [if b then 1 else 0]
def textB (t : List Int) : List Int := uintB t.length ++ t
def strB (s : ByteArray) : List Int := s.data.toList.map fun x => (x.toNat : Int)
noncomputable def suW : HintsT Tryz.prog → HintsT Tryz.prog := fun h => withSub h [77, 76, 93, 78, 79, 91, 130, 92, 80]
noncomputable def wiH (v : Int) (l : List Int) : HintsT Tryz.prog := suW (hh _ noLp (cs1 76 0 8 (wuC (zig v) l) noCs) noOp)
def vcWi (v : Int) (l : List Int) : Prop :=
  true = true ∧ true = true ∧ true = true ∧ (((0 : Nat) = (0 : Nat) ∧ (0 : Nat) = (0 : Nat)) ∧ IntKind.wrap IntKind.u64 (↑(BitVec.toNat (BitVec.ofInt (64 : Nat) (IntKind.wrap IntKind.u64 (IntKind.wrap IntKind.u64 v * (2 : Int))) ^^^ BitVec.ofInt (64 : Nat) (IntKind.wrap IntKind.u64 (Int.fdiv v (9223372036854775808 : Int))))) : Int) = zig v ∧ True) ∧ (wmLe l l) ∧ WuOk (zig v) l ∧ True ∧ (List.length (l ++ uintB (zig v)) = List.length (l ++ intB v) ∧ contLe (List.length (l ++ uintB (zig v))) (1 : Nat) (cellsOf' encB (l ++ uintB (zig v))) (cellsOf' encB (l ++ intB v))) ∧ (((0 : Nat) = (0 : Nat) ∧ List.length (l ++ uintB (zig v)) = List.length (l ++ intB v)) ∧ True) ∧ True
theorem vcWi_eq (v : Int) (l : List Int) : (ctrVCg Tryz.prog (wiH v l) 76 [wP, .y (.int .i64 v)] (wM l) (wR2 (l ++ intB v))) = vcWi v l := by kernel_rfl
noncomputable def wbH : HintsT Tryz.prog := suW (withSh (hT _) (sh1 93 3 10 3 noSh))
def vcWb (b : Bool) (l : List Int) : Prop :=
  (b = true → (decide (List.length l = List.length l) && decide (List.length l + (1 : Nat) ≤ (9223372036854775807 : Nat)) && decide ((List.length l + (1 : Nat)) * (1 : Nat) ≤ (140737488355328 : Nat))) = true ∧ True ∧ (List.length l + (1 : Nat) = List.length (l ++ [if b = true then (1 : Int) else (0 : Int)]) ∧ contLe (List.length l + (1 : Nat)) (1 : Nat) (appRow (List.length l) (cellsOf' encB l) fun (k j : Nat) => Ax.get [AV.s (Value.int IntKind.u8 (1 : Int))] (k * (1 : Nat) + j)) (cellsOf' encB (l ++ [if b = true then (1 : Int) else (0 : Int)]))) ∧ (((0 : Nat) = (0 : Nat) ∧ List.length l + (1 : Nat) = List.length (l ++ [if b = true then (1 : Int) else (0 : Int)])) ∧ True) ∧ True) ∧ (b = false → (decide (List.length l = List.length l) && decide (List.length l + (1 : Nat) ≤ (9223372036854775807 : Nat)) && decide ((List.length l + (1 : Nat)) * (1 : Nat) ≤ (140737488355328 : Nat))) = true ∧ True ∧ (List.length l + (1 : Nat) = List.length (l ++ [if b = true then (1 : Int) else (0 : Int)]) ∧ contLe (List.length l + (1 : Nat)) (1 : Nat) (appRow (List.length l) (cellsOf' encB l) fun (k j : Nat) => Ax.get [AV.s (Value.int IntKind.u8 (0 : Int))] (k * (1 : Nat) + j)) (cellsOf' encB (l ++ [if b = true then (1 : Int) else (0 : Int)]))) ∧ (((0 : Nat) = (0 : Nat) ∧ List.length l + (1 : Nat) = List.length (l ++ [if b = true then (1 : Int) else (0 : Int)])) ∧ True) ∧ True)
theorem vcWb_eq (b : Bool) (l : List Int) : (ctrVCg Tryz.prog wbH 93 [wP, .y (.bool b)] (wM l) (wR (l ++ boolB b))) = vcWb b l := by kernel_rfl
noncomputable def wsH (n : Nat) (l : List Int) : HintsT Tryz.prog := suW (withSh (hh _ noLp (cs1 78 0 4 (wuC n l) noCs) noOp) (sh1 78 1 9 3 noSh))
def vcWs (s : ByteArray) (l : List Int) : Prop :=
  (((0 : Nat) = (0 : Nat) ∧ (0 : Nat) = (0 : Nat)) ∧ IntKind.wrap IntKind.u64 (↑(ByteArray.size s) : Int) = (↑(ByteArray.size s) : Int) ∧ True) ∧ (wmLe l l) ∧ WuOk (↑(ByteArray.size s) : Int) l ∧ List.length (l ++ uintB (↑(ByteArray.size s) : Int)) + ByteArray.size s ≤ (140737488355328 : Nat) ∧ True ∧ (List.length (l ++ uintB (↑(ByteArray.size s) : Int)) + ByteArray.size s = List.length (l ++ textB (strB s)) ∧ contLe (List.length (l ++ uintB (↑(ByteArray.size s) : Int)) + ByteArray.size s) (1 : Nat) (appRow (List.length (l ++ uintB (↑(ByteArray.size s) : Int))) (cellsOf' encB (l ++ uintB (↑(ByteArray.size s) : Int))) fun (k x : Nat) => AV.y (Value.int IntKind.u8 (↑(UInt8.toNat (List.getD s.data.toList k (0 : UInt8))) : Int))) (cellsOf' encB (l ++ textB (strB s)))) ∧ (((0 : Nat) = (0 : Nat) ∧ List.length (l ++ uintB (↑(ByteArray.size s) : Int)) + ByteArray.size s = List.length (l ++ textB (strB s))) ∧ True) ∧ True
theorem vcWs_eq (s : ByteArray) (l : List Int) : (ctrVCg Tryz.prog (wsH s.size l) 78 [wP, .y (.string s)] (wM l) (wR (l ++ textB (strB s)))) = vcWs s l := by kernel_rfl
noncomputable def wyH (n : Nat) (l : List Int) : HintsT Tryz.prog := suW (withSh (hh _ noLp (cs1 79 0 4 (wuC n l) noCs) noOp) (sh1 79 1 9 3 noSh))
def vcWy (f : Bool) (t : List Int) (l : List Int) : Prop :=
  (((0 : Nat) = (0 : Nat) ∧ (0 : Nat) = (0 : Nat)) ∧ IntKind.wrap IntKind.u64 (↑(List.length t) : Int) = (↑(List.length t) : Int) ∧ True) ∧ (wmLe l l) ∧ WuOk (↑(List.length t) : Int) l ∧ (decide (List.length (l ++ uintB (↑(List.length t) : Int)) = List.length (l ++ uintB (↑(List.length t) : Int))) && decide (List.length (l ++ uintB (↑(List.length t) : Int)) + List.length t ≤ (9223372036854775807 : Nat)) && decide ((List.length (l ++ uintB (↑(List.length t) : Int)) + List.length t) * (1 : Nat) ≤ (140737488355328 : Nat))) = true ∧ True ∧ (List.length (l ++ uintB (↑(List.length t) : Int)) + List.length t = List.length (l ++ textB t) ∧ contLe (List.length (l ++ uintB (↑(List.length t) : Int)) + List.length t) (1 : Nat) (appRow (List.length (l ++ uintB (↑(List.length t) : Int))) (cellsOf' encB (l ++ uintB (↑(List.length t) : Int))) (cellsOf' encB t)) (cellsOf' encB (l ++ textB t))) ∧ (((0 : Nat) = (0 : Nat) ∧ List.length (l ++ uintB (↑(List.length t) : Int)) + List.length t = List.length (l ++ textB t)) ∧ True) ∧ True
theorem vcWy_eq (f : Bool) (t : List Int) (l : List Int) : (ctrVCg Tryz.prog (wyH t.length l) 79 [wP, encBs f t] (wM l) (wR (l ++ textB t))) = vcWy f t l := by kernel_rfl
end Go.Proofs.YtnbhdjadlbhknaaGreatDoor.J

namespace Go.Proofs.YtnbhdjadlbhknaaGreatDoor.J
open Go.Ax
set_option maxRecDepth 1000000
theorem appL_le {α : Type} [Inhabited α] {enc : α → List AV} {l t : List α} {n sz N : Nat} {d : Nat → Nat → AV} (hn : n = l.length) (hN : N = l.length + t.length) (h : ∀ k, k < t.length → ∀ j, j < sz → le0 (d k j) (get (enc (t.getD k default)) j)) :
    contLe N sz (appRow n (cellsOf' enc l) d) (cellsOf' enc (l ++ t)) := by
  subst hn
  subst hN
  intro k hk j hj
  unfold appRow cellsOf'
  by_cases h1 : k < l.length
  · rw [if_pos h1]
    have : (l ++ t).getD k default = l.getD k default := by simp [List.getD, List.getElem?_append_left h1]
    rw [this]
    exact le0_refl _
  · rw [if_neg h1]
    have : (l ++ t).getD k default = t.getD (k - l.length) default := by simp [List.getD, List.getElem?_append_right (by omega : l.length ≤ k)]
    rw [this]
    exact h _ (by omega) j hj
theorem uintB_len (v : Int) : (uintB v).length ≤ 11 := vint_len 10 v
theorem zig_xor (v : Int) (h0 : -9223372036854775808 ≤ v) (h1 : v < 9223372036854775808) : IntKind.wrap IntKind.u64 (↑(BitVec.toNat (BitVec.ofInt 64 (IntKind.wrap IntKind.u64 (IntKind.wrap IntKind.u64 v * (2 : Int))) ^^^ BitVec.ofInt 64 (IntKind.wrap IntKind.u64 (Int.fdiv v (9223372036854775808 : Int))))) : Int) = zig v := by
  have wr : ∀ x : Int, IntKind.wrap IntKind.u64 x = x % 18446744073709551616 := by
    intro x
    unfold IntKind.wrap
    simp [IntKind.bits, IntKind.signed]
  unfold zig
  rw [wr, wr, wr, wr]
  by_cases h : 0 ≤ v
  · have e1 : Int.fdiv v 9223372036854775808 = 0 := by rw [Int.fdiv_eq_ediv_of_nonneg _ (by decide)]; omega
    rw [e1, if_pos h]
    have e2 : (0 : Int) % 18446744073709551616 = 0 := by decide
    rw [e2]
    have e3 : BitVec.ofInt 64 0 = 0#64 := by decide
    rw [e3, BitVec.xor_zero, BitVec.toNat_ofInt]
    omega
  · have e1 : Int.fdiv v 9223372036854775808 = -1 := by rw [Int.fdiv_eq_ediv_of_nonneg _ (by decide)]; omega
    rw [e1, if_neg h]
    have e2 : (-1 : Int) % 18446744073709551616 = 18446744073709551615 := by decide
    rw [e2]
    have e3 : BitVec.ofInt 64 18446744073709551615 = BitVec.allOnes 64 := by decide
    rw [e3, BitVec.xor_allOnes, BitVec.toNat_not, BitVec.toNat_ofInt]
    omega
structure WiOk (v : Int) (l : List Int) : Prop where
  v0 : -9223372036854775808 ≤ v
  v1 : v < 9223372036854775808
  n : l.length + 20 ≤ 140737488355327
theorem zig0 {v : Int} : 0 ≤ zig v := by unfold zig; split <;> omega
theorem wi_c (v : Int) (l : List Int) (h : WiOk v l) : (wR2 (l ++ intB v)).Sat (ACall' Tryz.prog 76 [wP, .y (.int .i64 v)] (wM l)) := by
  refine ctr_vcg (ht := wiH v l) Tryz.mixed rfl ?_
  rw [vcWi_eq v l]
  unfold vcWi
  have h1 := zig_xor v h.v0 h.v1
  have h2 : WuOk (zig v) l := ⟨zig0, by unfold zig; have := h.v0; have := h.v1; split <;> omega, h.n⟩
  simp only [h1]
  simp [h2, intB]
noncomputable def wiC (v : Int) (l : List Int) : Ctr Tryz.prog := ⟨76, [wP, .y (.int .i64 v)], wM l, .need (WiOk v l) (wR2 (l ++ intB v)), T.Sat.need fun h => wi_c v l h⟩
theorem one_le (l : List Int) (v : Int) : contLe (l.length + 1) 1 (appRow l.length (cellsOf' encB l) fun k j => get [AV.s (.int .u8 v)] (k * 1 + j)) (cellsOf' encB (l ++ [v])) := by
  refine app1_le rfl fun j hj => ?_
  obtain rfl : j = 0 := by omega
  show le0 (.s (.int .u8 v)) (.y (.int .u8 v))
  rw [le0_sy]
  exact veq_refl _
structure WbOk (l : List Int) : Prop where
  n : l.length + 20 ≤ 140737488355327
theorem wb_c (b : Bool) (l : List Int) (h : WbOk l) : (wR (l ++ boolB b)).Sat (ACall' Tryz.prog 93 [wP, .y (.bool b)] (wM l)) := by
  refine ctr_vcg (ht := wbH) Tryz.mixed rfl ?_
  rw [vcWb_eq b l]
  unfold vcWb
  have hn := h.n
  have ha := one_le l 1
  have hb := one_le l 0
  cases b
  · simp
    exact ⟨⟨by omega, by omega⟩, by simpa using hb⟩
  · simp
    exact ⟨⟨by omega, by omega⟩, by simpa using ha⟩
noncomputable def wbC (b : Bool) (l : List Int) : Ctr Tryz.prog := ⟨93, [wP, .y (.bool b)], wM l, .need (WbOk l) (wR2 (l ++ boolB b)), T.Sat.need fun h => wR2_of (wb_c b l h)⟩
structure WsOk (s : ByteArray) (l : List Int) : Prop where
  n : l.length + s.size + 40 ≤ 140737488355327
theorem strB_len (s : ByteArray) : (strB s).length = s.size := by simp [strB]
theorem ws_c (s : ByteArray) (l : List Int) (h : WsOk s l) : (wR (l ++ textB (strB s))).Sat (ACall' Tryz.prog 78 [wP, .y (.string s)] (wM l)) := by
  refine ctr_vcg (ht := wsH s.size l) Tryz.mixed rfl ?_
  rw [vcWs_eq s l]
  unfold vcWs
  have hn := h.n
  have hu := uintB_len (s.size : Int)
  have h1 : IntKind.wrap IntKind.u64 (s.size : Int) = s.size := wrap_u64 (by omega) (by omega)
  have h2 : WuOk (s.size : Int) l := ⟨by omega, by omega, by omega⟩
  have e : l ++ textB (strB s) = (l ++ uintB (s.size : Int)) ++ strB s := by unfold textB; rw [strB_len, List.append_assoc]
  rw [e]
  simp only [h1]
  simp [h2, strB_len]
  repeat' with_reducible apply And.intro
  all_goals first | omega | skip
  rw [← List.append_assoc]
  refine appL_le (by simp) (by simp [strB_len]) fun k hk j hj => ?_
  obtain rfl : j = 0 := by omega
  have hk2 : k < s.data.toList.length := by simpa [strB] using hk
  show le0 (.y (.int .u8 ((s.data[k]?.getD 0).toNat : Int))) (.y (.int .u8 ((strB s).getD k default)))
  have : (strB s).getD k default = ((s.data[k]?.getD 0).toNat : Int) := by
    unfold strB
    simp only [List.getD, List.getElem?_map]
    simp at hk2
    simp [hk2]
  rw [this, le0_yy]
  exact veq_refl _
noncomputable def wsC (s : ByteArray) (l : List Int) : Ctr Tryz.prog := ⟨78, [wP, .y (.string s)], wM l, .need (WsOk s l) (wR2 (l ++ textB (strB s))), T.Sat.need fun h => wR2_of (ws_c s l h)⟩
structure WyOk (t l : List Int) : Prop where
  n : l.length + t.length + 40 ≤ 140737488355327
theorem wy_c (f : Bool) (t l : List Int) (h : WyOk t l) : (wR (l ++ textB t)).Sat (ACall' Tryz.prog 79 [wP, encBs f t] (wM l)) := by
  refine ctr_vcg (ht := wyH t.length l) Tryz.mixed rfl ?_
  rw [vcWy_eq f t l]
  unfold vcWy
  have hn := h.n
  have hu := uintB_len (t.length : Int)
  have h1 : IntKind.wrap IntKind.u64 (t.length : Int) = t.length := wrap_u64 (by omega) (by omega)
  have h2 : WuOk (t.length : Int) l := ⟨by omega, by omega, by omega⟩
  have e : l ++ textB t = (l ++ uintB (t.length : Int)) ++ t := by unfold textB; rw [List.append_assoc]
  rw [e]
  simp only [h1]
  simp [h2]
  repeat' with_reducible apply And.intro
  all_goals first | omega | skip
  rw [← List.append_assoc]
  exact appL_le (by simp) (by simp) fun k hk j hj => le0_refl _
noncomputable def wyC (f : Bool) (t l : List Int) : Ctr Tryz.prog := ⟨79, [wP, encBs f t], wM l, .need (WyOk t l) (wR2 (l ++ textB t)), T.Sat.need fun h => wR2_of (wy_c f t l h)⟩
end Go.Proofs.YtnbhdjadlbhknaaGreatDoor.J

namespace Go.Proofs.YtnbhdjadlbhknaaGreatDoor
open Go.Ax
set_option maxRecDepth 1000000
theorem own_c (x : Rec) (o : Int) (h : x.val.length ≤ 140737488355328) : (recR (x.to (IntKind.u64.wrap o))).Sat (ACall' Tryz.prog 157 [.agg (encR x), .y (.int .i64 o)] []) := by
  refine ctr_vc (ht := ownH x) Tryz.mixed rfl ?_
  rw [vcOwn_eq x o]
  unfold vcOwn
  simp [h]
  exact fun _ _ => rfl
noncomputable def ownC (x : Rec) (o : Int) : Ctr Tryz.prog := ⟨157, [.agg (encR x), .y (.int .i64 o)], [], .need (x.val.length ≤ 140737488355328) (recR (x.to (IntKind.u64.wrap o))), T.Sat.need fun h => own_c x o h⟩
theorem chk_c (r : Rng) : (intR (chkK r)).Sat (ACall' Tryz.prog 37 [.agg (encG r)] []) := by
  refine ctr_vc (ht := hT _) Tryz.mixed rfl ?_
  rw [vcChk_eq r]
  unfold vcChk chkK lt
  simp
  grind
noncomputable def chkC (r : Rng) : Ctr Tryz.prog := ⟨37, [.agg (encG r)], [], intR (chkK r), chk_c r⟩
def hasK (r : Rng) (k : ByteArray) : Bool := chkK r == 0 && (decide ((k.size : Int) ≤ 32) && ((lt r.lo k || r.lo.data.toList == k.data.toList) && (r.hi.data.toList == [] || lt k r.hi)))
noncomputable def hasH (r : Rng) : HintsT Tryz.prog := hh _ noLp (cs1 115 1 1 (chkC r) noCs) noOp
def vcHas (r : Rng) (k : ByteArray) : Prop :=
  ((r.lo = r.lo ∧ r.hi = r.hi ∧ True) ∧ True) ∧ True ∧ ((chkK r == (0 : Int)) = true → (decide ((↑(ByteArray.size k) : Int) ≤ (32 : Int)) = true → ((Op.bytesLess r.lo.data.toList k.data.toList || r.lo.data.toList == k.data.toList) = true → ((r.hi.data.toList == []) = true → true = hasK r k ∧ True) ∧ ((r.hi.data.toList == []) = false → Op.bytesLess k.data.toList r.hi.data.toList = hasK r k ∧ True)) ∧ ((Op.bytesLess r.lo.data.toList k.data.toList || r.lo.data.toList == k.data.toList) = false → false = hasK r k ∧ True)) ∧ (decide ((↑(ByteArray.size k) : Int) ≤ (32 : Int)) = false → false = hasK r k ∧ True)) ∧ ((chkK r == (0 : Int)) = false → false = hasK r k ∧ True)
theorem vcHas_eq (r : Rng) (k : ByteArray) : (ctrVC Tryz.prog (hasH r) 115 [.agg (encG r), .y (.string k)] [] (boolR (hasK r k))) = vcHas r k := by kernel_rfl
theorem less_irr : ∀ l : List UInt8, Op.bytesLess l l = false
  | [] => rfl
  | a :: l => by simp [Op.bytesLess, less_irr l]
theorem less_asymm : ∀ (a b : List UInt8), Op.bytesLess a b = true → Op.bytesLess b a = false
  | [], [], h => by simp [Op.bytesLess] at h
  | [], _ :: _, _ => rfl
  | _ :: _, [], h => by simp [Op.bytesLess] at h
  | a :: l, b :: m, h => by
    simp only [Op.bytesLess, Bool.or_eq_true, Bool.and_eq_true, decide_eq_true_eq, beq_iff_eq] at h ⊢
    rcases h with h | ⟨rfl, h⟩
    · have h1 : ¬ b < a := UInt8.not_lt.2 (UInt8.le_of_lt h)
      have h2 : ¬ b = a := fun e => by subst e; exact absurd h (UInt8.lt_irrefl _)
      simp [h1, h2]
    · have := less_asymm l m h
      simp [this]
theorem less_total : ∀ (a b : List UInt8), Op.bytesLess a b = false → Op.bytesLess b a = false → a = b
  | [], [], _, _ => rfl
  | [], _ :: _, h, _ => by simp [Op.bytesLess] at h
  | _ :: _, [], _, h => by simp [Op.bytesLess] at h
  | a :: l, b :: m, h, k => by
    simp only [Op.bytesLess, Bool.or_eq_false_iff, Bool.and_eq_false_iff, decide_eq_false_iff_not, beq_eq_false_iff_ne] at h k
    have e : a = b := UInt8.le_antisymm (UInt8.not_lt.1 k.1) (UInt8.not_lt.1 h.1)
    subst e
    rw [less_total l m (h.2.resolve_left fun q => q rfl) (k.2.resolve_left fun q => q rfl)]
theorem has_c (r : Rng) (k : ByteArray) : (boolR (hasK r k)).Sat (ACall' Tryz.prog 115 [.agg (encG r), .y (.string k)] []) := by
  refine ctr_vc (ht := hasH r) Tryz.mixed rfl ?_
  rw [vcHas_eq r k]
  unfold vcHas
  unfold hasK lt
  generalize (chkK r == 0) = a
  generalize decide ((k.size : Int) ≤ 32) = b
  generalize Op.bytesLess r.lo.data.toList k.data.toList = c
  generalize (r.lo.data.toList == k.data.toList) = d
  generalize (r.hi.data.toList == []) = e
  generalize Op.bytesLess k.data.toList r.hi.data.toList = f
  cases a <;> cases b <;> cases c <;> cases d <;> cases e <;> cases f <;> simp
end Go.Proofs.YtnbhdjadlbhknaaGreatDoor

namespace Go.Proofs.YtnbhdjadlbhknaaGreatDoor
open Go.Ax
set_option maxRecDepth 1000000
def okR (x : Rec) (k : Nat) : Bool := !(x.off != IntKind.u64.wrap k) && (decide (x.key.size ≤ 32) && decide (x.val.length ≤ 256))
def logFrom (l : List Rec) (k : Nat) : Bool := (List.range' k (l.length - k)).all fun j => okR (l.getD j default) j
theorem logFrom_end {l : List Rec} {k : Nat} (h : l.length ≤ k) : logFrom l k = true := by
  unfold logFrom
  rw [show l.length - k = 0 by omega]; rfl
theorem logFrom_step {l : List Rec} {k : Nat} (h : k < l.length) : logFrom l k = (okR (l.getD k default) k && logFrom l (k + 1)) := by
  unfold logFrom
  rw [show l.length - k = (l.length - (k + 1)) + 1 by omega, List.range'_succ]; rfl
def isLog (l : List Rec) : Bool := logFrom l 0 && decide (l.length ≤ 4096)
def lgT (b : Bool) (l : List Rec) (k : Nat) : List AV := mkT 33 [(0, encRs b l), (2, .s (.bool false)), (5, encRs b l), (6, .y (.int .i64 l.length)), (7, .y (.int .i64 k))]
def lgS (b : Bool) (l : List Rec) (r : Bool) : Exit × List AV × List Blk := match r with
  | true => (.exit 0, mkT 33 [(0, encRs b l)], [])
  | false => (.ret, mkT 33 [(2, .s (.bool false))], [])
def lgO (l : List Rec) (k : Nat) : T Bool := .ite (logFrom l k) (.ret true) (.ret false)
def vcLgL (b : Bool) (l : List Rec) (k : Nat) : Prop :=
  (decide ((↑k : Int) < (↑(List.length l) : Int)) = true → (true && decide ((↑k : Int) < (↑(List.length l) : Int))) = true ∧ (((List.getD l (Int.toNat (↑k : Int)) (@default Rec instInhabitedRec)).off != IntKind.wrap IntKind.u64 (↑k : Int)) = true → (logFrom l k = true → False) ∧ (logFrom l k = false → (false = false ∧ True) ∧ True ∧ true = true)) ∧ (((List.getD l (Int.toNat (↑k : Int)) (@default Rec instInhabitedRec)).off != IntKind.wrap IntKind.u64 (↑k : Int)) = false → (decide ((32 : Int) < (↑(ByteArray.size (List.getD l (Int.toNat (↑k : Int)) (@default Rec instInhabitedRec)).key) : Int)) = true → (logFrom l k = true → False) ∧ (logFrom l k = false → (false = false ∧ True) ∧ True ∧ true = true)) ∧ (decide ((32 : Int) < (↑(ByteArray.size (List.getD l (Int.toNat (↑k : Int)) (@default Rec instInhabitedRec)).key) : Int)) = false → (decide ((256 : Int) < (↑(List.length (List.getD l (Int.toNat (↑k : Int)) (@default Rec instInhabitedRec)).val) : Int)) = true → (logFrom l k = true → False) ∧ (logFrom l k = false → (false = false ∧ True) ∧ True ∧ true = true)) ∧ (decide ((256 : Int) < (↑(List.length (List.getD l (Int.toNat (↑k : Int)) (@default Rec instInhabitedRec)).val) : Int)) = false → ∃ (j : Nat), List.length l - j < List.length l - k ∧ (((b = b ∧ List.length l = List.length l ∧ contLe (List.length l) (5 : Nat) (cellsOf' encR l) (cellsOf' encR l)) ∧ false = false ∧ (b = b ∧ List.length l = List.length l ∧ contLe (List.length l) (5 : Nat) (cellsOf' encR l) (cellsOf' encR l)) ∧ (↑(List.length l) : Int) = (↑(List.length l) : Int) ∧ IntKind.wrap IntKind.i64 ((↑k : Int) + (1 : Int)) = (↑j : Int) ∧ True) ∧ True ∧ true = true) ∧ true = true ∧ (logFrom l j = true → (logFrom l k = true → true = true) ∧ (logFrom l k = false → true = false)) ∧ (logFrom l j = false → (logFrom l k = true → false = true) ∧ (logFrom l k = false → false = false)))))) ∧ (decide ((↑k : Int) < (↑(List.length l) : Int)) = false → (logFrom l k = true → ((b = b ∧ List.length l = List.length l ∧ contLe (List.length l) (5 : Nat) (cellsOf' encR l) (cellsOf' encR l)) ∧ True) ∧ True ∧ true = true) ∧ (logFrom l k = false → False))
theorem vcLgL_eq (b : Bool) (l : List Rec) (k : Nat) : (loopVC Tryz.prog (hT _) 44 2 (fun k => l.length - k) (lgT b l) (fun _ => []) [0] (lgO l) (lgS b l) k) = vcLgL b l k := by kernel_rfl
noncomputable def lgH (b : Bool) (l : List Rec) : HintsT Tryz.prog := hh _ (lp1 44 2 (jobOf (lgT b l) (fun _ => []) [0] (lgO l) (lgS b l) 0) noLp) noCs noOp
def vcLg (b : Bool) (l : List Rec) : Prop :=
  (((b = b ∧ List.length l = List.length l ∧ contLe (List.length l) (5 : Nat) (cellsOf' encR l) (cellsOf' encR l)) ∧ false = false ∧ (b = b ∧ List.length l = List.length l ∧ contLe (List.length l) (5 : Nat) (cellsOf' encR l) (cellsOf' encR l)) ∧ (↑(List.length l) : Int) = (↑(List.length l) : Int) ∧ (0 : Int) = (0 : Int) ∧ True) ∧ True ∧ true = true) ∧ LoopOk Tryz.prog (44 : Nat) (2 : Nat) (loopAt Tryz.prog (44 : Nat) (2 : Nat)) { t := lgT b l (0 : Nat), m := [], mv := [] : St } (T.map (lout [(0 : Nat)] (lgS b l)) (lgO l (0 : Nat))) ∧ (logFrom l (0 : Nat) = true → decide ((↑(List.length l) : Int) ≤ (4096 : Int)) = isLog l ∧ True) ∧ (logFrom l (0 : Nat) = false → false = isLog l ∧ True)
theorem vcLg_eq (b : Bool) (l : List Rec) : (ctrVC Tryz.prog (lgH b l) 44 [encRs b l] [] (boolR (isLog l))) = vcLg b l := by kernel_rfl
def below (x y : Rec) : Bool := y.prod == x.prod && decide (y.seq < x.seq)
def lowR (l : List Rec) (x : Rec) : Bool := l.any (below x)
def ixS (r : Bool × Nat) : Exit × List AV × List Blk := match r.1 with
  | true => (.ret, mkT 19 [(4, .y (.int .i64 r.2))], [])
  | false => (.exit 0, mkT 19 [], [])
end Go.Proofs.YtnbhdjadlbhknaaGreatDoor

namespace Go.Proofs.YtnbhdjadlbhknaaGreatDoor
open Go.Ax
set_option maxRecDepth 1000000
theorem lg_loop (b : Bool) (l : List Rec) (hl : l.length ≤ 9223372036854775806) (k : Nat) : LoopOk Tryz.prog 44 2 (loopAt Tryz.prog 44 2) ⟨lgT b l k, [], []⟩ ((lgO l k).map (lout [0] (lgS b l))) := by
  refine loop_vc Tryz.mixed (fun _ => rfl) (fun k => (vcLgL_eq b l k).mpr ?_) k
  unfold vcLgL
  simp
  refine ⟨fun h => ?_, fun h => by simp [logFrom_end h]⟩
  rw [logFrom_step h]
  simp (disch := omega) only [wrap_i64]
  simp [okR, cast_succ_eq]
  generalize l[k]?.getD default = x
  grind
theorem lg_c (b : Bool) (l : List Rec) (hl : l.length ≤ 9223372036854775806) : (boolR (isLog l)).Sat (ACall' Tryz.prog 44 [encRs b l] []) := by
  refine ctr_vc (ht := lgH b l) Tryz.mixed rfl ?_
  rw [vcLg_eq b l]
  unfold vcLg
  have := lg_loop b l hl 0
  simp [this, isLog]
  grind
noncomputable def lgC (b : Bool) (l : List Rec) : Ctr Tryz.prog := ⟨44, [encRs b l], [], .need (l.length ≤ 9223372036854775806) (boolR (isLog l)), T.Sat.need fun h => lg_c b l h⟩
end Go.Proofs.YtnbhdjadlbhknaaGreatDoor

namespace Go.Proofs.YtnbhdjadlbhknaaGreatDoor
open Go.Ax
set_option maxRecDepth 1000000
def hd (l : List Rec) : Rec := l.getD 0 default
structure Jo where
  (a b out : List Rec) (ta tb : List Int)
def Jo.tA (s : Jo) : Bool := !s.a.isEmpty && !lowR s.b (hd s.a)
def Jo.tB (s : Jo) : Bool := !s.b.isEmpty && !lowR s.a (hd s.b)
def Jo.at (s : Jo) : Int := IntKind.u64.wrap (s.out.length : Nat)
def Jo.goA (s : Jo) : Jo := ⟨s.a.tail, s.b, s.out ++ [(hd s.a).to s.at], s.ta ++ [s.at], s.tb⟩
def Jo.goB (s : Jo) : Jo := ⟨s.a, s.b.tail, s.out ++ [(hd s.b).to s.at], s.ta, s.tb ++ [s.at]⟩
def joinN : Nat → Jo → Option Jo
  | 0, s => some s
  | n + 1, s => if s.tA then joinN n s.goA else if s.tB then joinN n s.goB else none
def Jo.run (s : Jo) : Option Jo := joinN (s.a.length + s.b.length) s
inductive JR where
  | ok (s : Jo)
  | bad
structure Jo.Ok (s : Jo) : Prop where
  a : ∀ x ∈ s.a, x.val.length ≤ 256
  b : ∀ x ∈ s.b, x.val.length ≤ 256
  n : s.a.length + s.b.length + s.out.length ≤ 4096
  ta : s.ta.length ≤ s.out.length
  tb : s.tb.length ≤ s.out.length
def kM (s : Jo) : List Blk := [rowR s.out, rowU s.ta, rowU s.tb]
def kT (b1 b2 : Bool) (s : Jo) : List AV := mkT 114 [(0, encRs b1 s.a), (1, encRs b2 s.b), (10, .own 0 5 0 s.out.length), (11, .own 1 1 0 s.ta.length), (12, .own 2 1 0 s.tb.length)]
def kS (b1 b2 : Bool) (r : JR) : Exit × List AV × List Blk := match r with
  | .ok s => (.exit 0, kT b1 b2 s, kM s)
  | .bad => (.ret, mkT 114 [(4, .s (.slice none 0 0)), (5, .s (.slice none 0 0)), (6, .s (.slice none 0 0)), (7, .s (.int .i64 145))], [])
def Jo.end (s : Jo) : Jo := ⟨s.a, s.b, s.out, s.ta ++ [s.at], s.tb ++ [s.at]⟩
end Go.Proofs.YtnbhdjadlbhknaaGreatDoor

namespace Go.Proofs.YtnbhdjadlbhknaaGreatDoor
open Go.Ax
set_option maxRecDepth 1000000
theorem ok_A {s : Jo} (h : s.Ok) (ht : s.tA = true) : s.goA.Ok := by
  have ha : s.a ≠ [] := by unfold Jo.tA at ht; intro e; rw [e] at ht; simp at ht
  obtain ⟨x, r, hx⟩ := List.exists_cons_of_ne_nil ha
  have h1 := h.n
  have h2 := h.ta
  have h3 := h.tb
  refine ⟨fun y hy => h.a y (List.mem_of_mem_tail hy), h.b, ?_, ?_, ?_⟩ <;> simp [Jo.goA, hx] at * <;> omega
theorem ok_B {s : Jo} (h : s.Ok) (ht : s.tB = true) : s.goB.Ok := by
  have ha : s.b ≠ [] := by unfold Jo.tB at ht; intro e; rw [e] at ht; simp at ht
  obtain ⟨x, r, hx⟩ := List.exists_cons_of_ne_nil ha
  have h1 := h.n
  have h2 := h.ta
  have h3 := h.tb
  refine ⟨h.a, fun y hy => h.b y (List.mem_of_mem_tail hy), ?_, ?_, ?_⟩ <;> simp [Jo.goB, hx] at * <;> omega
end Go.Proofs.YtnbhdjadlbhknaaGreatDoor

namespace Go.Proofs.YtnbhdjadlbhknaaGreatDoor
open Go.Ax
set_option maxRecDepth 1000000
theorem run_ok : ∀ (n : Nat) (s r : Jo), s.Ok → joinN n s = some r → s.a.length + s.b.length ≤ n → r.Ok ∧ r.out.length = s.out.length + (s.a.length + s.b.length) ∧ r.a = [] ∧ r.b = []
  | 0, s, r, hs, h, hn => by
    simp only [joinN] at h
    cases h
    have ha : s.a = [] := List.length_eq_zero_iff.1 (by omega)
    have hb : s.b = [] := List.length_eq_zero_iff.1 (by omega)
    exact ⟨hs, by simp [ha, hb], ha, hb⟩
  | n + 1, s, r, hs, h, hn => by
    simp only [joinN] at h
    split at h
    · rename_i hA
      have hne : s.a ≠ [] := by unfold Jo.tA at hA; intro e; rw [e] at hA; simp at hA
      obtain ⟨x, q, hx⟩ := List.exists_cons_of_ne_nil hne
      obtain ⟨h1, h2, h3⟩ := run_ok n _ r (ok_A hs hA) h (by simp [Jo.goA, hx] at hn ⊢; omega)
      refine ⟨h1, ?_, h3⟩
      rw [h2]
      simp [Jo.goA, hx]; omega
    · split at h
      · rename_i hB
        have hne : s.b ≠ [] := by unfold Jo.tB at hB; intro e; rw [e] at hB; simp at hB
        obtain ⟨x, q, hx⟩ := List.exists_cons_of_ne_nil hne
        obtain ⟨h1, h2, h3⟩ := run_ok n _ r (ok_B hs hB) h (by simp [Jo.goB, hx] at hn ⊢; omega)
        refine ⟨h1, ?_, h3⟩
        rw [h2]
        simp [Jo.goB, hx]; omega
      · cases h
end Go.Proofs.YtnbhdjadlbhknaaGreatDoor

namespace Go.Proofs
open Go.Shelf
def Tryz.lays160_ren : Go.Shelf.Ren := ⟨fun | 160 => 133 | 232 => 151 | 231 => 150 | 227 => 152 | 234 => 154 | 233 => 153 | 236 => 156 | 235 => 155 | 228 => 161 | 271 => 164 | 151 => 163 | 197 => 162 | 120 => 171 | 152 => 170 | 260 => 169 | 137 => 181 | 119 => 182 | 224 => 183 | 225 => 184 | 217 => 189 | 266 => 192 | n => n, fun | 9 => 9 | 4 => 4 | 3 => 3 | 5 => 5 | 117 => 215 | 116 => 214 | 0 => 0 | 124 => 218 | 21 => 21 | 105 => 226 | 46 => 165 | 119 => 240 | 139 => 243 | 138 => 242 | n => n, fun | 3 => 1 | 4 => 2 | n => n⟩
theorem Tryz.lays160 : Go.Proofs.Lays.n160 Tryz.prog Tryz.lays160_ren := {
  mixed := by kernel_rfl
  f119 := Tryz.func182.trans (congrArg some (by kernel_rfl))
  f120 := Tryz.func171.trans (congrArg some (by kernel_rfl))
  f137 := Tryz.func181.trans (congrArg some (by kernel_rfl))
  f151 := Tryz.func163.trans (congrArg some (by kernel_rfl))
  f152 := Tryz.func170.trans (congrArg some (by kernel_rfl))
  f160 := Tryz.func133.trans (congrArg some (by kernel_rfl))
  f197 := Tryz.func162.trans (congrArg some (by kernel_rfl))
  f217 := Tryz.func189.trans (congrArg some (by kernel_rfl))
  f224 := Tryz.func183.trans (congrArg some (by kernel_rfl))
  f225 := Tryz.func184.trans (congrArg some (by kernel_rfl))
  f227 := Tryz.func152.trans (congrArg some (by kernel_rfl))
  f228 := Tryz.func161.trans (congrArg some (by kernel_rfl))
  f231 := Tryz.func150.trans (congrArg some (by kernel_rfl))
  f232 := Tryz.func151.trans (congrArg some (by kernel_rfl))
  f233 := Tryz.func153.trans (congrArg some (by kernel_rfl))
  f234 := Tryz.func154.trans (congrArg some (by kernel_rfl))
  f235 := Tryz.func155.trans (congrArg some (by kernel_rfl))
  f236 := Tryz.func156.trans (congrArg some (by kernel_rfl))
  f260 := Tryz.func169.trans (congrArg some (by kernel_rfl))
  f266 := Tryz.func192.trans (congrArg some (by kernel_rfl))
  f271 := Tryz.func164.trans (congrArg some (by kernel_rfl))
  t0 := Tryz.underlying0
  a0 := Tryz.isAgg0
  z0 := Tryz.sizeOf0
  v0 := Tryz.zeroValue0
  t3 := Tryz.underlying3
  a3 := Tryz.isAgg3
  z3 := Tryz.sizeOf3
  v3 := Tryz.zeroValue3
  t4 := Tryz.underlying4
  a4 := Tryz.isAgg4
  z4 := Tryz.sizeOf4
  v4 := Tryz.zeroValue4
  t5 := Tryz.underlying5
  a5 := Tryz.isAgg5
  z5 := Tryz.sizeOf5
  v5 := Tryz.zeroValue5
  t9 := Tryz.underlying9
  a9 := Tryz.isAgg9
  z9 := Tryz.sizeOf9
  v9 := Tryz.zeroValue9
  t21 := Tryz.underlying21
  a21 := Tryz.isAgg21
  z21 := Tryz.sizeOf21
  v21 := Tryz.zeroValue21
  t46 := Tryz.underlying165
  a46 := Tryz.isAgg165
  z46 := Tryz.sizeOf165
  v46 := Tryz.zeroValue165
  t105 := Tryz.underlying226
  a105 := Tryz.isAgg226
  z105 := Tryz.sizeOf226
  v105 := Tryz.zeroValue226
  t116 := Tryz.underlying214
  a116 := Tryz.isAgg214
  z116 := Tryz.sizeOf214
  t117 := Tryz.underlying215
  a117 := Tryz.isAgg215
  z117 := Tryz.sizeOf215
  v117 := Tryz.zeroValue215
  t119 := Tryz.underlying240
  a119 := Tryz.isAgg240
  z119 := Tryz.sizeOf240
  t124 := Tryz.underlying218
  a124 := Tryz.isAgg218
  z124 := Tryz.sizeOf218
  v124 := Tryz.zeroValue218
  t138 := Tryz.underlying242
  a138 := Tryz.isAgg242
  z138 := Tryz.sizeOf242
  v138 := Tryz.zeroValue242
  t139 := Tryz.underlying243
  a139 := Tryz.isAgg243
  z139 := Tryz.sizeOf243
  v139 := Tryz.zeroValue243
  g3 := by kernel_rfl
  g4 := by kernel_rfl }
end Go.Proofs
namespace Go.Proofs.YtnbhdjadlbhknaaGreatDoor
open Go.Ax
set_option maxRecDepth 1000000
def chars : List UInt8 := [97, 98, 99, 100, 101, 102, 103, 104, 105, 106, 107, 108, 109, 110, 111, 112, 113, 114, 115, 116, 117, 118, 119, 120, 121, 122, 48, 49, 50, 51, 52, 53, 54, 55, 56, 57, 45, 95, 46]
def isCh (b : UInt8) : Bool := chars.contains b
def nameOk (s : ByteArray) : Bool := !(s.data.toList == []) && (decide ((s.size : Int) ≤ 32) && s.data.toList.all isCh)
theorem drop_all {l : List UInt8} {p : UInt8 → Bool} : (l.dropWhile p == []) = l.all p := by
  induction l with
  | nil => rfl
  | cons a l ih =>
    rw [List.dropWhile_cons, List.all_cons]
    cases h : p a
    · simp
    · simpa using ih
theorem trim_all (l : List UInt8) : (Lib.trimS l chars == []) = l.all isCh := by
  unfold Lib.trimS Lib.trimLeftS Lib.trimRightS
  rw [drop_all]
  cases h : l.all isCh
  · rw [Bool.eq_false_iff]
    intro h2
    have h3 : ∀ m : List UInt8, (m.dropWhile isCh).all isCh = true → m.all isCh = true := by
      intro m
      induction m with
      | nil => exact fun _ => rfl
      | cons a m ih =>
        rw [List.dropWhile_cons]
        cases ha : isCh a
        · intro h; simp at h; simp [ha] at h
        · intro h; simp only [List.all_cons, ha, Bool.true_and]; exact ih h
    have h4 : (l.reverse.dropWhile isCh).all isCh = true := by
      rw [← List.all_reverse]; exact h2
    have h5 := h3 _ h4
    rw [List.all_reverse] at h5
    rw [h5] at h; cases h
  · rw [List.all_reverse]
    have : l.reverse.dropWhile isCh = [] := by
      have := drop_all (l := l.reverse) (p := isCh)
      rw [List.all_reverse, h] at this
      simpa using this
    have e : l.reverse.dropWhile (fun x => chars.contains x) = [] := this
    rw [e]; rfl
def trimR (s : ByteArray) : T An := .ret (.y (.string ⟨(Lib.trimS s.data.toList chars).toArray⟩), [], [])
theorem trim_c (s : ByteArray) (hs : s.size ≤ 9223372036854775807) : (trimR s).Sat (ACall' Tryz.prog 133 [.y (.string s), .s (.string ⟨chars.toArray⟩)] []) := by
  refine call_below fun w vals hv => ?_
  obtain ⟨H, E, v, l1, e1, hv1, v2, l2, e2, hv2, e3⟩ := hv
  have e3 : l2 = [] := e3
  subst e3
  subst e2
  obtain rfl := hv1.1
  obtain rfl := hv2.1
  have hvals : vals = #[.string s, .string ⟨chars.toArray⟩] := Array.ext' e1
  subst hvals
  refine (Any.strings_Trim_laid Tryz.lays160 (by kernel_rfl) s ⟨chars.toArray⟩ w hs (by decide) (Go.Proofs.ascii_of_all (by decide))).mono ?_
  rintro e w' ⟨rfl, hb⟩
  exact ⟨_, rfl, fun _ _ => ⟨rfl, rfl⟩, hb⟩
noncomputable def trimC (s : ByteArray) : Ctr Tryz.prog := ⟨133, [.y (.string s), .s (.string ⟨chars.toArray⟩)], [], .need (s.size ≤ 9223372036854775807) (trimR s), T.Sat.need fun h => trim_c s h⟩
noncomputable def nameH (s : ByteArray) : HintsT Tryz.prog := hh _ noLp (cs1 99 1 9 (trimC s) noCs) noOp
def vcName (s : ByteArray) : Prop :=
  ((!s.data.toList == []) = true → (decide ((↑(ByteArray.size s) : Int) ≤ (32 : Int)) = true → (s = s ∧ { data := #[(97 : UInt8), (98 : UInt8), (99 : UInt8), (100 : UInt8), (101 : UInt8), (102 : UInt8), (103 : UInt8), (104 : UInt8), (105 : UInt8), (106 : UInt8), (107 : UInt8), (108 : UInt8), (109 : UInt8), (110 : UInt8), (111 : UInt8), (112 : UInt8), (113 : UInt8), (114 : UInt8), (115 : UInt8), (116 : UInt8), (117 : UInt8), (118 : UInt8), (119 : UInt8), (120 : UInt8), (121 : UInt8), (122 : UInt8), (48 : UInt8), (49 : UInt8), (50 : UInt8), (51 : UInt8), (52 : UInt8), (53 : UInt8), (54 : UInt8), (55 : UInt8), (56 : UInt8), (57 : UInt8), (45 : UInt8), (95 : UInt8), (46 : UInt8)] : ByteArray } = { data := #[(97 : UInt8), (98 : UInt8), (99 : UInt8), (100 : UInt8), (101 : UInt8), (102 : UInt8), (103 : UInt8), (104 : UInt8), (105 : UInt8), (106 : UInt8), (107 : UInt8), (108 : UInt8), (109 : UInt8), (110 : UInt8), (111 : UInt8), (112 : UInt8), (113 : UInt8), (114 : UInt8), (115 : UInt8), (116 : UInt8), (117 : UInt8), (118 : UInt8), (119 : UInt8), (120 : UInt8), (121 : UInt8), (122 : UInt8), (48 : UInt8), (49 : UInt8), (50 : UInt8), (51 : UInt8), (52 : UInt8), (53 : UInt8), (54 : UInt8), (55 : UInt8), (56 : UInt8), (57 : UInt8), (45 : UInt8), (95 : UInt8), (46 : UInt8)] : ByteArray } ∧ True) ∧ True ∧ ByteArray.size s ≤ (9223372036854775807 : Nat) ∧ (Lib.trimS s.data.toList [(97 : UInt8), (98 : UInt8), (99 : UInt8), (100 : UInt8), (101 : UInt8), (102 : UInt8), (103 : UInt8), (104 : UInt8), (105 : UInt8), (106 : UInt8), (107 : UInt8), (108 : UInt8), (109 : UInt8), (110 : UInt8), (111 : UInt8), (112 : UInt8), (113 : UInt8), (114 : UInt8), (115 : UInt8), (116 : UInt8), (117 : UInt8), (118 : UInt8), (119 : UInt8), (120 : UInt8), (121 : UInt8), (122 : UInt8), (48 : UInt8), (49 : UInt8), (50 : UInt8), (51 : UInt8), (52 : UInt8), (53 : UInt8), (54 : UInt8), (55 : UInt8), (56 : UInt8), (57 : UInt8), (45 : UInt8), (95 : UInt8), (46 : UInt8)] == []) = nameOk s ∧ True) ∧ (decide ((↑(ByteArray.size s) : Int) ≤ (32 : Int)) = false → false = nameOk s ∧ True)) ∧ ((!s.data.toList == []) = false → false = nameOk s ∧ True)
theorem vcName_eq (s : ByteArray) : (ctrVC Tryz.prog (nameH s) 99 [.y (.string s)] [] (boolR (nameOk s))) = vcName s := by kernel_rfl
end Go.Proofs.YtnbhdjadlbhknaaGreatDoor

namespace Go.Proofs.YtnbhdjadlbhknaaGreatDoor
open Go.Ax
set_option maxRecDepth 1000000
theorem name_c (s : ByteArray) : (boolR (nameOk s)).Sat (ACall' Tryz.prog 99 [.y (.string s)] []) := by
  refine ctr_vc (ht := nameH s) Tryz.mixed rfl ?_
  rw [vcName_eq s]
  unfold vcName
  have e := trim_all s.data.toList
  unfold chars at e
  simp only [e, nameOk]
  generalize (s.data.toList == []) = a
  generalize hb : decide ((s.size : Int) ≤ 32) = b
  generalize s.data.toList.all isCh = c
  cases a <;> cases b <;> cases c <;> simp at hb ⊢ <;> omega
noncomputable def nameC (s : ByteArray) : Ctr Tryz.prog := ⟨99, [.y (.string s)], [], boolR (nameOk s), name_c s⟩
end Go.Proofs.YtnbhdjadlbhknaaGreatDoor

namespace Go.Proofs.YtnbhdjadlbhknaaGreatDoor
open Go.Ax
set_option maxRecDepth 1000000
def smT (b1 b2 : Bool) (a : List Rec) (k : Nat) : List AV := mkT 82 [(0, encRs b1 a), (1, encRs b2 a), (5, .y (.int .i64 k))]
def smS (_ : Unit) : Exit × List AV × List Blk := (.exit 0, mkT 82 [], [])
def vcSameL (b1 : Bool) (b2 : Bool) (a : List Rec) (k : Nat) : Prop :=
  (decide ((↑k : Int) < (↑(List.length a) : Int)) = true → (true && decide ((↑k : Int) < (↑(List.length a) : Int))) = true ∧ (true && decide ((↑k : Int) < (↑(List.length a) : Int))) = true ∧ (((List.getD a (Int.toNat (↑k : Int)) (@default Rec instInhabitedRec)).off != (List.getD a (Int.toNat (↑k : Int)) (@default Rec instInhabitedRec)).off) = true → False) ∧ (((List.getD a (Int.toNat (↑k : Int)) (@default Rec instInhabitedRec)).off != (List.getD a (Int.toNat (↑k : Int)) (@default Rec instInhabitedRec)).off) = false → (true && decide ((↑k : Int) < (↑(List.length a) : Int))) = true ∧ (true && decide ((↑k : Int) < (↑(List.length a) : Int))) = true ∧ ((!(List.getD a (Int.toNat (↑k : Int)) (@default Rec instInhabitedRec)).key.data.toList == (List.getD a (Int.toNat (↑k : Int)) (@default Rec instInhabitedRec)).key.data.toList) = true → False) ∧ ((!(List.getD a (Int.toNat (↑k : Int)) (@default Rec instInhabitedRec)).key.data.toList == (List.getD a (Int.toNat (↑k : Int)) (@default Rec instInhabitedRec)).key.data.toList) = false → (true && decide ((↑k : Int) < (↑(List.length a) : Int))) = true ∧ (∀ (k_1 : Nat), k_1 < List.length (List.getD a (Int.toNat (↑k : Int)) (@default Rec instInhabitedRec)).val → true = true) ∧ (true && decide ((↑k : Int) < (↑(List.length a) : Int))) = true ∧ (∀ (k_1 : Nat), k_1 < List.length (List.getD a (Int.toNat (↑k : Int)) (@default Rec instInhabitedRec)).val → true = true) ∧ ((!List.map (fun (a : AV) => match match a with | AV.s (Value.int IntKind.u8 n) => some n | AV.y (Value.int IntKind.u8 n) => some n | x => none with | some n => UInt8.ofNat (Int.toNat n) | none => (0 : UInt8)) (List.map (fun (k_1 : Nat) => AV.y (Value.int IntKind.u8 (List.getD (List.getD a (Int.toNat (↑k : Int)) (@default Rec instInhabitedRec)).val k_1 (0 : Int)))) (List.range (List.length (List.getD a (Int.toNat (↑k : Int)) (@default Rec instInhabitedRec)).val))) == List.map (fun (a : AV) => match match a with | AV.s (Value.int IntKind.u8 n) => some n | AV.y (Value.int IntKind.u8 n) => some n | x => none with | some n => UInt8.ofNat (Int.toNat n) | none => (0 : UInt8)) (List.map (fun (k_1 : Nat) => AV.y (Value.int IntKind.u8 (List.getD (List.getD a (Int.toNat (↑k : Int)) (@default Rec instInhabitedRec)).val k_1 (0 : Int)))) (List.range (List.length (List.getD a (Int.toNat (↑k : Int)) (@default Rec instInhabitedRec)).val)))) = true → False) ∧ ((!List.map (fun (a : AV) => match match a with | AV.s (Value.int IntKind.u8 n) => some n | AV.y (Value.int IntKind.u8 n) => some n | x => none with | some n => UInt8.ofNat (Int.toNat n) | none => (0 : UInt8)) (List.map (fun (k_1 : Nat) => AV.y (Value.int IntKind.u8 (List.getD (List.getD a (Int.toNat (↑k : Int)) (@default Rec instInhabitedRec)).val k_1 (0 : Int)))) (List.range (List.length (List.getD a (Int.toNat (↑k : Int)) (@default Rec instInhabitedRec)).val))) == List.map (fun (a : AV) => match match a with | AV.s (Value.int IntKind.u8 n) => some n | AV.y (Value.int IntKind.u8 n) => some n | x => none with | some n => UInt8.ofNat (Int.toNat n) | none => (0 : UInt8)) (List.map (fun (k_1 : Nat) => AV.y (Value.int IntKind.u8 (List.getD (List.getD a (Int.toNat (↑k : Int)) (@default Rec instInhabitedRec)).val k_1 (0 : Int)))) (List.range (List.length (List.getD a (Int.toNat (↑k : Int)) (@default Rec instInhabitedRec)).val)))) = false → (true && decide ((↑k : Int) < (↑(List.length a) : Int))) = true ∧ (true && decide ((↑k : Int) < (↑(List.length a) : Int))) = true ∧ (((List.getD a (Int.toNat (↑k : Int)) (@default Rec instInhabitedRec)).prod != (List.getD a (Int.toNat (↑k : Int)) (@default Rec instInhabitedRec)).prod) = true → False) ∧ (((List.getD a (Int.toNat (↑k : Int)) (@default Rec instInhabitedRec)).prod != (List.getD a (Int.toNat (↑k : Int)) (@default Rec instInhabitedRec)).prod) = false → (true && decide ((↑k : Int) < (↑(List.length a) : Int))) = true ∧ (true && decide ((↑k : Int) < (↑(List.length a) : Int))) = true ∧ (((List.getD a (Int.toNat (↑k : Int)) (@default Rec instInhabitedRec)).seq != (List.getD a (Int.toNat (↑k : Int)) (@default Rec instInhabitedRec)).seq) = true → False) ∧ (((List.getD a (Int.toNat (↑k : Int)) (@default Rec instInhabitedRec)).seq != (List.getD a (Int.toNat (↑k : Int)) (@default Rec instInhabitedRec)).seq) = false → ∃ (j : Nat), List.length a - j < List.length a - k ∧ (((b1 = b1 ∧ List.length a = List.length a ∧ contLe (List.length a) (5 : Nat) (cellsOf' encR a) (cellsOf' encR a)) ∧ (b2 = b2 ∧ List.length a = List.length a ∧ contLe (List.length a) (5 : Nat) (cellsOf' encR a) (cellsOf' encR a)) ∧ IntKind.wrap IntKind.i64 ((↑k : Int) + (1 : Int)) = (↑j : Int) ∧ True) ∧ True ∧ true = true) ∧ true = true ∧ () = ())))))) ∧ (decide ((↑k : Int) < (↑(List.length a) : Int)) = false → True ∧ True ∧ true = true)
theorem vcSameL_eq (b1 : Bool) (b2 : Bool) (a : List Rec) (k : Nat) : (loopVC Tryz.prog (hT _) 73 4 (fun k => a.length - k) (smT b1 b2 a) (fun _ => []) [0] (fun _ => .ret ()) smS k) = vcSameL b1 b2 a k := by kernel_rfl
noncomputable def smH (b1 b2 : Bool) (a : List Rec) : HintsT Tryz.prog := hh _ (lp1 73 4 (jobOf (smT b1 b2 a) (fun _ => []) [0] (fun _ => .ret ()) smS 0) noLp) noCs noOp
def vcSame (b1 : Bool) (b2 : Bool) (a : List Rec) : Prop :=
  (((↑(List.length a) : Int) != (↑(List.length a) : Int)) = true → false = true ∧ True) ∧ (((↑(List.length a) : Int) != (↑(List.length a) : Int)) = false → (((b1 = b1 ∧ List.length a = List.length a ∧ contLe (List.length a) (5 : Nat) (cellsOf' encR a) (cellsOf' encR a)) ∧ (b2 = b2 ∧ List.length a = List.length a ∧ contLe (List.length a) (5 : Nat) (cellsOf' encR a) (cellsOf' encR a)) ∧ (0 : Int) = (0 : Int) ∧ True) ∧ True ∧ true = true) ∧ LoopOk Tryz.prog (73 : Nat) (4 : Nat) (loopAt Tryz.prog (73 : Nat) (4 : Nat)) { t := smT b1 b2 a (0 : Nat), m := [], mv := [] : St } (T.map (lout [(0 : Nat)] smS) ((fun (x : Nat) => T.ret ()) (0 : Nat))) ∧ true = true ∧ True)
theorem vcSame_eq (b1 : Bool) (b2 : Bool) (a : List Rec) : (ctrVC Tryz.prog (smH b1 b2 a) 73 [encRs b1 a, encRs b2 a] [] (boolR true)) = vcSame b1 b2 a := by kernel_rfl
def stT (b1 b2 : Bool) (a : List Int) (k : Nat) : List AV := mkT 26 [(0, encUs b1 a), (1, encUs b2 a), (5, .y (.int .i64 k))]
theorem same_loop (b1 b2 : Bool) (a : List Rec) (hl : a.length ≤ 9223372036854775806) (k : Nat) : LoopOk Tryz.prog 73 4 (loopAt Tryz.prog 73 4) ⟨smT b1 b2 a k, [], []⟩ (T.map (lout [0] smS) (.ret ())) := by
  refine loop_vc (o := fun _ => .ret ()) Tryz.mixed (fun _ => rfl) (fun k => (vcSameL_eq b1 b2 a k).mpr ?_) k
  unfold vcSameL
  simp
  intro h
  have hb : ∀ q : Nat, isU8 (cellsOf' encB (a[k]?.getD default).val q 0) = true := fun _ => rfl
  simp [h, hb]
  exact ⟨k + 1, by omega, by rw [wrap_i64 (by omega) (by omega)]; omega⟩
theorem same_c (b1 b2 : Bool) (a : List Rec) (hl : a.length ≤ 9223372036854775806) : (boolR true).Sat (ACall' Tryz.prog 73 [encRs b1 a, encRs b2 a] []) := by
  refine ctr_vc (ht := smH b1 b2 a) Tryz.mixed rfl ?_
  rw [vcSame_eq b1 b2 a]
  unfold vcSame
  simp [same_loop b1 b2 a hl 0]
noncomputable def sameC (b1 b2 : Bool) (a b : List Rec) : Ctr Tryz.prog := ⟨73, [encRs b1 a, encRs b2 b], [], .need (a.length ≤ 9223372036854775806 ∧ a = b) (boolR true), T.Sat.need fun h => by obtain ⟨h1, rfl⟩ := h; exact same_c b1 b2 a h1⟩
def kB : ByteArray := ⟨#[107]⟩
end Go.Proofs.YtnbhdjadlbhknaaGreatDoor

namespace Go.Proofs.YtnbhdjadlbhknaaGreatDoor
open Go.Ax
set_option maxRecDepth 1000000
theorem tagR (x : Rec) (j : Nat) (hj : j < 5) : tagT (Ax.get (encR x) j) = true := by
  match j, hj with
  | 0, _ => rfl
  | 1, _ => rfl
  | 2, _ => rfl
  | 3, _ => rfl
  | 4, _ => rfl
end Go.Proofs.YtnbhdjadlbhknaaGreatDoor

namespace Go.Proofs.YtnbhdjadlbhknaaGreatDoor
open Go.Ax
set_option maxRecDepth 1000000
noncomputable def hasC (r : Rng) (k : ByteArray) : Ctr Tryz.prog := ⟨115, [.agg (encG r), .y (.string k)], [], boolR (hasK r k), has_c r k⟩
structure Ke where
  (out : List Rec) (to : List Int)
def Ke.step (r : Rng) (s : Ke) (x : Rec) : Ke := ⟨if hasK r x.key then s.out ++ [x.to (IntKind.u64.wrap (s.out.length : Nat))] else s.out, s.to ++ [IntKind.u64.wrap (s.out.length : Nat)]⟩
def Ke.end (s : Ke) : Ke := ⟨s.out, s.to ++ [IntKind.u64.wrap (s.out.length : Nat)]⟩
end Go.Proofs.YtnbhdjadlbhknaaGreatDoor

namespace Go.Proofs.YtnbhdjadlbhknaaGreatDoor
open Go.Ax
set_option maxRecDepth 1000000
theorem log_val {l : List Rec} (h : isLog l = true) {k : Nat} (hk : k < l.length) : (l.getD k default).val.length ≤ 256 := by
  simp only [isLog, Bool.and_eq_true] at h
  have h1 := h.1
  unfold logFrom at h1
  rw [List.all_eq_true] at h1
  have h2 := h1 k (by simp; omega)
  simp only [okR, Bool.and_eq_true, decide_eq_true_eq] at h2
  exact h2.2.2
theorem log_len {l : List Rec} (h : isLog l = true) : l.length ≤ 4096 := by
  simp only [isLog, Bool.and_eq_true, decide_eq_true_eq] at h
  exact h.2
end Go.Proofs.YtnbhdjadlbhknaaGreatDoor

namespace Go.Proofs.YtnbhdjadlbhknaaGreatDoor
open Go.Ax
set_option maxRecDepth 1000000
theorem take_one {l : List Rec} {k : Nat} (h : k < l.length) : l.take (k + 1) = l.take k ++ [l.getD k default] := by
  rw [List.take_add_one, List.getElem?_eq_getElem h]
  simp [List.getElem?_eq_getElem h]
end Go.Proofs.YtnbhdjadlbhknaaGreatDoor

namespace Go.Proofs.YtnbhdjadlbhknaaGreatDoor
open Go.Ax
set_option maxRecDepth 1000000
def coOk (l : List Con) (k : Nat) : Bool := nameOk (l.getD k default).name && !(decide (0 < k) && !lt (l.getD (k - 1) default).name (l.getD k default).name)
def coFrom (l : List Con) (k : Nat) : Bool := (List.range' k (l.length - k)).all fun j => coOk l j
theorem coFrom_end {l : List Con} {k : Nat} (h : l.length ≤ k) : coFrom l k = true := by
  unfold coFrom
  rw [show l.length - k = 0 by omega]; rfl
theorem coFrom_step {l : List Con} {k : Nat} (h : k < l.length) : coFrom l k = (coOk l k && coFrom l (k + 1)) := by
  unfold coFrom
  rw [show l.length - k = (l.length - (k + 1)) + 1 by omega, List.range'_succ]; rfl
def isCons (l : List Con) : Bool := coFrom l 0 && decide (l.length ≤ 64)
def coT (b : Bool) (l : List Con) (k : Nat) : List AV := mkT 35 [(0, encCs b l), (2, .s (.bool false)), (5, encCs b l), (6, .y (.int .i64 l.length)), (7, .y (.int .i64 k))]
def coS (b : Bool) (l : List Con) (r : Bool) : Exit × List AV × List Blk := match r with
  | true => (.exit 0, mkT 35 [(0, encCs b l)], [])
  | false => (.ret, mkT 35 [(2, .s (.bool false))], [])
def coO (l : List Con) (k : Nat) : T Bool := .ite (coFrom l k) (.ret true) (.ret false)
noncomputable def coHL (l : List Con) (k : Nat) : HintsT Tryz.prog := hh _ noLp (cs1 46 4 2 (nameC (l.getD k default).name) noCs) noOp
def vcCoL (b : Bool) (l : List Con) (k : Nat) : Prop :=
  (decide ((↑k : Int) < (↑(List.length l) : Int)) = true → (true && decide ((↑k : Int) < (↑(List.length l) : Int))) = true ∧ ((List.getD l (Int.toNat (↑k : Int)) (@default Con instInhabitedCon)).name = (List.getD l k (@default Con instInhabitedCon)).name ∧ True) ∧ True ∧ ((!nameOk (List.getD l k (@default Con instInhabitedCon)).name) = true → (coFrom l k = true → False) ∧ (coFrom l k = false → (false = false ∧ True) ∧ True ∧ true = true)) ∧ ((!nameOk (List.getD l k (@default Con instInhabitedCon)).name) = false → (decide ((0 : Int) < (↑k : Int)) = true → (decide ((0 : Int) ≤ IntKind.wrap IntKind.i64 ((↑k : Int) - (1 : Int))) && decide (IntKind.wrap IntKind.i64 ((↑k : Int) - (1 : Int)) < (↑(List.length l) : Int))) = true ∧ ((!Op.bytesLess (List.getD l (Int.toNat (IntKind.wrap IntKind.i64 ((↑k : Int) - (1 : Int)))) (@default Con instInhabitedCon)).name.data.toList (List.getD l (Int.toNat (↑k : Int)) (@default Con instInhabitedCon)).name.data.toList) = true → (coFrom l k = true → False) ∧ (coFrom l k = false → (false = false ∧ True) ∧ True ∧ true = true)) ∧ ((!Op.bytesLess (List.getD l (Int.toNat (IntKind.wrap IntKind.i64 ((↑k : Int) - (1 : Int)))) (@default Con instInhabitedCon)).name.data.toList (List.getD l (Int.toNat (↑k : Int)) (@default Con instInhabitedCon)).name.data.toList) = false → ∃ (j : Nat), List.length l - j < List.length l - k ∧ (((b = b ∧ List.length l = List.length l ∧ contLe (List.length l) (2 : Nat) (cellsOf' encC l) (cellsOf' encC l)) ∧ false = false ∧ (b = b ∧ List.length l = List.length l ∧ contLe (List.length l) (2 : Nat) (cellsOf' encC l) (cellsOf' encC l)) ∧ (↑(List.length l) : Int) = (↑(List.length l) : Int) ∧ IntKind.wrap IntKind.i64 ((↑k : Int) + (1 : Int)) = (↑j : Int) ∧ True) ∧ True ∧ true = true) ∧ true = true ∧ (coFrom l j = true → (coFrom l k = true → true = true) ∧ (coFrom l k = false → true = false)) ∧ (coFrom l j = false → (coFrom l k = true → false = true) ∧ (coFrom l k = false → false = false)))) ∧ (decide ((0 : Int) < (↑k : Int)) = false → ∃ (j : Nat), List.length l - j < List.length l - k ∧ (((b = b ∧ List.length l = List.length l ∧ contLe (List.length l) (2 : Nat) (cellsOf' encC l) (cellsOf' encC l)) ∧ false = false ∧ (b = b ∧ List.length l = List.length l ∧ contLe (List.length l) (2 : Nat) (cellsOf' encC l) (cellsOf' encC l)) ∧ (↑(List.length l) : Int) = (↑(List.length l) : Int) ∧ IntKind.wrap IntKind.i64 ((↑k : Int) + (1 : Int)) = (↑j : Int) ∧ True) ∧ True ∧ true = true) ∧ true = true ∧ (coFrom l j = true → (coFrom l k = true → true = true) ∧ (coFrom l k = false → true = false)) ∧ (coFrom l j = false → (coFrom l k = true → false = true) ∧ (coFrom l k = false → false = false))))) ∧ (decide ((↑k : Int) < (↑(List.length l) : Int)) = false → (coFrom l k = true → ((b = b ∧ List.length l = List.length l ∧ contLe (List.length l) (2 : Nat) (cellsOf' encC l) (cellsOf' encC l)) ∧ True) ∧ True ∧ true = true) ∧ (coFrom l k = false → False))
theorem vcCoL_eq (b : Bool) (l : List Con) (k : Nat) : (loopVC Tryz.prog (coHL l k) 46 2 (fun k => l.length - k) (coT b l) (fun _ => []) [0] (coO l) (coS b l) k) = vcCoL b l k := by kernel_rfl
noncomputable def coH (b : Bool) (l : List Con) : HintsT Tryz.prog := hh _ (lp1 46 2 (jobOf (coT b l) (fun _ => []) [0] (coO l) (coS b l) 0) noLp) noCs noOp
def vcCo (b : Bool) (l : List Con) : Prop :=
  (((b = b ∧ List.length l = List.length l ∧ contLe (List.length l) (2 : Nat) (cellsOf' encC l) (cellsOf' encC l)) ∧ false = false ∧ (b = b ∧ List.length l = List.length l ∧ contLe (List.length l) (2 : Nat) (cellsOf' encC l) (cellsOf' encC l)) ∧ (↑(List.length l) : Int) = (↑(List.length l) : Int) ∧ (0 : Int) = (0 : Int) ∧ True) ∧ True ∧ true = true) ∧ LoopOk Tryz.prog (46 : Nat) (2 : Nat) (loopAt Tryz.prog (46 : Nat) (2 : Nat)) { t := coT b l (0 : Nat), m := [], mv := [] : St } (T.map (lout [(0 : Nat)] (coS b l)) (coO l (0 : Nat))) ∧ (coFrom l (0 : Nat) = true → decide ((↑(List.length l) : Int) ≤ (64 : Int)) = isCons l ∧ True) ∧ (coFrom l (0 : Nat) = false → false = isCons l ∧ True)
theorem vcCo_eq (b : Bool) (l : List Con) : (ctrVC Tryz.prog (coH b l) 46 [encCs b l] [] (boolR (isCons l))) = vcCo b l := by kernel_rfl
def eqN (a b : ByteArray) : Bool := a.data.toList == b.data.toList
def findC (l : List Con) (s : ByteArray) : Option Con := l.find? fun x => eqN x.name s
def fnR (s : ByteArray) : AV := .fn (.func 140) [] [.ip false 1 (get [.y (.string s)])]
def rxT (b : Bool) (s : ByteArray) (l : List Con) (k : Nat) : List AV := mkT 19 [(0, encCs b l), (1, fnR s), (4, .s (.int .i64 0)), (7, .y (.int .i64 l.length)), (8, .y (.int .i64 k))]
def rxS (r : Bool × Nat) : Exit × List AV × List Blk := match r.1 with
  | true => (.ret, mkT 19 [(4, .y (.int .i64 r.2))], [])
  | false => (.exit 0, mkT 19 [], [])
def inC (l : List Con) (s : ByteArray) : Bool := l.any fun x => eqN x.name s
def rxO (l : List Con) (s : ByteArray) (k : Nat) : T (Bool × Nat) := .ite (inC (l.drop k) s) (.ret (true, k + (l.drop k).findIdx fun x => eqN x.name s)) (.ret (false, 0))
def vcRxL (b : Bool) (s : ByteArray) (l : List Con) (k : Nat) : Prop :=
  (decide ((↑k : Int) < (↑(List.length l) : Int)) = true → (true && decide ((↑k : Int) < (↑(List.length l) : Int))) = true ∧ (((List.getD l (Int.toNat (↑k : Int)) (@default Con instInhabitedCon)).name.data.toList == s.data.toList) = true → (inC (List.drop k l) s = true → ((↑k : Int) = (↑(k + List.findIdx (fun (x : Con) => eqN x.name s) (List.drop k l)) : Int) ∧ True) ∧ True ∧ true = true) ∧ (inC (List.drop k l) s = false → False)) ∧ (((List.getD l (Int.toNat (↑k : Int)) (@default Con instInhabitedCon)).name.data.toList == s.data.toList) = false → ∃ (j : Nat), List.length l - j < List.length l - k ∧ (((b = b ∧ List.length l = List.length l ∧ contLe (List.length l) (2 : Nat) (cellsOf' encC l) (cellsOf' encC l)) ∧ (True ∧ (false = false ∧ (1 : Nat) ≤ (1 : Nat) ∧ cellLe (1 : Nat) (Ax.get [AV.y (Value.string s)]) (Ax.get [AV.y (Value.string s)])) ∧ True) ∧ (0 : Int) = (0 : Int) ∧ (↑(List.length l) : Int) = (↑(List.length l) : Int) ∧ IntKind.wrap IntKind.i64 ((↑k : Int) + (1 : Int)) = (↑j : Int) ∧ True) ∧ True ∧ true = true) ∧ true = true ∧ (inC (List.drop j l) s = true → (inC (List.drop k l) s = true → (true, j + List.findIdx (fun (x : Con) => eqN x.name s) (List.drop j l)) = (true, k + List.findIdx (fun (x : Con) => eqN x.name s) (List.drop k l))) ∧ (inC (List.drop k l) s = false → (true, j + List.findIdx (fun (x : Con) => eqN x.name s) (List.drop j l)) = (false, (0 : Nat)))) ∧ (inC (List.drop j l) s = false → (inC (List.drop k l) s = true → (false, (0 : Nat)) = (true, k + List.findIdx (fun (x : Con) => eqN x.name s) (List.drop k l))) ∧ (inC (List.drop k l) s = false → (false, (0 : Nat)) = (false, (0 : Nat)))))) ∧ (decide ((↑k : Int) < (↑(List.length l) : Int)) = false → (inC (List.drop k l) s = true → False) ∧ (inC (List.drop k l) s = false → True ∧ True ∧ true = true))
theorem vcRxL_eq (b : Bool) (s : ByteArray) (l : List Con) (k : Nat) : (loopVC Tryz.prog (hT _) 117 2 (fun k => l.length - k) (rxT b s l) (fun _ => []) [0] (rxO l s) rxS k) = vcRxL b s l k := by kernel_rfl
noncomputable def rxH (b : Bool) (s : ByteArray) (l : List Con) : HintsT Tryz.prog := hh _ (lp1 117 2 (jobOf (rxT b s l) (fun _ => []) [0] (rxO l s) rxS 0) noLp) noCs noOp
def readO (l : List Con) (s : ByteArray) : Int := ((findC l s).getD default).off
def rdR (l : List Con) (s : ByteArray) : T An := .ret (.tup [.y (.int .u64 (readO l s)), .y (.bool (inC l s))], [], [])
def vcRead (b : Bool) (s : ByteArray) (l : List Con) : Prop :=
  (((b = b ∧ List.length l = List.length l ∧ contLe (List.length l) (2 : Nat) (cellsOf' encC l) (cellsOf' encC l)) ∧ (True ∧ (false = false ∧ (1 : Nat) ≤ (1 : Nat) ∧ cellLe (1 : Nat) (fun (j : Nat) => Ax.get [AV.y (Value.string s)] ((0 : Nat) + j)) (Ax.get [AV.y (Value.string s)])) ∧ True) ∧ (0 : Int) = (0 : Int) ∧ (↑(List.length l) : Int) = (↑(List.length l) : Int) ∧ (0 : Int) = (0 : Int) ∧ True) ∧ True ∧ true = true) ∧ LoopOk Tryz.prog (117 : Nat) (2 : Nat) (loopAt Tryz.prog (117 : Nat) (2 : Nat)) { t := rxT b s l (0 : Nat), m := [], mv := [] : St } (T.map (lout [(0 : Nat)] rxS) (rxO l s (0 : Nat))) ∧ (inC (List.drop (0 : Nat) l) s = true → true = true ∧ True ∧ (false = true → ((0 : Int) = readO l s ∧ false = inC l s ∧ True) ∧ True) ∧ (false = false → (true && decide ((↑((0 : Nat) + List.findIdx (fun (x : Con) => eqN x.name s) (List.drop (0 : Nat) l)) : Int) < (↑(List.length l) : Int))) = true ∧ ((List.getD l (Int.toNat (↑((0 : Nat) + List.findIdx (fun (x : Con) => eqN x.name s) (List.drop (0 : Nat) l)) : Int)) (@default Con instInhabitedCon)).off = readO l s ∧ true = inC l s ∧ True) ∧ True)) ∧ (inC (List.drop (0 : Nat) l) s = false → true = true ∧ True ∧ ((0 : Int) = readO l s ∧ false = inC l s ∧ True) ∧ True)
theorem vcRead_eq (b : Bool) (s : ByteArray) (l : List Con) : (ctrVC Tryz.prog (rxH b s l) 108 [encCs b l, .y (.string s)] [] (rdR l s)) = vcRead b s l := by kernel_rfl
def elemO (to : List Int) (o : Int) : Int := to.getD (min o (to.length - 1)).toNat 0
end Go.Proofs.YtnbhdjadlbhknaaGreatDoor

namespace Go.Proofs.YtnbhdjadlbhknaaGreatDoor
open Go.Ax
set_option maxRecDepth 1000000
theorem co_loop (b : Bool) (l : List Con) (hl : l.length ≤ 9223372036854775806) (k : Nat) : LoopOk Tryz.prog 46 2 (loopAt Tryz.prog 46 2) ⟨coT b l k, [], []⟩ ((coO l k).map (lout [0] (coS b l))) := by
  refine loop_vcH (ht := coHL l) Tryz.mixed (fun _ => rfl) (fun k => (vcCoL_eq b l k).mpr ?_) k
  unfold vcCoL
  simp
  refine ⟨fun h => ?_, fun h => by simp [coFrom_end h]⟩
  rw [coFrom_step h]
  have e1 : IntKind.i64.wrap ((k : Int) + 1) = ((k + 1 : Nat) : Int) := by rw [wrap_i64 (by omega) (by omega)]; omega
  rw [e1]
  rcases Nat.eq_zero_or_pos k with rfl | hk
  · simp [coOk]
    generalize l[0]?.getD default = x
    cases nameOk x.name <;> simp
    all_goals repeat' with_reducible apply And.intro
    all_goals first | omega | exact ⟨1, by omega, by simp, by grind⟩
  · have e2 : IntKind.i64.wrap ((k : Int) - 1) = ((k - 1 : Nat) : Int) := by rw [wrap_i64 (by omega) (by omega)]; omega
    rw [e2]
    simp [coOk, lt, hk]
    generalize l[k]?.getD default = x
    generalize l[k - 1]?.getD default = y
    generalize Op.bytesLess y.name.data.toList x.name.data.toList = q
    cases nameOk x.name <;> cases q <;> simp <;> (try omega)
    all_goals repeat' with_reducible apply And.intro
    all_goals first | omega | (intro h0; exact absurd h0 (by omega)) | exact ⟨k + 1, by omega, by simp, by grind⟩
theorem co_c (b : Bool) (l : List Con) (hl : l.length ≤ 9223372036854775806) : (boolR (isCons l)).Sat (ACall' Tryz.prog 46 [encCs b l] []) := by
  refine ctr_vc (ht := coH b l) Tryz.mixed rfl ?_
  rw [vcCo_eq b l]
  unfold vcCo
  have := co_loop b l hl 0
  simp [this, isCons]
  grind
theorem inC_nil (s : ByteArray) : inC [] s = false := rfl
theorem inC_cons (y : Con) (l : List Con) (s : ByteArray) : inC (y :: l) s = (eqN y.name s || inC l s) := rfl
theorem readO_cons (y : Con) (l : List Con) (s : ByteArray) : readO (y :: l) s = if eqN y.name s then y.off else readO l s := by
  unfold readO findC
  rw [List.find?_cons]
  split <;> simp_all
theorem rx_loop (b : Bool) (s : ByteArray) (l : List Con) (hl : l.length ≤ 9223372036854775806) (k : Nat) : LoopOk Tryz.prog 117 2 (loopAt Tryz.prog 117 2) ⟨rxT b s l k, [], []⟩ ((rxO l s k).map (lout [0] rxS)) := by
  refine loop_vc Tryz.mixed (fun _ => rfl) (fun k => (vcRxL_eq b s l k).mpr ?_) k
  unfold vcRxL
  simp
  refine ⟨fun h => ?_, fun h => by simp [drop_end h, inC_nil]⟩
  simp (disch := omega) only [wrap_i64]
  rw [drop_cons h]
  simp only [inC_cons, List.findIdx_cons]
  generalize l[k]?.getD default = y
  by_cases h1 : y.name.data = s.data
  · simp [eqN, h1, h]
  · simp [eqN, h1, h, cast_succ_eq]
    exact ⟨k + 1, by omega, rfl, by grind⟩
theorem at_find : ∀ (l : List Con) (s : ByteArray), inC l s = true → (l.findIdx fun x => eqN x.name s) < l.length ∧ (l.getD (l.findIdx fun x => eqN x.name s) default).off = readO l s
  | [], s, h => by simp [inC_nil] at h
  | y :: l, s, h => by
    rw [inC_cons] at h
    rw [readO_cons, List.findIdx_cons]
    cases hy : eqN y.name s
    · rw [hy, Bool.false_or] at h
      have := at_find l s h
      simpa using this
    · simp
theorem read_none : ∀ (l : List Con) (s : ByteArray), inC l s = false → readO l s = 0
  | [], s, _ => rfl
  | y :: l, s, h => by
    rw [inC_cons, Bool.or_eq_false_iff] at h
    rw [readO_cons, h.1]
    simpa using read_none l s h.2
theorem read_c (b : Bool) (s : ByteArray) (l : List Con) (hl : l.length ≤ 9223372036854775806) : (rdR l s).Sat (ACall' Tryz.prog 108 [encCs b l, .y (.string s)] []) := by
  refine ctr_vc (ht := rxH b s l) Tryz.mixed rfl ?_
  rw [vcRead_eq b s l]
  unfold vcRead
  have lp := rx_loop b s l hl 0
  cases hi : inC l s
  · have := read_none l s hi
    simp [lp, hi, this]
  · have := at_find l s hi
    simp [lp, hi, this.1] at this ⊢
    exact this
def offOk (o : Int) : Prop := 0 ≤ o ∧ o < 18446744073709551616
noncomputable def coC (b : Bool) (l : List Con) : Ctr Tryz.prog := ⟨46, [encCs b l], [], .need (l.length ≤ 9223372036854775806) (boolR (isCons l)), T.Sat.need fun h => co_c b l h⟩
noncomputable def rdC (b : Bool) (l : List Con) (s : ByteArray) : Ctr Tryz.prog := ⟨108, [encCs b l, .y (.string s)], [], .need (l.length ≤ 9223372036854775806) (rdR l s), T.Sat.need fun h => read_c b s l h⟩
end Go.Proofs.YtnbhdjadlbhknaaGreatDoor
