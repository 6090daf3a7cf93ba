import Derived.Shelf.Strings.SlTrimAscii
import Derived.Test.YtjmdejbijigfjaaDoorE8
import Derived.Test.YtjmdejbijigfjaaDoorW2
set_option linter.unusedVariables false
set_option linter.unusedSimpArgs false
/-! Records: names. -/
namespace Go.Proofs
open Go.Shelf
def Tryd.lays160_ren : Go.Shelf.Ren := ⟨fun | 160 => 61 | 232 => 71 | 231 => 70 | 227 => 72 | 234 => 74 | 233 => 73 | 236 => 76 | 235 => 75 | 228 => 81 | 271 => 84 | 151 => 83 | 197 => 82 | 120 => 88 | 152 => 87 | 260 => 86 | 137 => 90 | 119 => 91 | 224 => 92 | 225 => 93 | 217 => 94 | 266 => 95 | n => n, fun | 9 => 9 | 4 => 4 | 3 => 3 | 5 => 5 | 117 => 105 | 116 => 104 | 0 => 0 | 124 => 108 | 21 => 21 | 105 => 113 | 46 => 110 | 119 => 118 | 139 => 121 | 138 => 120 | n => n, fun | 3 => 0 | 4 => 1 | n => n⟩
theorem Tryd.lays160 : Go.Proofs.Lays.n160 Tryd.prog Tryd.lays160_ren := {
  mixed := by kernel_rfl
  f119 := Tryd.func91.trans (congrArg some (by kernel_rfl))
  f120 := Tryd.func88.trans (congrArg some (by kernel_rfl))
  f137 := Tryd.func90.trans (congrArg some (by kernel_rfl))
  f151 := Tryd.func83.trans (congrArg some (by kernel_rfl))
  f152 := Tryd.func87.trans (congrArg some (by kernel_rfl))
  f160 := Tryd.func61.trans (congrArg some (by kernel_rfl))
  f197 := Tryd.func82.trans (congrArg some (by kernel_rfl))
  f217 := Tryd.func94.trans (congrArg some (by kernel_rfl))
  f224 := Tryd.func92.trans (congrArg some (by kernel_rfl))
  f225 := Tryd.func93.trans (congrArg some (by kernel_rfl))
  f227 := Tryd.func72.trans (congrArg some (by kernel_rfl))
  f228 := Tryd.func81.trans (congrArg some (by kernel_rfl))
  f231 := Tryd.func70.trans (congrArg some (by kernel_rfl))
  f232 := Tryd.func71.trans (congrArg some (by kernel_rfl))
  f233 := Tryd.func73.trans (congrArg some (by kernel_rfl))
  f234 := Tryd.func74.trans (congrArg some (by kernel_rfl))
  f235 := Tryd.func75.trans (congrArg some (by kernel_rfl))
  f236 := Tryd.func76.trans (congrArg some (by kernel_rfl))
  f260 := Tryd.func86.trans (congrArg some (by kernel_rfl))
  f266 := Tryd.func95.trans (congrArg some (by kernel_rfl))
  f271 := Tryd.func84.trans (congrArg some (by kernel_rfl))
  t0 := Tryd.underlying0
  a0 := Tryd.isAgg0
  z0 := Tryd.sizeOf0
  v0 := Tryd.zeroValue0
  t3 := Tryd.underlying3
  a3 := Tryd.isAgg3
  z3 := Tryd.sizeOf3
  v3 := Tryd.zeroValue3
  t4 := Tryd.underlying4
  a4 := Tryd.isAgg4
  z4 := Tryd.sizeOf4
  v4 := Tryd.zeroValue4
  t5 := Tryd.underlying5
  a5 := Tryd.isAgg5
  z5 := Tryd.sizeOf5
  v5 := Tryd.zeroValue5
  t9 := Tryd.underlying9
  a9 := Tryd.isAgg9
  z9 := Tryd.sizeOf9
  v9 := Tryd.zeroValue9
  t21 := Tryd.underlying21
  a21 := Tryd.isAgg21
  z21 := Tryd.sizeOf21
  v21 := Tryd.zeroValue21
  t46 := Tryd.underlying110
  a46 := Tryd.isAgg110
  z46 := Tryd.sizeOf110
  v46 := Tryd.zeroValue110
  t105 := Tryd.underlying113
  a105 := Tryd.isAgg113
  z105 := Tryd.sizeOf113
  v105 := Tryd.zeroValue113
  t116 := Tryd.underlying104
  a116 := Tryd.isAgg104
  z116 := Tryd.sizeOf104
  t117 := Tryd.underlying105
  a117 := Tryd.isAgg105
  z117 := Tryd.sizeOf105
  v117 := Tryd.zeroValue105
  t119 := Tryd.underlying118
  a119 := Tryd.isAgg118
  z119 := Tryd.sizeOf118
  t124 := Tryd.underlying108
  a124 := Tryd.isAgg108
  z124 := Tryd.sizeOf108
  v124 := Tryd.zeroValue108
  t138 := Tryd.underlying120
  a138 := Tryd.isAgg120
  z138 := Tryd.sizeOf120
  v138 := Tryd.zeroValue120
  t139 := Tryd.underlying121
  a139 := Tryd.isAgg121
  z139 := Tryd.sizeOf121
  v139 := Tryd.zeroValue121
  g3 := by kernel_rfl
  g4 := by kernel_rfl }
end Go.Proofs
namespace Go.Proofs.YtjmdejbijigfjaaDoor
open Go.Ax
set_option maxRecDepth 1000000
def chars : List UInt8 := [97, 98, 99, 100, 101, 102, 103, 104, 105, 106, 107, 108, 109, 110, 111, 112, 113, 114, 115, 116, 117, 118, 119, 120, 121, 122, 48, 49, 50, 51, 52, 53, 54, 55, 56, 57, 45, 95, 46]
def isCh (b : UInt8) : Bool := chars.contains b
def nameOk (s : ByteArray) : Bool := !(s.data.toList == []) && (decide ((s.size : Int) ≤ 32) && s.data.toList.all isCh)
theorem drop_all {l : List UInt8} {p : UInt8 → Bool} : (l.dropWhile p == []) = l.all p := by
  induction l with
  | nil => rfl
  | cons a l ih =>
    rw [List.dropWhile_cons, List.all_cons]
    cases h : p a
    · simp
    · simpa using ih
theorem trim_all (l : List UInt8) : (Lib.trimS l chars == []) = l.all isCh := by
  unfold Lib.trimS Lib.trimLeftS Lib.trimRightS
  rw [drop_all]
  cases h : l.all isCh
  · rw [Bool.eq_false_iff]
    intro h2
    have h3 : ∀ m : List UInt8, (m.dropWhile isCh).all isCh = true → m.all isCh = true := by
      intro m
      induction m with
      | nil => exact fun _ => rfl
      | cons a m ih =>
        rw [List.dropWhile_cons]
        cases ha : isCh a
        · intro h; simp at h; simp [ha] at h
        · intro h; simp only [List.all_cons, ha, Bool.true_and]; exact ih h
    have h4 : (l.reverse.dropWhile isCh).all isCh = true := by
      rw [← List.all_reverse]; exact h2
    have h5 := h3 _ h4
    rw [List.all_reverse] at h5
    rw [h5] at h; cases h
  · rw [List.all_reverse]
    have : l.reverse.dropWhile isCh = [] := by
      have := drop_all (l := l.reverse) (p := isCh)
      rw [List.all_reverse, h] at this
      simpa using this
    have e : l.reverse.dropWhile (fun x => chars.contains x) = [] := this
    rw [e]; rfl
def trimR (s : ByteArray) : T An := .ret (.y (.string ⟨(Lib.trimS s.data.toList chars).toArray⟩), [], [])
theorem trim_c (s : ByteArray) (hs : s.size ≤ 9223372036854775807) : (trimR s).Sat (ACall' Tryd.prog 61 [.y (.string s), .s (.string ⟨chars.toArray⟩)] []) := by
  refine call_below fun w vals hv => ?_
  obtain ⟨H, E, v, l1, e1, hv1, v2, l2, e2, hv2, e3⟩ := hv
  have e3 : l2 = [] := e3
  subst e3
  subst e2
  obtain rfl := hv1.1
  obtain rfl := hv2.1
  have hvals : vals = #[.string s, .string ⟨chars.toArray⟩] := Array.ext' e1
  subst hvals
  refine (Any.strings_Trim_laid Tryd.lays160 (by kernel_rfl) s ⟨chars.toArray⟩ w hs (by decide) (Go.Proofs.ascii_of_all (by decide))).mono ?_
  rintro e w' ⟨rfl, hb⟩
  exact ⟨_, rfl, fun _ _ => ⟨rfl, rfl⟩, hb⟩
noncomputable def trimC (s : ByteArray) : Ctr Tryd.prog := ⟨61, [.y (.string s), .s (.string ⟨chars.toArray⟩)], [], .need (s.size ≤ 9223372036854775807) (trimR s), T.Sat.need fun h => trim_c s h⟩
noncomputable def nameH (s : ByteArray) : HintsT Tryd.prog := hh _ noLp (cs1 41 1 9 (trimC s) noCs) noOp
def vcName (s : ByteArray) : Prop :=
  ((!s.data.toList == []) = true → (decide ((↑(ByteArray.size s) : Int) ≤ (32 : Int)) = true → (s = s ∧ { data := #[(97 : UInt8), (98 : UInt8), (99 : UInt8), (100 : UInt8), (101 : UInt8), (102 : UInt8), (103 : UInt8), (104 : UInt8), (105 : UInt8), (106 : UInt8), (107 : UInt8), (108 : UInt8), (109 : UInt8), (110 : UInt8), (111 : UInt8), (112 : UInt8), (113 : UInt8), (114 : UInt8), (115 : UInt8), (116 : UInt8), (117 : UInt8), (118 : UInt8), (119 : UInt8), (120 : UInt8), (121 : UInt8), (122 : UInt8), (48 : UInt8), (49 : UInt8), (50 : UInt8), (51 : UInt8), (52 : UInt8), (53 : UInt8), (54 : UInt8), (55 : UInt8), (56 : UInt8), (57 : UInt8), (45 : UInt8), (95 : UInt8), (46 : UInt8)] : ByteArray } = { data := #[(97 : UInt8), (98 : UInt8), (99 : UInt8), (100 : UInt8), (101 : UInt8), (102 : UInt8), (103 : UInt8), (104 : UInt8), (105 : UInt8), (106 : UInt8), (107 : UInt8), (108 : UInt8), (109 : UInt8), (110 : UInt8), (111 : UInt8), (112 : UInt8), (113 : UInt8), (114 : UInt8), (115 : UInt8), (116 : UInt8), (117 : UInt8), (118 : UInt8), (119 : UInt8), (120 : UInt8), (121 : UInt8), (122 : UInt8), (48 : UInt8), (49 : UInt8), (50 : UInt8), (51 : UInt8), (52 : UInt8), (53 : UInt8), (54 : UInt8), (55 : UInt8), (56 : UInt8), (57 : UInt8), (45 : UInt8), (95 : UInt8), (46 : UInt8)] : ByteArray } ∧ True) ∧ True ∧ ByteArray.size s ≤ (9223372036854775807 : Nat) ∧ (Lib.trimS s.data.toList [(97 : UInt8), (98 : UInt8), (99 : UInt8), (100 : UInt8), (101 : UInt8), (102 : UInt8), (103 : UInt8), (104 : UInt8), (105 : UInt8), (106 : UInt8), (107 : UInt8), (108 : UInt8), (109 : UInt8), (110 : UInt8), (111 : UInt8), (112 : UInt8), (113 : UInt8), (114 : UInt8), (115 : UInt8), (116 : UInt8), (117 : UInt8), (118 : UInt8), (119 : UInt8), (120 : UInt8), (121 : UInt8), (122 : UInt8), (48 : UInt8), (49 : UInt8), (50 : UInt8), (51 : UInt8), (52 : UInt8), (53 : UInt8), (54 : UInt8), (55 : UInt8), (56 : UInt8), (57 : UInt8), (45 : UInt8), (95 : UInt8), (46 : UInt8)] == []) = nameOk s ∧ True) ∧ (decide ((↑(ByteArray.size s) : Int) ≤ (32 : Int)) = false → false = nameOk s ∧ True)) ∧ ((!s.data.toList == []) = false → false = nameOk s ∧ True)
set_option maxRecDepth 1000000 in
theorem vcName_eq (s : ByteArray) : (ctrVC Tryd.prog (nameH s) 41 [.y (.string s)] [] (boolR (nameOk s))) = vcName s := by kernel_rfl
/-! the document's -/
def chI (c : Int) : Bool := !((decide (c < 97) || decide (122 < c)) && ((decide (c < 48) || decide (57 < c)) && (c != 45 && (c != 95 && c != 46))))
def nmFrom (s : ByteArray) (k : Nat) : Bool := (s.data.toList.drop k).all isCh
def nmT (s : ByteArray) (k : Nat) : List AV := mkT 48 [(0, .y (.string s)), (2, .s (.bool false)), (3, .y (.int .i64 k))]
def nmS (r : Bool) : Exit × List AV × List Blk := match r with
  | true => (.exit 0, mkT 48 [], [])
  | false => (.ret, mkT 48 [(2, .s (.bool false))], [])
def nmO (s : ByteArray) (k : Nat) : T Bool := .ite (nmFrom s k) (.ret true) (.ret false)
def vcNmL (s : ByteArray) (k : Nat) : Prop :=
  (decide ((↑k : Int) < (↑(ByteArray.size s) : Int)) = true → (true && decide ((↑k : Int) < (↑(ByteArray.size s) : Int))) = true ∧ (decide ((↑(UInt8.toNat (List.getD s.data.toList (Int.toNat (↑k : Int)) (0 : UInt8))) : Int) < (97 : Int)) = true → (decide ((↑(UInt8.toNat (List.getD s.data.toList (Int.toNat (↑k : Int)) (0 : UInt8))) : Int) < (48 : Int)) = true → (((↑(UInt8.toNat (List.getD s.data.toList (Int.toNat (↑k : Int)) (0 : UInt8))) : Int) != (45 : Int)) = true → (((↑(UInt8.toNat (List.getD s.data.toList (Int.toNat (↑k : Int)) (0 : UInt8))) : Int) != (95 : Int)) = true → (((↑(UInt8.toNat (List.getD s.data.toList (Int.toNat (↑k : Int)) (0 : UInt8))) : Int) != (46 : Int)) = true → (nmFrom s k = true → False) ∧ (nmFrom s k = false → (false = false ∧ True) ∧ True ∧ true = true)) ∧ (((↑(UInt8.toNat (List.getD s.data.toList (Int.toNat (↑k : Int)) (0 : UInt8))) : Int) != (46 : Int)) = false → ∃ (j : Nat), ByteArray.size s - j < ByteArray.size s - k ∧ ((s = s ∧ false = false ∧ IntKind.wrap IntKind.i64 ((↑k : Int) + (1 : Int)) = (↑j : Int) ∧ True) ∧ True ∧ true = true) ∧ true = true ∧ (nmFrom s j = true → (nmFrom s k = true → true = true) ∧ (nmFrom s k = false → true = false)) ∧ (nmFrom s j = false → (nmFrom s k = true → false = true) ∧ (nmFrom s k = false → false = false)))) ∧ (((↑(UInt8.toNat (List.getD s.data.toList (Int.toNat (↑k : Int)) (0 : UInt8))) : Int) != (95 : Int)) = false → ∃ (j : Nat), ByteArray.size s - j < ByteArray.size s - k ∧ ((s = s ∧ false = false ∧ IntKind.wrap IntKind.i64 ((↑k : Int) + (1 : Int)) = (↑j : Int) ∧ True) ∧ True ∧ true = true) ∧ true = true ∧ (nmFrom s j = true → (nmFrom s k = true → true = true) ∧ (nmFrom s k = false → true = false)) ∧ (nmFrom s j = false → (nmFrom s k = true → false = true) ∧ (nmFrom s k = false → false = false)))) ∧ (((↑(UInt8.toNat (List.getD s.data.toList (Int.toNat (↑k : Int)) (0 : UInt8))) : Int) != (45 : Int)) = false → ∃ (j : Nat), ByteArray.size s - j < ByteArray.size s - k ∧ ((s = s ∧ false = false ∧ IntKind.wrap IntKind.i64 ((↑k : Int) + (1 : Int)) = (↑j : Int) ∧ True) ∧ True ∧ true = true) ∧ true = true ∧ (nmFrom s j = true → (nmFrom s k = true → true = true) ∧ (nmFrom s k = false → true = false)) ∧ (nmFrom s j = false → (nmFrom s k = true → false = true) ∧ (nmFrom s k = false → false = false)))) ∧ (decide ((↑(UInt8.toNat (List.getD s.data.toList (Int.toNat (↑k : Int)) (0 : UInt8))) : Int) < (48 : Int)) = false → (decide ((57 : Int) < (↑(UInt8.toNat (List.getD s.data.toList (Int.toNat (↑k : Int)) (0 : UInt8))) : Int)) = true → (((↑(UInt8.toNat (List.getD s.data.toList (Int.toNat (↑k : Int)) (0 : UInt8))) : Int) != (45 : Int)) = true → (((↑(UInt8.toNat (List.getD s.data.toList (Int.toNat (↑k : Int)) (0 : UInt8))) : Int) != (95 : Int)) = true → (((↑(UInt8.toNat (List.getD s.data.toList (Int.toNat (↑k : Int)) (0 : UInt8))) : Int) != (46 : Int)) = true → (nmFrom s k = true → False) ∧ (nmFrom s k = false → (false = false ∧ True) ∧ True ∧ true = true)) ∧ (((↑(UInt8.toNat (List.getD s.data.toList (Int.toNat (↑k : Int)) (0 : UInt8))) : Int) != (46 : Int)) = false → ∃ (j : Nat), ByteArray.size s - j < ByteArray.size s - k ∧ ((s = s ∧ false = false ∧ IntKind.wrap IntKind.i64 ((↑k : Int) + (1 : Int)) = (↑j : Int) ∧ True) ∧ True ∧ true = true) ∧ true = true ∧ (nmFrom s j = true → (nmFrom s k = true → true = true) ∧ (nmFrom s k = false → true = false)) ∧ (nmFrom s j = false → (nmFrom s k = true → false = true) ∧ (nmFrom s k = false → false = false)))) ∧ (((↑(UInt8.toNat (List.getD s.data.toList (Int.toNat (↑k : Int)) (0 : UInt8))) : Int) != (95 : Int)) = false → ∃ (j : Nat), ByteArray.size s - j < ByteArray.size s - k ∧ ((s = s ∧ false = false ∧ IntKind.wrap IntKind.i64 ((↑k : Int) + (1 : Int)) = (↑j : Int) ∧ True) ∧ True ∧ true = true) ∧ true = true ∧ (nmFrom s j = true → (nmFrom s k = true → true = true) ∧ (nmFrom s k = false → true = false)) ∧ (nmFrom s j = false → (nmFrom s k = true → false = true) ∧ (nmFrom s k = false → false = false)))) ∧ (((↑(UInt8.toNat (List.getD s.data.toList (Int.toNat (↑k : Int)) (0 : UInt8))) : Int) != (45 : Int)) = false → ∃ (j : Nat), ByteArray.size s - j < ByteArray.size s - k ∧ ((s = s ∧ false = false ∧ IntKind.wrap IntKind.i64 ((↑k : Int) + (1 : Int)) = (↑j : Int) ∧ True) ∧ True ∧ true = true) ∧ true = true ∧ (nmFrom s j = true → (nmFrom s k = true → true = true) ∧ (nmFrom s k = false → true = false)) ∧ (nmFrom s j = false → (nmFrom s k = true → false = true) ∧ (nmFrom s k = false → false = false)))) ∧ (decide ((57 : Int) < (↑(UInt8.toNat (List.getD s.data.toList (Int.toNat (↑k : Int)) (0 : UInt8))) : Int)) = false → ∃ (j : Nat), ByteArray.size s - j < ByteArray.size s - k ∧ ((s = s ∧ false = false ∧ IntKind.wrap IntKind.i64 ((↑k : Int) + (1 : Int)) = (↑j : Int) ∧ True) ∧ True ∧ true = true) ∧ true = true ∧ (nmFrom s j = true → (nmFrom s k = true → true = true) ∧ (nmFrom s k = false → true = false)) ∧ (nmFrom s j = false → (nmFrom s k = true → false = true) ∧ (nmFrom s k = false → false = false))))) ∧ (decide ((↑(UInt8.toNat (List.getD s.data.toList (Int.toNat (↑k : Int)) (0 : UInt8))) : Int) < (97 : Int)) = false → (decide ((122 : Int) < (↑(UInt8.toNat (List.getD s.data.toList (Int.toNat (↑k : Int)) (0 : UInt8))) : Int)) = true → (decide ((↑(UInt8.toNat (List.getD s.data.toList (Int.toNat (↑k : Int)) (0 : UInt8))) : Int) < (48 : Int)) = true → (((↑(UInt8.toNat (List.getD s.data.toList (Int.toNat (↑k : Int)) (0 : UInt8))) : Int) != (45 : Int)) = true → (((↑(UInt8.toNat (List.getD s.data.toList (Int.toNat (↑k : Int)) (0 : UInt8))) : Int) != (95 : Int)) = true → (((↑(UInt8.toNat (List.getD s.data.toList (Int.toNat (↑k : Int)) (0 : UInt8))) : Int) != (46 : Int)) = true → (nmFrom s k = true → False) ∧ (nmFrom s k = false → (false = false ∧ True) ∧ True ∧ true = true)) ∧ (((↑(UInt8.toNat (List.getD s.data.toList (Int.toNat (↑k : Int)) (0 : UInt8))) : Int) != (46 : Int)) = false → ∃ (j : Nat), ByteArray.size s - j < ByteArray.size s - k ∧ ((s = s ∧ false = false ∧ IntKind.wrap IntKind.i64 ((↑k : Int) + (1 : Int)) = (↑j : Int) ∧ True) ∧ True ∧ true = true) ∧ true = true ∧ (nmFrom s j = true → (nmFrom s k = true → true = true) ∧ (nmFrom s k = false → true = false)) ∧ (nmFrom s j = false → (nmFrom s k = true → false = true) ∧ (nmFrom s k = false → false = false)))) ∧ (((↑(UInt8.toNat (List.getD s.data.toList (Int.toNat (↑k : Int)) (0 : UInt8))) : Int) != (95 : Int)) = false → ∃ (j : Nat), ByteArray.size s - j < ByteArray.size s - k ∧ ((s = s ∧ false = false ∧ IntKind.wrap IntKind.i64 ((↑k : Int) + (1 : Int)) = (↑j : Int) ∧ True) ∧ True ∧ true = true) ∧ true = true ∧ (nmFrom s j = true → (nmFrom s k = true → true = true) ∧ (nmFrom s k = false → true = false)) ∧ (nmFrom s j = false → (nmFrom s k = true → false = true) ∧ (nmFrom s k = false → false = false)))) ∧ (((↑(UInt8.toNat (List.getD s.data.toList (Int.toNat (↑k : Int)) (0 : UInt8))) : Int) != (45 : Int)) = false → ∃ (j : Nat), ByteArray.size s - j < ByteArray.size s - k ∧ ((s = s ∧ false = false ∧ IntKind.wrap IntKind.i64 ((↑k : Int) + (1 : Int)) = (↑j : Int) ∧ True) ∧ True ∧ true = true) ∧ true = true ∧ (nmFrom s j = true → (nmFrom s k = true → true = true) ∧ (nmFrom s k = false → true = false)) ∧ (nmFrom s j = false → (nmFrom s k = true → false = true) ∧ (nmFrom s k = false → false = false)))) ∧ (decide ((↑(UInt8.toNat (List.getD s.data.toList (Int.toNat (↑k : Int)) (0 : UInt8))) : Int) < (48 : Int)) = false → (decide ((57 : Int) < (↑(UInt8.toNat (List.getD s.data.toList (Int.toNat (↑k : Int)) (0 : UInt8))) : Int)) = true → (((↑(UInt8.toNat (List.getD s.data.toList (Int.toNat (↑k : Int)) (0 : UInt8))) : Int) != (45 : Int)) = true → (((↑(UInt8.toNat (List.getD s.data.toList (Int.toNat (↑k : Int)) (0 : UInt8))) : Int) != (95 : Int)) = true → (((↑(UInt8.toNat (List.getD s.data.toList (Int.toNat (↑k : Int)) (0 : UInt8))) : Int) != (46 : Int)) = true → (nmFrom s k = true → False) ∧ (nmFrom s k = false → (false = false ∧ True) ∧ True ∧ true = true)) ∧ (((↑(UInt8.toNat (List.getD s.data.toList (Int.toNat (↑k : Int)) (0 : UInt8))) : Int) != (46 : Int)) = false → ∃ (j : Nat), ByteArray.size s - j < ByteArray.size s - k ∧ ((s = s ∧ false = false ∧ IntKind.wrap IntKind.i64 ((↑k : Int) + (1 : Int)) = (↑j : Int) ∧ True) ∧ True ∧ true = true) ∧ true = true ∧ (nmFrom s j = true → (nmFrom s k = true → true = true) ∧ (nmFrom s k = false → true = false)) ∧ (nmFrom s j = false → (nmFrom s k = true → false = true) ∧ (nmFrom s k = false → false = false)))) ∧ (((↑(UInt8.toNat (List.getD s.data.toList (Int.toNat (↑k : Int)) (0 : UInt8))) : Int) != (95 : Int)) = false → ∃ (j : Nat), ByteArray.size s - j < ByteArray.size s - k ∧ ((s = s ∧ false = false ∧ IntKind.wrap IntKind.i64 ((↑k : Int) + (1 : Int)) = (↑j : Int) ∧ True) ∧ True ∧ true = true) ∧ true = true ∧ (nmFrom s j = true → (nmFrom s k = true → true = true) ∧ (nmFrom s k = false → true = false)) ∧ (nmFrom s j = false → (nmFrom s k = true → false = true) ∧ (nmFrom s k = false → false = false)))) ∧ (((↑(UInt8.toNat (List.getD s.data.toList (Int.toNat (↑k : Int)) (0 : UInt8))) : Int) != (45 : Int)) = false → ∃ (j : Nat), ByteArray.size s - j < ByteArray.size s - k ∧ ((s = s ∧ false = false ∧ IntKind.wrap IntKind.i64 ((↑k : Int) + (1 : Int)) = (↑j : Int) ∧ True) ∧ True ∧ true = true) ∧ true = true ∧ (nmFrom s j = true → (nmFrom s k = true → true = true) ∧ (nmFrom s k = false → true = false)) ∧ (nmFrom s j = false → (nmFrom s k = true → false = true) ∧ (nmFrom s k = false → false = false)))) ∧ (decide ((57 : Int) < (↑(UInt8.toNat (List.getD s.data.toList (Int.toNat (↑k : Int)) (0 : UInt8))) : Int)) = false → ∃ (j : Nat), ByteArray.size s - j < ByteArray.size s - k ∧ ((s = s ∧ false = false ∧ IntKind.wrap IntKind.i64 ((↑k : Int) + (1 : Int)) = (↑j : Int) ∧ True) ∧ True ∧ true = true) ∧ true = true ∧ (nmFrom s j = true → (nmFrom s k = true → true = true) ∧ (nmFrom s k = false → true = false)) ∧ (nmFrom s j = false → (nmFrom s k = true → false = true) ∧ (nmFrom s k = false → false = false))))) ∧ (decide ((122 : Int) < (↑(UInt8.toNat (List.getD s.data.toList (Int.toNat (↑k : Int)) (0 : UInt8))) : Int)) = false → ∃ (j : Nat), ByteArray.size s - j < ByteArray.size s - k ∧ ((s = s ∧ false = false ∧ IntKind.wrap IntKind.i64 ((↑k : Int) + (1 : Int)) = (↑j : Int) ∧ True) ∧ True ∧ true = true) ∧ true = true ∧ (nmFrom s j = true → (nmFrom s k = true → true = true) ∧ (nmFrom s k = false → true = false)) ∧ (nmFrom s j = false → (nmFrom s k = true → false = true) ∧ (nmFrom s k = false → false = false))))) ∧ (decide ((↑k : Int) < (↑(ByteArray.size s) : Int)) = false → (nmFrom s k = true → True ∧ True ∧ true = true) ∧ (nmFrom s k = false → False))
set_option maxRecDepth 1000000 in
theorem vcNmL_eq (s : ByteArray) (k : Nat) : (loopVC Tryd.prog (hT _) 42 4 (fun k => s.size - k) (nmT s) (fun _ => []) [0] (nmO s) nmS k) = vcNmL s k := by kernel_rfl
noncomputable def nmH (s : ByteArray) : HintsT Tryd.prog := hh _ (lp1 42 4 (jobOf (nmT s) (fun _ => []) [0] (nmO s) nmS 0) noLp) noCs noOp
def vcNm (s : ByteArray) : Prop :=
  (decide ((↑(ByteArray.size s) : Int) < (1 : Int)) = true → false = nameOk s ∧ True) ∧ (decide ((↑(ByteArray.size s) : Int) < (1 : Int)) = false → (decide ((32 : Int) < (↑(ByteArray.size s) : Int)) = true → false = nameOk s ∧ True) ∧ (decide ((32 : Int) < (↑(ByteArray.size s) : Int)) = false → ((s = s ∧ false = false ∧ (0 : Int) = (0 : Int) ∧ True) ∧ True ∧ true = true) ∧ LoopOk Tryd.prog (42 : Nat) (4 : Nat) (loopAt Tryd.prog (42 : Nat) (4 : Nat)) { t := nmT s (0 : Nat), m := [], mv := [] : St } (T.map (lout [(0 : Nat)] nmS) (nmO s (0 : Nat))) ∧ (nmFrom s (0 : Nat) = true → true = nameOk s ∧ True) ∧ (nmFrom s (0 : Nat) = false → false = nameOk s ∧ True)))
set_option maxRecDepth 1000000 in
theorem vcNm_eq (s : ByteArray) : (ctrVC Tryd.prog (nmH s) 42 [.y (.string s)] [] (boolR (nameOk s))) = vcNm s := by kernel_rfl
end Go.Proofs.YtjmdejbijigfjaaDoor

/-! Records: names: the contracts. -/
namespace Go.Proofs.YtjmdejbijigfjaaDoor
open Go.Ax
set_option maxRecDepth 1000000
theorem name_c (s : ByteArray) : (boolR (nameOk s)).Sat (ACall' Tryd.prog 41 [.y (.string s)] []) := by
  refine ctr_vc (ht := nameH s) Tryd.mixed rfl ?_
  rw [vcName_eq s]
  unfold vcName
  have e := trim_all s.data.toList
  unfold chars at e
  simp only [e, nameOk]
  generalize (s.data.toList == []) = a
  generalize hb : decide ((s.size : Int) ≤ 32) = b
  generalize s.data.toList.all isCh = c
  cases a <;> cases b <;> cases c <;> simp at hb ⊢ <;> omega
theorem ch_eq (b : UInt8) : isCh b = chI (b.toNat : Nat) := by
  have : ∀ n : Fin 256, isCh (UInt8.ofNat n.1) = chI (n.1 : Nat) := by decide +kernel
  have h := this ⟨b.toNat, b.toNat_lt⟩
  simpa using h
theorem nmFrom_end {s : ByteArray} {k : Nat} (h : s.size ≤ k) : nmFrom s k = true := by
  unfold nmFrom
  rw [List.drop_eq_nil_of_le (by simpa using h)]
  rfl
theorem nmFrom_step {s : ByteArray} {k : Nat} (h : k < s.size) : nmFrom s k = (chI ((s.data.toList.getD k 0).toNat : Nat) && nmFrom s (k + 1)) := by
  unfold nmFrom
  have hk : k < s.data.toList.length := by simpa using h
  rw [List.drop_eq_getElem_cons hk, List.all_cons, ch_eq]
  simp [List.getElem?_eq_getElem hk]
theorem nm_loop (s : ByteArray) (hs : s.size ≤ 32) (k : Nat) : LoopOk Tryd.prog 42 4 (loopAt Tryd.prog 42 4) ⟨nmT s k, [], []⟩ ((nmO s k).map (lout [0] nmS)) := by
  refine loop_vc Tryd.mixed (fun _ => rfl) (fun k => (vcNmL_eq s k).mpr ?_) k
  unfold vcNmL
  by_cases h : k < s.size
  · have h1 : decide ((k : Int) < (s.size : Int)) = true := by simp; omega
    simp only [h1, nmFrom_step h, chI, Int.toNat_natCast]
    have hw : IntKind.i64.wrap ((k : Int) + 1) = ((k + 1 : Nat) : Int) := by rw [wrap_i64 (by omega) (by omega)]; omega
    have hex : ∀ q : Nat → Prop, q (k + 1) → ∃ j, s.size - j < s.size - k ∧ q j := fun q h => ⟨k + 1, by omega, h⟩
    generalize decide (((s.data.toList.getD k 0).toNat : Int) < 97) = b1
    generalize decide (122 < ((s.data.toList.getD k 0).toNat : Int)) = b2
    generalize decide (((s.data.toList.getD k 0).toNat : Int) < 48) = b3
    generalize decide (57 < ((s.data.toList.getD k 0).toNat : Int)) = b4
    generalize (((s.data.toList.getD k 0).toNat : Int) != 45) = b5
    generalize (((s.data.toList.getD k 0).toNat : Int) != 95) = b6
    generalize (((s.data.toList.getD k 0).toNat : Int) != 46) = b7
    cases b1 <;> cases b2 <;> cases b3 <;> cases b4 <;> cases b5 <;> cases b6 <;> cases b7 <;> simp <;> exact ⟨k + 1, by omega, hw, by simp, by simp⟩
  · have h1 : decide ((k : Int) < (s.size : Int)) = false := by simp; omega
    simp [h1, nmFrom_end (show s.size ≤ k by omega)]
    exact fun e => absurd e h
theorem nm_c (s : ByteArray) : (boolR (nameOk s)).Sat (ACall' Tryd.prog 42 [.y (.string s)] []) := by
  refine ctr_vc (ht := nmH s) Tryd.mixed rfl ?_
  rw [vcNm_eq s]
  unfold vcNm
  by_cases h : s.size ≤ 32
  · have lp := nm_loop s h 0
    have h2 : ¬ ((32 : Int) < s.size) := by omega
    have hl : s.data.toList.length = s.size := Array.length_toList
    have h5 : nmFrom s 0 = s.data.toList.all isCh := rfl
    rw [h5] at *
    have h6 : decide ((s.size : Int) ≤ 32) = true := by simp; omega
    by_cases hz : (s.size : Int) < 1
    · have h3 : (s.data.toList == []) = true := by
        rw [beq_iff_eq]; exact List.length_eq_zero_iff.1 (by omega)
      simp only [nameOk, h3, h6]
      simp [hz]
    · have h3 : (s.data.toList == []) = false := by
        rw [beq_eq_false_iff_ne]; intro e; rw [e] at hl; simp at hl; omega
      simp only [nameOk, h3, h6]
      generalize s.data.toList.all isCh = c at *
      cases c <;> simp [hz, h2, lp]
  · have h2 : (32 : Int) < s.size := by omega
    have h3 : ¬ ((s.size : Int) ≤ 32) := by omega
    simp [nameOk, h2, h3]
noncomputable def nameC (s : ByteArray) : Ctr Tryd.prog := ⟨41, [.y (.string s)], [], boolR (nameOk s), name_c s⟩
noncomputable def nmC (s : ByteArray) : Ctr Tryd.prog := ⟨42, [.y (.string s)], [], boolR (nameOk s), nm_c s⟩
/-! lives -/
def a1 : ByteArray := ⟨#[97, 45, 49]⟩
noncomputable def livH : HintsT Tryd.prog := withSh (hh _ noLp (cs1 11 2 19 (nameC a1) noCs) noOp) (sh1 47 2 0 779 noSh)
def vcLives (u : Unit) : Prop :=
  ({ data := #[(97 : UInt8), (45 : UInt8), (49 : UInt8)] : ByteArray } = a1 ∧ True) ∧ True ∧ true = true ∧ True
set_option maxRecDepth 1000000 in
theorem vcLives_eq (u : Unit) : (ctrVC Tryd.prog livH 11 [] [] (boolR true)) = vcLives u := by kernel_rfl
theorem lives_c : (boolR true).Sat (ACall' Tryd.prog 11 [] []) := by
  refine ctr_vc (ht := livH) Tryd.mixed rfl ?_
  rw [vcLives_eq ()]
  unfold vcLives
  exact ⟨⟨rfl, trivial⟩, trivial, rfl, trivial⟩
noncomputable def livesC : Ctr Tryd.prog := ⟨11, [], [], boolR true, lives_c⟩
end Go.Proofs.YtjmdejbijigfjaaDoor

/-! Records: alike; grown; the law RecordsFull: the conditions. -/
namespace Go.Proofs.YtjmdejbijigfjaaDoor
open Go.Ax
set_option maxRecDepth 1000000
def smT (b1 b2 : Bool) (a : List Rec) (k : Nat) : List AV := mkT 82 [(0, encRs b1 a), (1, encRs b2 a), (5, .y (.int .i64 k))]
def smS (_ : Unit) : Exit × List AV × List Blk := (.exit 0, mkT 82 [], [])
def vcSameL (b1 : Bool) (b2 : Bool) (a : List Rec) (k : Nat) : Prop :=
  (decide ((↑k : Int) < (↑(List.length a) : Int)) = true →
      (true && decide ((↑k : Int) < (↑(List.length a) : Int))) = true ∧
        (true && decide ((↑k : Int) < (↑(List.length a) : Int))) = true ∧
          (((List.getD a (Int.toNat (↑k : Int)) (@default Rec instInhabitedRec)).off != (List.getD a (Int.toNat (↑k : Int)) (@default Rec instInhabitedRec)).off) = true → False) ∧
            (((List.getD a (Int.toNat (↑k : Int)) (@default Rec instInhabitedRec)).off != (List.getD a (Int.toNat (↑k : Int)) (@default Rec instInhabitedRec)).off) = false →
              (true && decide ((↑k : Int) < (↑(List.length a) : Int))) = true ∧
                (true && decide ((↑k : Int) < (↑(List.length a) : Int))) = true ∧
                  ((!(List.getD a (Int.toNat (↑k : Int)) (@default Rec instInhabitedRec)).key.data.toList == (List.getD a (Int.toNat (↑k : Int)) (@default Rec instInhabitedRec)).key.data.toList) = true → False) ∧
                    ((!(List.getD a (Int.toNat (↑k : Int)) (@default Rec instInhabitedRec)).key.data.toList == (List.getD a (Int.toNat (↑k : Int)) (@default Rec instInhabitedRec)).key.data.toList) = false →
                      (true && decide ((↑k : Int) < (↑(List.length a) : Int))) = true ∧
                        (∀ (k_1 : Nat), k_1 < List.length (List.getD a (Int.toNat (↑k : Int)) (@default Rec instInhabitedRec)).val → true = true) ∧
                          (true && decide ((↑k : Int) < (↑(List.length a) : Int))) = true ∧
                            (∀ (k_1 : Nat), k_1 < List.length (List.getD a (Int.toNat (↑k : Int)) (@default Rec instInhabitedRec)).val → true = true) ∧
                              ((!List.map
                                          (fun (a : AV) =>
                                            match
                                              match a with
                                              | AV.s (Value.int IntKind.u8 n) => some n
                                              | AV.y (Value.int IntKind.u8 n) => some n
                                              | x => none with
                                            | some n => UInt8.ofNat (Int.toNat n)
                                            | none => (0 : UInt8))
                                          (List.map (fun (k_1 : Nat) => AV.y (Value.int IntKind.u8 (List.getD (List.getD a (Int.toNat (↑k : Int)) (@default Rec instInhabitedRec)).val k_1 (0 : Int)))) (List.range (List.length (List.getD a (Int.toNat (↑k : Int)) (@default Rec instInhabitedRec)).val))) ==
                                        List.map
                                          (fun (a : AV) =>
                                            match
                                              match a with
                                              | AV.s (Value.int IntKind.u8 n) => some n
                                              | AV.y (Value.int IntKind.u8 n) => some n
                                              | x => none with
                                            | some n => UInt8.ofNat (Int.toNat n)
                                            | none => (0 : UInt8))
                                          (List.map (fun (k_1 : Nat) => AV.y (Value.int IntKind.u8 (List.getD (List.getD a (Int.toNat (↑k : Int)) (@default Rec instInhabitedRec)).val k_1 (0 : Int)))) (List.range (List.length (List.getD a (Int.toNat (↑k : Int)) (@default Rec instInhabitedRec)).val)))) =
                                    true →
                                  False) ∧
                                ((!List.map
                                          (fun (a : AV) =>
                                            match
                                              match a with
                                              | AV.s (Value.int IntKind.u8 n) => some n
                                              | AV.y (Value.int IntKind.u8 n) => some n
                                              | x => none with
                                            | some n => UInt8.ofNat (Int.toNat n)
                                            | none => (0 : UInt8))
                                          (List.map (fun (k_1 : Nat) => AV.y (Value.int IntKind.u8 (List.getD (List.getD a (Int.toNat (↑k : Int)) (@default Rec instInhabitedRec)).val k_1 (0 : Int)))) (List.range (List.length (List.getD a (Int.toNat (↑k : Int)) (@default Rec instInhabitedRec)).val))) ==
                                        List.map
                                          (fun (a : AV) =>
                                            match
                                              match a with
                                              | AV.s (Value.int IntKind.u8 n) => some n
                                              | AV.y (Value.int IntKind.u8 n) => some n
                                              | x => none with
                                            | some n => UInt8.ofNat (Int.toNat n)
                                            | none => (0 : UInt8))
                                          (List.map (fun (k_1 : Nat) => AV.y (Value.int IntKind.u8 (List.getD (List.getD a (Int.toNat (↑k : Int)) (@default Rec instInhabitedRec)).val k_1 (0 : Int)))) (List.range (List.length (List.getD a (Int.toNat (↑k : Int)) (@default Rec instInhabitedRec)).val)))) =
                                    false →
                                  (true && decide ((↑k : Int) < (↑(List.length a) : Int))) = true ∧ (true && decide ((↑k : Int) < (↑(List.length a) : Int))) = true ∧ (((List.getD a (Int.toNat (↑k : Int)) (@default Rec instInhabitedRec)).prod != (List.getD a (Int.toNat (↑k : Int)) (@default Rec instInhabitedRec)).prod) = true → False) ∧ (((List.getD a (Int.toNat (↑k : Int)) (@default Rec instInhabitedRec)).prod != (List.getD a (Int.toNat (↑k : Int)) (@default Rec instInhabitedRec)).prod) = false → (true && decide ((↑k : Int) < (↑(List.length a) : Int))) = true ∧ (true && decide ((↑k : Int) < (↑(List.length a) : Int))) = true ∧ (((List.getD a (Int.toNat (↑k : Int)) (@default Rec instInhabitedRec)).seq != (List.getD a (Int.toNat (↑k : Int)) (@default Rec instInhabitedRec)).seq) = true → False) ∧ (((List.getD a (Int.toNat (↑k : Int)) (@default Rec instInhabitedRec)).seq != (List.getD a (Int.toNat (↑k : Int)) (@default Rec instInhabitedRec)).seq) = false → ∃ (j : Nat), List.length a - j < List.length a - k ∧ (((b1 = b1 ∧ List.length a = List.length a ∧ contLe (List.length a) (5 : Nat) (cellsOf' encR a) (cellsOf' encR a)) ∧ (b2 = b2 ∧ List.length a = List.length a ∧ contLe (List.length a) (5 : Nat) (cellsOf' encR a) (cellsOf' encR a)) ∧ IntKind.wrap IntKind.i64 ((↑k : Int) + (1 : Int)) = (↑j : Int) ∧ True) ∧ True ∧ true = true) ∧ true = true ∧ () = ())))))) ∧
    (decide ((↑k : Int) < (↑(List.length a) : Int)) = false → True ∧ True ∧ true = true)
set_option maxRecDepth 1000000 in
theorem vcSameL_eq (b1 : Bool) (b2 : Bool) (a : List Rec) (k : Nat) : (loopVC Tryd.prog (hT _) 16 4 (fun k => a.length - k) (smT b1 b2 a) (fun _ => []) [0] (fun _ => .ret ()) smS k) = vcSameL b1 b2 a k := by kernel_rfl
noncomputable def smH (b1 b2 : Bool) (a : List Rec) : HintsT Tryd.prog := hh _ (lp1 16 4 (jobOf (smT b1 b2 a) (fun _ => []) [0] (fun _ => .ret ()) smS 0) noLp) noCs noOp
def vcSame (b1 : Bool) (b2 : Bool) (a : List Rec) : Prop :=
  (((↑(List.length a) : Int) != (↑(List.length a) : Int)) = true → false = true ∧ True) ∧ (((↑(List.length a) : Int) != (↑(List.length a) : Int)) = false → (((b1 = b1 ∧ List.length a = List.length a ∧ contLe (List.length a) (5 : Nat) (cellsOf' encR a) (cellsOf' encR a)) ∧ (b2 = b2 ∧ List.length a = List.length a ∧ contLe (List.length a) (5 : Nat) (cellsOf' encR a) (cellsOf' encR a)) ∧ (0 : Int) = (0 : Int) ∧ True) ∧ True ∧ true = true) ∧ LoopOk Tryd.prog (16 : Nat) (4 : Nat) (loopAt Tryd.prog (16 : Nat) (4 : Nat)) { t := smT b1 b2 a (0 : Nat), m := [], mv := [] : St } (T.map (lout [(0 : Nat)] smS) ((fun (x : Nat) => T.ret ()) (0 : Nat))) ∧ true = true ∧ True)
set_option maxRecDepth 1000000 in
theorem vcSame_eq (b1 : Bool) (b2 : Bool) (a : List Rec) : (ctrVC Tryd.prog (smH b1 b2 a) 16 [encRs b1 a, encRs b2 a] [] (boolR true)) = vcSame b1 b2 a := by kernel_rfl
def stT (b1 b2 : Bool) (a : List Int) (k : Nat) : List AV := mkT 26 [(0, encUs b1 a), (1, encUs b2 a), (5, .y (.int .i64 k))]
def stS (_ : Unit) : Exit × List AV × List Blk := (.exit 0, mkT 26 [], [])
def vcStL (b1 : Bool) (b2 : Bool) (a : List Int) (k : Nat) : Prop :=
  (decide ((↑k : Int) < (↑(List.length a) : Int)) = true → (true && decide ((↑k : Int) < (↑(List.length a) : Int))) = true ∧ (true && decide ((↑k : Int) < (↑(List.length a) : Int))) = true ∧ ((List.getD a (Int.toNat (↑k : Int)) (0 : Int) != List.getD a (Int.toNat (↑k : Int)) (0 : Int)) = true → False) ∧ ((List.getD a (Int.toNat (↑k : Int)) (0 : Int) != List.getD a (Int.toNat (↑k : Int)) (0 : Int)) = false → ∃ (j : Nat), List.length a - j < List.length a - k ∧ (((b1 = b1 ∧ List.length a = List.length a ∧ contLe (List.length a) (1 : Nat) (cellsOf' encU a) (cellsOf' encU a)) ∧ (b2 = b2 ∧ List.length a = List.length a ∧ contLe (List.length a) (1 : Nat) (cellsOf' encU a) (cellsOf' encU a)) ∧ IntKind.wrap IntKind.i64 ((↑k : Int) + (1 : Int)) = (↑j : Int) ∧ True) ∧ True ∧ true = true) ∧ true = true ∧ () = ())) ∧ (decide ((↑k : Int) < (↑(List.length a) : Int)) = false → True ∧ True ∧ true = true)
set_option maxRecDepth 1000000 in
theorem vcStL_eq (b1 : Bool) (b2 : Bool) (a : List Int) (k : Nat) : (loopVC Tryd.prog (hT _) 25 4 (fun k => a.length - k) (stT b1 b2 a) (fun _ => []) [0] (fun _ => .ret ()) stS k) = vcStL b1 b2 a k := by kernel_rfl
noncomputable def stH (b1 b2 : Bool) (a : List Int) : HintsT Tryd.prog := hh _ (lp1 25 4 (jobOf (stT b1 b2 a) (fun _ => []) [0] (fun _ => .ret ()) stS 0) noLp) noCs noOp
def vcSt (b1 : Bool) (b2 : Bool) (a : List Int) : Prop :=
  (((↑(List.length a) : Int) != (↑(List.length a) : Int)) = true → false = true ∧ True) ∧ (((↑(List.length a) : Int) != (↑(List.length a) : Int)) = false → (((b1 = b1 ∧ List.length a = List.length a ∧ contLe (List.length a) (1 : Nat) (cellsOf' encU a) (cellsOf' encU a)) ∧ (b2 = b2 ∧ List.length a = List.length a ∧ contLe (List.length a) (1 : Nat) (cellsOf' encU a) (cellsOf' encU a)) ∧ (0 : Int) = (0 : Int) ∧ True) ∧ True ∧ true = true) ∧ LoopOk Tryd.prog (25 : Nat) (4 : Nat) (loopAt Tryd.prog (25 : Nat) (4 : Nat)) { t := stT b1 b2 a (0 : Nat), m := [], mv := [] : St } (T.map (lout [(0 : Nat)] stS) ((fun (x : Nat) => T.ret ()) (0 : Nat))) ∧ true = true ∧ True)
set_option maxRecDepth 1000000 in
theorem vcSt_eq (b1 : Bool) (b2 : Bool) (a : List Int) : (ctrVC Tryd.prog (stH b1 b2 a) 25 [encUs b1 a, encUs b2 a] [] (boolR true)) = vcSt b1 b2 a := by kernel_rfl
theorem same_loop (b1 b2 : Bool) (a : List Rec) (hl : a.length ≤ 9223372036854775806) (k : Nat) : LoopOk Tryd.prog 16 4 (loopAt Tryd.prog 16 4) ⟨smT b1 b2 a k, [], []⟩ (T.map (lout [0] smS) (.ret ())) := by
  refine loop_vc (o := fun _ => .ret ()) Tryd.mixed (fun _ => rfl) (fun k => (vcSameL_eq b1 b2 a k).mpr ?_) k
  unfold vcSameL
  simp
  intro h
  have hb : ∀ q : Nat, isU8 (cellsOf' encB (a[k]?.getD default).val q 0) = true := fun _ => rfl
  simp [h, hb]
  exact ⟨k + 1, by omega, by rw [wrap_i64 (by omega) (by omega)]; omega⟩
theorem same_c (b1 b2 : Bool) (a : List Rec) (hl : a.length ≤ 9223372036854775806) : (boolR true).Sat (ACall' Tryd.prog 16 [encRs b1 a, encRs b2 a] []) := by
  refine ctr_vc (ht := smH b1 b2 a) Tryd.mixed rfl ?_
  rw [vcSame_eq b1 b2 a]
  unfold vcSame
  simp [same_loop b1 b2 a hl 0]
theorem st_loop (b1 b2 : Bool) (a : List Int) (hl : a.length ≤ 9223372036854775806) (k : Nat) : LoopOk Tryd.prog 25 4 (loopAt Tryd.prog 25 4) ⟨stT b1 b2 a k, [], []⟩ (T.map (lout [0] stS) (.ret ())) := by
  refine loop_vc (o := fun _ => .ret ()) Tryd.mixed (fun _ => rfl) (fun k => (vcStL_eq b1 b2 a k).mpr ?_) k
  unfold vcStL
  simp
  intro h
  simp [h]
  exact ⟨k + 1, by omega, by rw [wrap_i64 (by omega) (by omega)]; omega⟩
theorem st_c (b1 b2 : Bool) (a : List Int) (hl : a.length ≤ 9223372036854775806) : (boolR true).Sat (ACall' Tryd.prog 25 [encUs b1 a, encUs b2 a] []) := by
  refine ctr_vc (ht := stH b1 b2 a) Tryd.mixed rfl ?_
  rw [vcSt_eq b1 b2 a]
  unfold vcSt
  simp [st_loop b1 b2 a hl 0]
noncomputable def sameC (b1 b2 : Bool) (a b : List Rec) : Ctr Tryd.prog := ⟨16, [encRs b1 a, encRs b2 b], [], .need (a.length ≤ 9223372036854775806 ∧ a = b) (boolR true), T.Sat.need fun h => by obtain ⟨h1, rfl⟩ := h; exact same_c b1 b2 a h1⟩
noncomputable def stC (b1 b2 : Bool) (a b : List Int) : Ctr Tryd.prog := ⟨25, [encUs b1 a, encUs b2 b], [], .need (a.length ≤ 9223372036854775806 ∧ a = b) (boolR true), T.Sat.need fun h => by obtain ⟨h1, rfl⟩ := h; exact st_c b1 b2 a h1⟩
/-! grown out of nothing -/
def kB : ByteArray := ⟨#[107]⟩
def grR (i : Nat) : Rec := ⟨IntKind.u64.wrap i, kB, [], 9, IntKind.u64.wrap i⟩
def grL (n : Nat) : List Rec := (List.range n).map grR
def grM (m : Int) : Int := (IntKind.i64.wrap m).tmod 4099
def gwT (m : Int) (k : Nat) : List AV := mkT 34 [(5, .own 0 5 0 (grL k).length), (6, .y (.int .i64 (grM m))), (7, .y (.int .i64 k))]
def gwM (k : Nat) : List Blk := [rowR (grL k)]
def gwS (m : Int) (_ : Unit) : Exit × List AV × List Blk := (.exit 0, mkT 34 [(5, .own 0 5 0 (grL (grM m).toNat).length)], gwM (grM m).toNat)
def vcGwL (m : Int) (k : { k : Nat // k ≤ (grM m).toNat }) : Prop :=
  (decide ((↑k.val : Int) < grM m) = true → (decide ((↑(List.length (grL k.val)) : Int) < (4098 : Int)) = true → (decide (List.length (grL k.val) = List.length (grL k.val)) && decide (List.length (grL k.val) + (1 : Nat) ≤ (9223372036854775807 : Nat)) && decide ((List.length (grL k.val) + (1 : Nat)) * (64 : Nat) ≤ (140737488355328 : Nat))) = true ∧ ∃ (j : { k : Nat // k ≤ Int.toNat (grM m) }), Int.toNat (grM m) - j.val < Int.toNat (grM m) - k.val ∧ ((((0 : Nat) = (0 : Nat) ∧ List.length (grL k.val) + (1 : Nat) = List.length (grL j.val)) ∧ grM m = grM m ∧ IntKind.wrap IntKind.i64 ((↑k.val : Int) + (1 : Int)) = (↑j.val : Int) ∧ True) ∧ ((List.length (grL k.val) + (1 : Nat) = List.length (grL j.val) ∧ contLe (List.length (grL k.val) + (1 : Nat)) (5 : Nat) (appRow (List.length (grL k.val)) (cellsOf' encR (grL k.val)) fun (k_1 j : Nat) => Ax.get [AV.y (Value.int IntKind.u64 (IntKind.wrap IntKind.u64 (↑(List.length (grL k.val)) : Int))), AV.s (Value.string { data := #[(107 : UInt8)] : ByteArray }), AV.s (Value.slice none (0 : Nat) (0 : Nat)), AV.s (Value.int IntKind.u64 (9 : Int)), AV.y (Value.int IntKind.u64 (IntKind.wrap IntKind.u64 (↑k.val : Int)))] (k_1 * (5 : Nat) + j)) (cellsOf' encR (grL j.val))) ∧ True) ∧ true = true) ∧ true = true ∧ () = ()) ∧ (decide ((↑(List.length (grL k.val)) : Int) < (4098 : Int)) = false → (((0 : Nat) = (0 : Nat) ∧ List.length (grL k.val) = List.length (grL (Int.toNat (grM m)))) ∧ True) ∧ ((List.length (grL k.val) = List.length (grL (Int.toNat (grM m))) ∧ contLe (List.length (grL k.val)) (5 : Nat) (cellsOf' encR (grL k.val)) (cellsOf' encR (grL (Int.toNat (grM m))))) ∧ True) ∧ true = true)) ∧ (decide ((↑k.val : Int) < grM m) = false → (((0 : Nat) = (0 : Nat) ∧ List.length (grL k.val) = List.length (grL (Int.toNat (grM m)))) ∧ True) ∧ ((List.length (grL k.val) = List.length (grL (Int.toNat (grM m))) ∧ contLe (List.length (grL k.val)) (5 : Nat) (cellsOf' encR (grL k.val)) (cellsOf' encR (grL (Int.toNat (grM m))))) ∧ True) ∧ true = true)
set_option maxRecDepth 1000000 in
theorem vcGwL_eq (m : Int) (k : { k : Nat // k ≤ (grM m).toNat }) : (loopVC Tryd.prog (hT _) 12 4 (fun (k : { k : Nat // k ≤ (grM m).toNat }) => (grM m).toNat - k.1) (fun k => gwT m k.1) (fun k => gwM k.1) [0, 1, 2, 3] (fun _ => .ret ()) (gwS m) k) = vcGwL m k := by kernel_rfl
noncomputable def gwH (m : Int) : HintsT Tryd.prog := hh _ (lp1 12 4 (jobOf (gwT m) gwM [0, 1, 2, 3] (fun _ => .ret ()) (gwS m) 0) noLp) noCs noOp
def grT (m : Int) : T An := .ret (.own 0 5 0 (grL (grM m).toNat).length, [rowR (grL (grM m).toNat)], [])
def vcGw (m : Int) : Prop :=
  true = true ∧ ((((0 : Nat) = (0 : Nat) ∧ (0 : Nat) = (0 : Nat)) ∧ Int.tmod (IntKind.wrap IntKind.i64 m) (4099 : Int) = grM m ∧ (0 : Int) = (0 : Int) ∧ True) ∧ (((0 : Nat) = (0 : Nat) ∧ lstLe (5 : Nat) (0 : Nat) [] (cellsOf' encR [])) ∧ True) ∧ true = true) ∧ LoopOk Tryd.prog (12 : Nat) (4 : Nat) (loopAt Tryd.prog (12 : Nat) (4 : Nat)) { t := gwT m (0 : Nat), m := gwM (0 : Nat), mv := [] : St } (T.map (lout [(0 : Nat), (1 : Nat), (2 : Nat), (3 : Nat)] (gwS m)) ((fun (x : Nat) => T.ret ()) (0 : Nat))) ∧ ((0 : Nat) = (0 : Nat) ∧ List.length (grL (Int.toNat (grM m))) = List.length (grL (Int.toNat (grM m)))) ∧ (List.length (grL (Int.toNat (grM m))) = List.length (grL (Int.toNat (grM m))) ∧ contLe (List.length (grL (Int.toNat (grM m)))) (5 : Nat) (cellsOf' encR (grL (Int.toNat (grM m)))) (cellsOf' encR (grL (Int.toNat (grM m))))) ∧ True
set_option maxRecDepth 1000000 in
theorem vcGw_eq (m : Int) : (ctrVC Tryd.prog (gwH m) 12 [.s (.slice none 0 0), .y (.int .u16 m)] [] (grT m)) = vcGw m := by kernel_rfl
theorem gr_len (n : Nat) : (grL n).length = n := by simp [grL]
theorem gr_at {n k : Nat} (h : k < n) : (grL n).getD k default = grR k := by simp [grL, List.getElem?_eq_getElem, h]
theorem gr_step (n : Nat) : grL (n + 1) = grL n ++ [grR n] := by simp [grL, List.range_succ]
theorem grM_le (m : Int) : grM m < 4099 := by
  unfold grM
  have := Int.tmod_lt_of_pos (IntKind.i64.wrap m) (show (0 : Int) < 4099 by omega)
  omega
theorem gw_loop (m : Int) (k : { k : Nat // k ≤ (grM m).toNat }) : LoopOk Tryd.prog 12 4 (loopAt Tryd.prog 12 4) ⟨gwT m k.1, gwM k.1, []⟩ (T.map (lout [0, 1, 2, 3] (gwS m)) (.ret ())) := by
  refine loop_vc (o := fun _ => .ret ()) (stT := fun (k : { k : Nat // k ≤ (grM m).toNat }) => gwT m k.1) (stM := fun k => gwM k.1) Tryd.mixed (fun _ => rfl) (fun k => (vcGwL_eq m k).mpr ?_) k
  unfold vcGwL
  obtain ⟨k, hk⟩ := k
  have hm := grM_le m
  simp [gr_len]
  refine ⟨fun h => ⟨fun h2 => ⟨⟨by omega, by omega⟩, k + 1, ?_⟩, fun h2 => by omega⟩, fun h => ?_⟩
  · have e := gr_len k
    rw [gr_step]
    have := app1_le (sz := 5) (enc := encR) (l := grL k) (n := (grL k).length) (x := grR k) (cs := [AV.y (Value.int IntKind.u64 (IntKind.u64.wrap ↑k)), AV.s (Value.string ⟨#[107]⟩), AV.s (Value.slice none 0 0), AV.s (Value.int IntKind.u64 9), AV.y (Value.int IntKind.u64 (IntKind.u64.wrap ↑k))]) rfl (rec_le (le0_refl _) (by simp [grR, kB]) (by rfl) (by simp [grR]) (le0_refl _))
    rw [e] at this
    have hw : IntKind.i64.wrap ((k : Int) + 1) = ((k + 1 : Nat) : Int) := by rw [wrap_i64 (by omega) (by omega)]; omega
    repeat' with_reducible apply And.intro
    all_goals first
      | omega
      | exact this
      | exact hw
  · obtain rfl : k = (grM m).toNat := by omega
    exact ⟨rfl, contLe_refl _ _ _⟩
theorem gw_c (m : Int) : (grT m).Sat (ACall' Tryd.prog 12 [.s (.slice none 0 0), .y (.int .u16 m)] []) := by
  refine ctr_vc (ht := gwH m) Tryd.mixed rfl ?_
  rw [vcGw_eq m]
  unfold vcGw
  have lp := gw_loop m ⟨0, Nat.zero_le _⟩
  simp [lp, grM]
  exact fun k hk => absurd hk (Nat.not_lt_zero k)
noncomputable def grC (m : Int) : Ctr Tryd.prog := ⟨12, [.s (.slice none 0 0), .y (.int .u16 m)], [], grT m, gw_c m⟩
end Go.Proofs.YtjmdejbijigfjaaDoor

/-! Records: the law RecordsFull. -/
namespace Go.Proofs.YtjmdejbijigfjaaDoor
open Go.Ax
set_option maxRecDepth 1000000
noncomputable def flH (m n : Int) : HintsT Tryd.prog :=
  hh _ noLp (cs1 4 1 0 livesC (cs1 4 2 1 (grC m) (cs1 4 3 1 (grC n) (cs1 4 4 2 (joinC false false (grL (grM m).toNat) (grL (grM n).toNat)) (cs1 4 6 1 (lrC false (grL (grM m).toNat)) (cs1 4 7 1 (lrC false (grL (grM n).toNat)) noCs)))))) noOp
def vcFull (m : Int) (n : Int) : Prop :=
  True ∧ True ∧ (True ∧ m = m ∧ True) ∧ True ∧ (True ∧ n = n ∧ True) ∧ True ∧ ((false = false ∧ List.length (grL (Int.toNat (grM m))) = List.length (grL (Int.toNat (grM m))) ∧ contLe (List.length (grL (Int.toNat (grM m)))) (5 : Nat) (Ax.rowAt (0 : Nat) (cellsOf' encR (grL (Int.toNat (grM m))))) (cellsOf' encR (grL (Int.toNat (grM m))))) ∧ (false = false ∧ List.length (grL (Int.toNat (grM n))) = List.length (grL (Int.toNat (grM n))) ∧ contLe (List.length (grL (Int.toNat (grM n)))) (5 : Nat) (Ax.rowAt (0 : Nat) (cellsOf' encR (grL (Int.toNat (grM n))))) (cellsOf' encR (grL (Int.toNat (grM n))))) ∧ True) ∧ True ∧ (List.length (grL (Int.toNat (grM m))) ≤ (4611686018427387903 : Nat) ∧ List.length (grL (Int.toNat (grM n))) ≤ (4611686018427387903 : Nat)) ∧ ((isLog (grL (Int.toNat (grM m))) && isLog (grL (Int.toNat (grM n)))) = true → (decide (List.length (grL (Int.toNat (grM m))) + List.length (grL (Int.toNat (grM n))) ≤ (4096 : Nat)) = true → (Option.isSome (Jo.run (jo0 (grL (Int.toNat (grM m))) (grL (Int.toNat (grM n))))) = true → true = true ∧ ((∀ (k : Nat), k < List.length (Option.getD (Jo.run (jo0 (grL (Int.toNat (grM m))) (grL (Int.toNat (grM n))))) (jo0 (grL (Int.toNat (grM m))) (grL (Int.toNat (grM n))))).out → ∀ (j : Nat), j < (5 : Nat) → tagT (cellsOf' encR (Option.getD (Jo.run (jo0 (grL (Int.toNat (grM m))) (grL (Int.toNat (grM n))))) (jo0 (grL (Int.toNat (grM m))) (grL (Int.toNat (grM n))))).out k j) = true) ∧ (∀ (k : Nat), k < List.length ((Option.getD (Jo.run (jo0 (grL (Int.toNat (grM m))) (grL (Int.toNat (grM n))))) (jo0 (grL (Int.toNat (grM m))) (grL (Int.toNat (grM n))))).ta ++ [Jo.at (Option.getD (Jo.run (jo0 (grL (Int.toNat (grM m))) (grL (Int.toNat (grM n))))) (jo0 (grL (Int.toNat (grM m))) (grL (Int.toNat (grM n)))))]) → ∀ (j : Nat), j < (1 : Nat) → tagT (cellsOf' encU ((Option.getD (Jo.run (jo0 (grL (Int.toNat (grM m))) (grL (Int.toNat (grM n))))) (jo0 (grL (Int.toNat (grM m))) (grL (Int.toNat (grM n))))).ta ++ [Jo.at (Option.getD (Jo.run (jo0 (grL (Int.toNat (grM m))) (grL (Int.toNat (grM n))))) (jo0 (grL (Int.toNat (grM m))) (grL (Int.toNat (grM n)))))]) k j) = true) ∧ (∀ (k : Nat), k < List.length ((Option.getD (Jo.run (jo0 (grL (Int.toNat (grM m))) (grL (Int.toNat (grM n))))) (jo0 (grL (Int.toNat (grM m))) (grL (Int.toNat (grM n))))).tb ++ [Jo.at (Option.getD (Jo.run (jo0 (grL (Int.toNat (grM m))) (grL (Int.toNat (grM n))))) (jo0 (grL (Int.toNat (grM m))) (grL (Int.toNat (grM n)))))]) → ∀ (j : Nat), j < (1 : Nat) → tagT (cellsOf' encU ((Option.getD (Jo.run (jo0 (grL (Int.toNat (grM m))) (grL (Int.toNat (grM n))))) (jo0 (grL (Int.toNat (grM m))) (grL (Int.toNat (grM n))))).tb ++ [Jo.at (Option.getD (Jo.run (jo0 (grL (Int.toNat (grM m))) (grL (Int.toNat (grM n))))) (jo0 (grL (Int.toNat (grM m))) (grL (Int.toNat (grM n)))))]) k j) = true) ∧ True) ∧ ((false = false ∧ List.length (grL (Int.toNat (grM m))) = List.length (grL (Int.toNat (grM m))) ∧ contLe (List.length (grL (Int.toNat (grM m)))) (5 : Nat) (Ax.rowAt (0 : Nat) (cellsOf' encR (grL (Int.toNat (grM m))))) (cellsOf' encR (grL (Int.toNat (grM m))))) ∧ True) ∧ True ∧ List.length (grL (Int.toNat (grM m))) ≤ (9223372036854775806 : Nat) ∧ true = true ∧ True ∧ ((false = false ∧ List.length (grL (Int.toNat (grM n))) = List.length (grL (Int.toNat (grM n))) ∧ contLe (List.length (grL (Int.toNat (grM n)))) (5 : Nat) (Ax.rowAt (0 : Nat) (cellsOf' encR (grL (Int.toNat (grM n))))) (cellsOf' encR (grL (Int.toNat (grM n))))) ∧ True) ∧ True ∧ List.length (grL (Int.toNat (grM n))) ≤ (9223372036854775806 : Nat) ∧ true = true ∧ True ∧ ((!isLog (grL (Int.toNat (grM m)))) = true → (true = true → false = true ∧ True) ∧ (true = false → false = true ∧ True)) ∧ ((!isLog (grL (Int.toNat (grM m)))) = false → ((!isLog (grL (Int.toNat (grM n)))) = true → (true = true → false = true ∧ True) ∧ (true = false → false = true ∧ True)) ∧ ((!isLog (grL (Int.toNat (grM n)))) = false → (decide ((4096 : Int) < IntKind.wrap IntKind.i64 ((↑(List.length (grL (Int.toNat (grM m)))) : Int) + (↑(List.length (grL (Int.toNat (grM n)))) : Int))) = true → (true = true → false = true ∧ True) ∧ (true = false → false = true ∧ True)) ∧ (decide ((4096 : Int) < IntKind.wrap IntKind.i64 ((↑(List.length (grL (Int.toNat (grM m)))) : Int) + (↑(List.length (grL (Int.toNat (grM n)))) : Int))) = false → (true = true → true = true ∧ True) ∧ (true = false → false = true ∧ True))))) ∧ (Option.isSome (Jo.run (jo0 (grL (Int.toNat (grM m))) (grL (Int.toNat (grM n))))) = false → true = true ∧ True ∧ ((false = false ∧ List.length (grL (Int.toNat (grM m))) = List.length (grL (Int.toNat (grM m))) ∧ contLe (List.length (grL (Int.toNat (grM m)))) (5 : Nat) (Ax.rowAt (0 : Nat) (cellsOf' encR (grL (Int.toNat (grM m))))) (cellsOf' encR (grL (Int.toNat (grM m))))) ∧ True) ∧ True ∧ List.length (grL (Int.toNat (grM m))) ≤ (9223372036854775806 : Nat) ∧ true = true ∧ True ∧ ((false = false ∧ List.length (grL (Int.toNat (grM n))) = List.length (grL (Int.toNat (grM n))) ∧ contLe (List.length (grL (Int.toNat (grM n)))) (5 : Nat) (Ax.rowAt (0 : Nat) (cellsOf' encR (grL (Int.toNat (grM n))))) (cellsOf' encR (grL (Int.toNat (grM n))))) ∧ True) ∧ True ∧ List.length (grL (Int.toNat (grM n))) ≤ (9223372036854775806 : Nat) ∧ true = true ∧ True ∧ ((!isLog (grL (Int.toNat (grM m)))) = true → (true = true → false = true ∧ True) ∧ (true = false → false = true ∧ True)) ∧ ((!isLog (grL (Int.toNat (grM m)))) = false → ((!isLog (grL (Int.toNat (grM n)))) = true → (true = true → false = true ∧ True) ∧ (true = false → false = true ∧ True)) ∧ ((!isLog (grL (Int.toNat (grM n)))) = false → (decide ((4096 : Int) < IntKind.wrap IntKind.i64 ((↑(List.length (grL (Int.toNat (grM m)))) : Int) + (↑(List.length (grL (Int.toNat (grM n)))) : Int))) = true → (true = true → false = true ∧ True) ∧ (true = false → false = true ∧ True)) ∧ (decide ((4096 : Int) < IntKind.wrap IntKind.i64 ((↑(List.length (grL (Int.toNat (grM m)))) : Int) + (↑(List.length (grL (Int.toNat (grM n)))) : Int))) = false → (true = true → false = true ∧ True) ∧ (true = false → false = true ∧ True)))))) ∧ (decide (List.length (grL (Int.toNat (grM m))) + List.length (grL (Int.toNat (grM n))) ≤ (4096 : Nat)) = false → true = true ∧ True ∧ ((false = false ∧ List.length (grL (Int.toNat (grM m))) = List.length (grL (Int.toNat (grM m))) ∧ contLe (List.length (grL (Int.toNat (grM m)))) (5 : Nat) (Ax.rowAt (0 : Nat) (cellsOf' encR (grL (Int.toNat (grM m))))) (cellsOf' encR (grL (Int.toNat (grM m))))) ∧ True) ∧ True ∧ List.length (grL (Int.toNat (grM m))) ≤ (9223372036854775806 : Nat) ∧ true = true ∧ True ∧ ((false = false ∧ List.length (grL (Int.toNat (grM n))) = List.length (grL (Int.toNat (grM n))) ∧ contLe (List.length (grL (Int.toNat (grM n)))) (5 : Nat) (Ax.rowAt (0 : Nat) (cellsOf' encR (grL (Int.toNat (grM n))))) (cellsOf' encR (grL (Int.toNat (grM n))))) ∧ True) ∧ True ∧ List.length (grL (Int.toNat (grM n))) ≤ (9223372036854775806 : Nat) ∧ true = true ∧ True ∧ ((!isLog (grL (Int.toNat (grM m)))) = true → (true = true → false = true ∧ True) ∧ (true = false → false = true ∧ True)) ∧ ((!isLog (grL (Int.toNat (grM m)))) = false → ((!isLog (grL (Int.toNat (grM n)))) = true → (true = true → false = true ∧ True) ∧ (true = false → false = true ∧ True)) ∧ ((!isLog (grL (Int.toNat (grM n)))) = false → (decide ((4096 : Int) < IntKind.wrap IntKind.i64 ((↑(List.length (grL (Int.toNat (grM m)))) : Int) + (↑(List.length (grL (Int.toNat (grM n)))) : Int))) = true → (true = true → true = true ∧ True) ∧ (true = false → false = true ∧ True)) ∧ (decide ((4096 : Int) < IntKind.wrap IntKind.i64 ((↑(List.length (grL (Int.toNat (grM m)))) : Int) + (↑(List.length (grL (Int.toNat (grM n)))) : Int))) = false → (true = true → false = true ∧ True) ∧ (true = false → false = true ∧ True)))))) ∧ ((isLog (grL (Int.toNat (grM m))) && isLog (grL (Int.toNat (grM n)))) = false → true = true ∧ True ∧ ((false = false ∧ List.length (grL (Int.toNat (grM m))) = List.length (grL (Int.toNat (grM m))) ∧ contLe (List.length (grL (Int.toNat (grM m)))) (5 : Nat) (Ax.rowAt (0 : Nat) (cellsOf' encR (grL (Int.toNat (grM m))))) (cellsOf' encR (grL (Int.toNat (grM m))))) ∧ True) ∧ True ∧ List.length (grL (Int.toNat (grM m))) ≤ (9223372036854775806 : Nat) ∧ true = true ∧ True ∧ ((false = false ∧ List.length (grL (Int.toNat (grM n))) = List.length (grL (Int.toNat (grM n))) ∧ contLe (List.length (grL (Int.toNat (grM n)))) (5 : Nat) (Ax.rowAt (0 : Nat) (cellsOf' encR (grL (Int.toNat (grM n))))) (cellsOf' encR (grL (Int.toNat (grM n))))) ∧ True) ∧ True ∧ List.length (grL (Int.toNat (grM n))) ≤ (9223372036854775806 : Nat) ∧ true = true ∧ True ∧ ((!isLog (grL (Int.toNat (grM m)))) = true → (true = true → true = true ∧ True) ∧ (true = false → false = true ∧ True)) ∧ ((!isLog (grL (Int.toNat (grM m)))) = false → ((!isLog (grL (Int.toNat (grM n)))) = true → (true = true → true = true ∧ True) ∧ (true = false → false = true ∧ True)) ∧ ((!isLog (grL (Int.toNat (grM n)))) = false → (decide ((4096 : Int) < IntKind.wrap IntKind.i64 ((↑(List.length (grL (Int.toNat (grM m)))) : Int) + (↑(List.length (grL (Int.toNat (grM n)))) : Int))) = true → (true = true → false = true ∧ True) ∧ (true = false → false = true ∧ True)) ∧ (decide ((4096 : Int) < IntKind.wrap IntKind.i64 ((↑(List.length (grL (Int.toNat (grM m)))) : Int) + (↑(List.length (grL (Int.toNat (grM n)))) : Int))) = false → (true = true → false = true ∧ True) ∧ (true = false → false = true ∧ True)))))
set_option maxRecDepth 1000000 in
theorem vcFull_eq (m : Int) (n : Int) : (ctrVC Tryd.prog (flH m n) 4 [.y (.int .u16 m), .y (.int .u16 n)] [] (boolR true)) = vcFull m n := by kernel_rfl
/-! numbers that do not go down -/
def upL (l : List Rec) : Prop := l.Pairwise fun x y => x.seq ≤ y.seq
theorem low_up {l : List Rec} {x : Rec} (hp : ∀ y ∈ l, y.prod = x.prod) (hu : upL l) : lowR l x = (!l.isEmpty && decide ((hd l).seq < x.seq)) := by
  cases l with
  | nil => rfl
  | cons y r =>
    rw [Bool.eq_iff_iff]
    simp only [lowR, List.any_eq_true, below, Bool.and_eq_true, beq_iff_eq, decide_eq_true_eq, List.isEmpty_cons, Bool.not_false, true_and]
    constructor
    · rintro ⟨z, hz, _, h⟩
      have : y.seq ≤ z.seq := by
        rcases List.mem_cons.1 hz with rfl | hz
        · exact Int.le_refl _
        · exact List.rel_of_pairwise_cons hu hz
      show y.seq < x.seq
      omega
    · intro h
      exact ⟨y, List.mem_cons_self, hp y List.mem_cons_self, h⟩
theorem run_up : ∀ (n : Nat) (s : Jo) (p : Int), s.a.length + s.b.length = n → (∀ x ∈ s.a, x.prod = p) → (∀ x ∈ s.b, x.prod = p) → upL s.a → upL s.b → (joinN n s).isSome = true
  | 0, _, _, _, _, _, _, _ => rfl
  | n + 1, s, p, hn, ha, hb, ua, ub => by
    rw [joinN]
    have lb : lowR s.b (hd s.a) = (!s.b.isEmpty && decide ((hd s.b).seq < (hd s.a).seq)) ∨ s.a = [] := by
      rcases Nat.eq_zero_or_pos s.a.length with h | h
      · exact .inr (List.length_eq_zero_iff.1 h)
      · exact .inl (low_up (fun y hy => (hb y hy).trans (ha _ (hd_mem h)).symm) ub)
    have la : lowR s.a (hd s.b) = (!s.a.isEmpty && decide ((hd s.a).seq < (hd s.b).seq)) ∨ s.b = [] := by
      rcases Nat.eq_zero_or_pos s.b.length with h | h
      · exact .inr (List.length_eq_zero_iff.1 h)
      · exact .inl (low_up (fun y hy => (ha y hy).trans (hb _ (hd_mem h)).symm) ua)
    cases hA : s.tA
    · rw [if_neg (by simp)]
      cases hB : s.tB
      · exfalso
        have h1 : s.a = [] ∨ lowR s.b (hd s.a) = true := by unfold Jo.tA at hA; cases ha : s.a <;> simp [ha] at hA ⊢; exact hA
        have h2 : s.b = [] ∨ lowR s.a (hd s.b) = true := by unfold Jo.tB at hB; cases hb : s.b <;> simp [hb] at hB ⊢; exact hB
        rcases Nat.eq_zero_or_pos s.a.length with h | h
        · have ha' := List.length_eq_zero_iff.1 h
          have hb' : s.b ≠ [] := by intro e; rw [ha', e] at hn; simp at hn
          have := h2.resolve_left hb'
          rw [ha'] at this; simp [lowR] at this
        · have ha' : s.a ≠ [] := List.ne_nil_of_length_pos h
          have h1 := h1.resolve_left ha'
          have lb := lb.resolve_right ha'
          rcases h2 with hb' | h2
          · rw [hb'] at h1; simp [lowR] at h1
          · have hb' : s.b ≠ [] := by intro e; rw [e] at h1; simp [lowR] at h1
            have la := la.resolve_right hb'
            rw [h1] at lb
            rw [h2] at la
            simp at lb la
            omega
      · rw [if_pos rfl]
        have hne : s.b ≠ [] := by unfold Jo.tB at hB; intro e; rw [e] at hB; simp at hB
        obtain ⟨x, r, hx⟩ := List.exists_cons_of_ne_nil hne
        exact run_up n _ p (by simp [Jo.goB, hx] at hn ⊢; omega) ha (fun y hy => hb y (List.mem_of_mem_tail hy)) ua (by unfold upL at ub ⊢; exact ub.tail)
    · rw [if_pos rfl]
      have hne : s.a ≠ [] := by unfold Jo.tA at hA; intro e; rw [e] at hA; simp at hA
      obtain ⟨x, r, hx⟩ := List.exists_cons_of_ne_nil hne
      exact run_up n _ p (by simp [Jo.goA, hx] at hn ⊢; omega) (fun y hy => ha y (List.mem_of_mem_tail hy)) hb (by unfold upL at ua ⊢; exact ua.tail) ub
theorem gr_log (n : Nat) : isLog (grL n) = decide (n ≤ 4096) := by
  unfold isLog
  have : logFrom (grL n) 0 = true := by
    unfold logFrom
    rw [List.all_eq_true]
    intro j hj
    simp [gr_len] at hj
    rw [gr_at hj]
    have hk : kB.size = 1 := rfl
    simp [okR, grR, hk]
  rw [this, gr_len, Bool.true_and]
theorem gr_run (n m : Nat) (h : n + m ≤ 4096) : (jo0 (grL n) (grL m)).run.isSome = true := by
  have key : ∀ n, n ≤ 4096 → upL (grL n) := by
    intro n hn
    unfold upL grL
    rw [List.pairwise_map]
    have := List.pairwise_lt_range (n := n)
    refine List.Pairwise.imp_of_mem ?_ this
    intro a b ha hb hab
    have h1 := List.mem_range.1 ha
    have h2 := List.mem_range.1 hb
    show IntKind.u64.wrap a ≤ IntKind.u64.wrap b
    rw [wrap_u64 (by omega) (by omega), wrap_u64 (by omega) (by omega)]
    omega
  have pr : ∀ n, ∀ x ∈ grL n, x.prod = 9 := by
    intro n x hx
    unfold grL at hx
    obtain ⟨i, _, rfl⟩ := List.mem_map.1 hx
    rfl
  exact run_up _ _ 9 rfl (pr n) (pr m) (key n (by omega)) (key m (by omega))
theorem tagR (x : Rec) (j : Nat) (hj : j < 5) : tagT (Ax.get (encR x) j) = true := by
  match j, hj with
  | 0, _ => rfl
  | 1, _ => rfl
  | 2, _ => rfl
  | 3, _ => rfl
  | 4, _ => rfl
theorem full_c (m n : Int) : (boolR true).Sat (ACall' Tryd.prog 4 [.y (.int .u16 m), .y (.int .u16 n)] []) := by
  refine ctr_vc (ht := flH m n) Tryd.mixed rfl ?_
  rw [vcFull_eq m n]
  unfold vcFull
  have h1 := grM_le m
  have h2 := grM_le n
  simp only [gr_log, gr_len]
  generalize hN : (grM m).toNat = N
  generalize hM : (grM n).toNat = M
  have hw : IntKind.i64.wrap ((N : Int) + M) = (N : Int) + M := wrap_i64 (by omega) (by omega)
  simp only [hw]
  have hrun := gr_run N M
  by_cases a1 : N ≤ 4096
  · by_cases a2 : M ≤ 4096
    · by_cases a3 : N + M ≤ 4096
      · have a4 : ¬ ((4096 : Int) < (N : Int) + M) := by omega
        simp [a1, a2, a3, a4, hrun a3]
        exact ⟨⟨by omega, by omega⟩, ⟨fun k _ j hj => tagR _ j hj, fun _ _ => rfl, fun _ _ => rfl⟩, by omega, by omega⟩
      · have a4 : ((4096 : Int) < (N : Int) + M) := by omega
        simp [a1, a2, a3, a4]
        omega
    · simp [a1, a2]
      omega
  · simp [a1]
    omega
end Go.Proofs.YtjmdejbijigfjaaDoor

/-! Records: what is kept of a log. -/
namespace Go.Proofs.YtjmdejbijigfjaaDoor
open Go.Ax
set_option maxRecDepth 1000000
noncomputable def hasC (r : Rng) (k : ByteArray) : Ctr Tryd.prog := ⟨28, [.agg (encG r), .y (.string k)], [], boolR (hasK r k), has_c r k⟩
noncomputable def has2C (r : Rng) (k : ByteArray) : Ctr Tryd.prog := ⟨51, [.agg (encG r), .y (.string k)], [], boolR (hasK r k), has2_c r k⟩
structure Ke where
  (out : List Rec) (to : List Int)
def Ke.step (r : Rng) (s : Ke) (x : Rec) : Ke := ⟨if hasK r x.key then s.out ++ [x.to (IntKind.u64.wrap (s.out.length : Nat))] else s.out, s.to ++ [IntKind.u64.wrap (s.out.length : Nat)]⟩
def ke (r : Rng) (l : List Rec) : Ke := l.foldl (Ke.step r) ⟨[], []⟩
theorem ke_step {r : Rng} {l : List Rec} {k : Nat} (h : k < l.length) : ke r (l.take (k + 1)) = (ke r (l.take k)).step r (l.getD k default) := by
  unfold ke
  rw [List.take_add_one, List.foldl_append, List.getElem?_eq_getElem h]
  simp [List.getElem?_eq_getElem h]
def kpM (r : Rng) (s : Ke) : List Blk := [.box 47 (encG r), rowR s.out, rowU s.to]
def kpT (b : Bool) (l : List Rec) (s : Ke) (k : Nat) : List AV := mkT 53 [(3, .ptr 0 0 0 0), (6, .own 1 5 0 s.out.length), (7, .own 2 1 0 s.to.length), (22, encRs b l), (23, .y (.int .i64 l.length)), (24, .y (.int .i64 k))]
def kpS (r : Rng) (s : Ke) (_ : Unit) : Exit × List AV × List Blk := (.exit 0, mkT 53 [(6, .own 1 5 0 s.out.length), (7, .own 2 1 0 s.to.length)], kpM r s)
noncomputable def kpH (r : Rng) (l : List Rec) (k : Nat) : HintsT Tryd.prog := hh _ noLp (cs1 23 9 3 (hasC r (l.getD k default).key) (cs1 23 10 4 (ownC (l.getD k default) (ke r (l.take k)).out.length) noCs)) noOp
def vcKpL (b : Bool) (r : Rng) (l : List Rec) (k : Nat) : Prop :=
  (decide ((↑k : Int) < (↑(List.length l) : Int)) = true → (true && decide ((↑k : Int) < (↑(List.length l) : Int))) = true ∧ (decide (List.length (ke r (List.take k l)).to = List.length (ke r (List.take k l)).to) && decide (List.length (ke r (List.take k l)).to + (1 : Nat) ≤ (9223372036854775807 : Nat)) && decide ((List.length (ke r (List.take k l)).to + (1 : Nat)) * (8 : Nat) ≤ (140737488355328 : Nat))) = true ∧ ((r.lo = r.lo ∧ r.hi = r.hi ∧ True) ∧ (List.getD l (Int.toNat (↑k : Int)) (@default Rec instInhabitedRec)).key = (List.getD l k (@default Rec instInhabitedRec)).key ∧ True) ∧ True ∧ (hasK r (List.getD l k (@default Rec instInhabitedRec)).key = true → (((List.getD l (Int.toNat (↑k : Int)) (@default Rec instInhabitedRec)).off = (List.getD l k (@default Rec instInhabitedRec)).off ∧ (List.getD l (Int.toNat (↑k : Int)) (@default Rec instInhabitedRec)).key = (List.getD l k (@default Rec instInhabitedRec)).key ∧ (true = true ∧ List.length (List.getD l (Int.toNat (↑k : Int)) (@default Rec instInhabitedRec)).val = List.length (List.getD l k (@default Rec instInhabitedRec)).val ∧ contLe (List.length (List.getD l (Int.toNat (↑k : Int)) (@default Rec instInhabitedRec)).val) (1 : Nat) (cellsOf' encB (List.getD l (Int.toNat (↑k : Int)) (@default Rec instInhabitedRec)).val) (cellsOf' encB (List.getD l k (@default Rec instInhabitedRec)).val)) ∧ (List.getD l (Int.toNat (↑k : Int)) (@default Rec instInhabitedRec)).prod = (List.getD l k (@default Rec instInhabitedRec)).prod ∧ (List.getD l (Int.toNat (↑k : Int)) (@default Rec instInhabitedRec)).seq = (List.getD l k (@default Rec instInhabitedRec)).seq ∧ True) ∧ (↑(List.length (ke r (List.take k l)).out) : Int) = (↑(List.length (ke r (List.take k l)).out) : Int) ∧ True) ∧ True ∧ List.length (List.getD l k (@default Rec instInhabitedRec)).val ≤ (140737488355328 : Nat) ∧ (decide (List.length (ke r (List.take k l)).out = List.length (ke r (List.take k l)).out) && decide (List.length (ke r (List.take k l)).out + (1 : Nat) ≤ (9223372036854775807 : Nat)) && decide ((List.length (ke r (List.take k l)).out + (1 : Nat)) * (64 : Nat) ≤ (140737488355328 : Nat))) = true ∧ ∃ (j : Nat), List.length l - j < List.length l - k ∧ ((((0 : Nat) = (0 : Nat) ∧ (0 : Nat) = (0 : Nat)) ∧ ((0 : Nat) = (0 : Nat) ∧ List.length (ke r (List.take k l)).out + (1 : Nat) = List.length (ke r (List.take j l)).out) ∧ ((0 : Nat) = (0 : Nat) ∧ List.length (ke r (List.take k l)).to + (1 : Nat) = List.length (ke r (List.take j l)).to) ∧ (b = b ∧ List.length l = List.length l ∧ contLe (List.length l) (5 : Nat) (cellsOf' encR l) (cellsOf' encR l)) ∧ (↑(List.length l) : Int) = (↑(List.length l) : Int) ∧ IntKind.wrap IntKind.i64 ((↑k : Int) + (1 : Int)) = (↑j : Int) ∧ True) ∧ ((r.lo = r.lo ∧ r.hi = r.hi ∧ True) ∧ (List.length (ke r (List.take k l)).out + (1 : Nat) = List.length (ke r (List.take j l)).out ∧ contLe (List.length (ke r (List.take k l)).out + (1 : Nat)) (5 : Nat) (appRow (List.length (ke r (List.take k l)).out) (cellsOf' encR (ke r (List.take k l)).out) fun (k_1 j : Nat) => Ax.get [AV.y (Value.int IntKind.u64 (IntKind.wrap IntKind.u64 (↑(List.length (ke r (List.take k l)).out) : Int))), AV.y (Value.string (List.getD l k (@default Rec instInhabitedRec)).key), AV.ys true (1 : Nat) (List.length (List.getD l k (@default Rec instInhabitedRec)).val) (cellsOf' encB (List.getD l k (@default Rec instInhabitedRec)).val), AV.y (Value.int IntKind.u64 (List.getD l k (@default Rec instInhabitedRec)).prod), AV.y (Value.int IntKind.u64 (List.getD l k (@default Rec instInhabitedRec)).seq)] (k_1 * (5 : Nat) + j)) (cellsOf' encR (ke r (List.take j l)).out)) ∧ (List.length (ke r (List.take k l)).to + (1 : Nat) = List.length (ke r (List.take j l)).to ∧ contLe (List.length (ke r (List.take k l)).to + (1 : Nat)) (1 : Nat) (appRow (List.length (ke r (List.take k l)).to) (cellsOf' encU (ke r (List.take k l)).to) fun (k_1 j : Nat) => Ax.get [AV.y (Value.int IntKind.u64 (IntKind.wrap IntKind.u64 (↑(List.length (ke r (List.take k l)).out) : Int)))] (k_1 * (1 : Nat) + j)) (cellsOf' encU (ke r (List.take j l)).to)) ∧ True) ∧ true = true) ∧ true = true ∧ () = ()) ∧ (hasK r (List.getD l k (@default Rec instInhabitedRec)).key = false → ∃ (j : Nat), List.length l - j < List.length l - k ∧ ((((0 : Nat) = (0 : Nat) ∧ (0 : Nat) = (0 : Nat)) ∧ ((0 : Nat) = (0 : Nat) ∧ List.length (ke r (List.take k l)).out = List.length (ke r (List.take j l)).out) ∧ ((0 : Nat) = (0 : Nat) ∧ List.length (ke r (List.take k l)).to + (1 : Nat) = List.length (ke r (List.take j l)).to) ∧ (b = b ∧ List.length l = List.length l ∧ contLe (List.length l) (5 : Nat) (cellsOf' encR l) (cellsOf' encR l)) ∧ (↑(List.length l) : Int) = (↑(List.length l) : Int) ∧ IntKind.wrap IntKind.i64 ((↑k : Int) + (1 : Int)) = (↑j : Int) ∧ True) ∧ ((r.lo = r.lo ∧ r.hi = r.hi ∧ True) ∧ (List.length (ke r (List.take k l)).out = List.length (ke r (List.take j l)).out ∧ contLe (List.length (ke r (List.take k l)).out) (5 : Nat) (cellsOf' encR (ke r (List.take k l)).out) (cellsOf' encR (ke r (List.take j l)).out)) ∧ (List.length (ke r (List.take k l)).to + (1 : Nat) = List.length (ke r (List.take j l)).to ∧ contLe (List.length (ke r (List.take k l)).to + (1 : Nat)) (1 : Nat) (appRow (List.length (ke r (List.take k l)).to) (cellsOf' encU (ke r (List.take k l)).to) fun (k_1 j : Nat) => Ax.get [AV.y (Value.int IntKind.u64 (IntKind.wrap IntKind.u64 (↑(List.length (ke r (List.take k l)).out) : Int)))] (k_1 * (1 : Nat) + j)) (cellsOf' encU (ke r (List.take j l)).to)) ∧ True) ∧ true = true) ∧ true = true ∧ () = ())) ∧ (decide ((↑k : Int) < (↑(List.length l) : Int)) = false → (((0 : Nat) = (0 : Nat) ∧ List.length (ke r (List.take k l)).out = List.length (ke r l).out) ∧ ((0 : Nat) = (0 : Nat) ∧ List.length (ke r (List.take k l)).to = List.length (ke r l).to) ∧ True) ∧ ((r.lo = r.lo ∧ r.hi = r.hi ∧ True) ∧ (List.length (ke r (List.take k l)).out = List.length (ke r l).out ∧ contLe (List.length (ke r (List.take k l)).out) (5 : Nat) (cellsOf' encR (ke r (List.take k l)).out) (cellsOf' encR (ke r l).out)) ∧ (List.length (ke r (List.take k l)).to = List.length (ke r l).to ∧ contLe (List.length (ke r (List.take k l)).to) (1 : Nat) (cellsOf' encU (ke r (List.take k l)).to) (cellsOf' encU (ke r l).to)) ∧ True) ∧ true = true)
set_option maxRecDepth 1000000 in
theorem vcKpL_eq (b : Bool) (r : Rng) (l : List Rec) (k : Nat) : (loopVC Tryd.prog (kpH r l k) 23 6 (fun k => l.length - k) (fun k => kpT b l (ke r (l.take k)) k) (fun k => kpM r (ke r (l.take k))) jX (fun _ => .ret ()) (kpS r (ke r l)) k) = vcKpL b r l k := by kernel_rfl
def keR (s : Ke) : T An := .ret (.tup [.own 0 5 0 s.out.length, .own 1 1 0 s.to.length], [rowR s.out, rowU s.to], [])
def Ke.end (s : Ke) : Ke := ⟨s.out, s.to ++ [IntKind.u64.wrap (s.out.length : Nat)]⟩
def keT (r : Rng) (l : List Rec) : T An := .ite (isLog l && chkK r == 0) (keR (ke r l).end) (.ret (.tup [.s (.slice none 0 0), .s (.slice none 0 0)], [], []))
noncomputable def keH (b : Bool) (r : Rng) (l : List Rec) : HintsT Tryd.prog := hh _ (lp1 23 6 (jobOf (fun k => kpT b l (ke r (l.take k)) k) (fun k => kpM r (ke r (l.take k))) jX (fun _ => .ret ()) (kpS r (ke r l)) 0) noLp) (cs1 23 1 1 (lgC b l) (cs1 23 1 5 (chkC r) noCs)) (op1 23 3 0 (.row 27 5) noOp)
def vcKeep (b : Bool) (r : Rng) (l : List Rec) : Prop :=
  ((b = b ∧ List.length l = List.length l ∧ contLe (List.length l) (5 : Nat) (cellsOf' encR l) (cellsOf' encR l)) ∧ True) ∧ True ∧ List.length l ≤ (9223372036854775806 : Nat) ∧ ((!isLog l) = true → ((isLog l && chkK r == (0 : Int)) = true → (False ∧ False ∧ True) ∧ False) ∧ ((isLog l && chkK r == (0 : Int)) = false → (True ∧ True ∧ True) ∧ True)) ∧ ((!isLog l) = false → ((r.lo = r.lo ∧ r.hi = r.hi ∧ True) ∧ True) ∧ True ∧ ((chkK r != (0 : Int)) = true → ((isLog l && chkK r == (0 : Int)) = true → (False ∧ False ∧ True) ∧ False) ∧ ((isLog l && chkK r == (0 : Int)) = false → (True ∧ True ∧ True) ∧ True)) ∧ ((chkK r != (0 : Int)) = false → (0 : Int) ≤ (0 : Int) ∧ (0 : Int) ≤ IntKind.wrap IntKind.i64 ((↑(List.length l) : Int) + (1 : Int)) ∧ (8 : Int) * IntKind.wrap IntKind.i64 ((↑(List.length l) : Int) + (1 : Int)) ≤ (281474976710656 : Int) ∧ IntKind.wrap IntKind.i64 ((↑(List.length l) : Int) + (1 : Int)) ≤ (9223372036854775807 : Int) ∧ ((((0 : Nat) = (0 : Nat) ∧ (0 : Nat) = (0 : Nat)) ∧ ((0 : Nat) = (0 : Nat) ∧ (0 : Nat) = (0 : Nat)) ∧ ((0 : Nat) = (0 : Nat) ∧ (0 : Nat) = (0 : Nat)) ∧ (b = b ∧ List.length l = List.length l ∧ contLe (List.length l) (5 : Nat) (cellsOf' encR l) (cellsOf' encR l)) ∧ (↑(List.length l) : Int) = (↑(List.length l) : Int) ∧ (0 : Int) = (0 : Int) ∧ True) ∧ ((r.lo = r.lo ∧ r.hi = r.hi ∧ True) ∧ ((0 : Nat) = (0 : Nat) ∧ contLe (0 : Nat) (5 : Nat) (fun (x x_1 : Nat) => AV.junk) (cellsOf' encR [])) ∧ ((0 : Nat) = (0 : Nat) ∧ contLe (0 : Nat) (1 : Nat) (fun (x j : Nat) => Ax.get [AV.s (Value.int IntKind.u64 (0 : Int))] j) (cellsOf' encU [])) ∧ True) ∧ true = true) ∧ LoopOk Tryd.prog (23 : Nat) (6 : Nat) (loopAt Tryd.prog (23 : Nat) (6 : Nat)) { t := kpT b l (ke r (List.take (0 : Nat) l)) (0 : Nat), m := kpM r (ke r (List.take (0 : Nat) l)), mv := [] : St } (T.map (lout jX (kpS r (ke r l))) ((fun (x : Nat) => T.ret ()) (0 : Nat))) ∧ (decide (List.length (ke r l).to = List.length (ke r l).to) && decide (List.length (ke r l).to + (1 : Nat) ≤ (9223372036854775807 : Nat)) && decide ((List.length (ke r l).to + (1 : Nat)) * (8 : Nat) ≤ (140737488355328 : Nat))) = true ∧ ((isLog l && chkK r == (0 : Int)) = true → (((0 : Nat) = (0 : Nat) ∧ List.length (ke r l).out = List.length (ke r l).out) ∧ ((0 : Nat) = (0 : Nat) ∧ List.length (ke r l).to + (1 : Nat) = List.length ((ke r l).to ++ [IntKind.wrap IntKind.u64 (↑(List.length (ke r l).out) : Int)])) ∧ True) ∧ (List.length (ke r l).out = List.length (ke r l).out ∧ contLe (List.length (ke r l).out) (5 : Nat) (cellsOf' encR (ke r l).out) (cellsOf' encR (ke r l).out)) ∧ (List.length (ke r l).to + (1 : Nat) = List.length ((ke r l).to ++ [IntKind.wrap IntKind.u64 (↑(List.length (ke r l).out) : Int)]) ∧ contLe (List.length (ke r l).to + (1 : Nat)) (1 : Nat) (appRow (List.length (ke r l).to) (cellsOf' encU (ke r l).to) fun (k j : Nat) => Ax.get [AV.y (Value.int IntKind.u64 (IntKind.wrap IntKind.u64 (↑(List.length (ke r l).out) : Int)))] (k * (1 : Nat) + j)) (cellsOf' encU ((ke r l).to ++ [IntKind.wrap IntKind.u64 (↑(List.length (ke r l).out) : Int)]))) ∧ True) ∧ ((isLog l && chkK r == (0 : Int)) = false → False)))
set_option maxRecDepth 1000000 in
theorem vcKeep_eq (b : Bool) (r : Rng) (l : List Rec) : (ctrVC Tryd.prog (keH b r l) 23 [encRs b l, .agg (encG r)] [] (keT r l)) = vcKeep b r l := by kernel_rfl
def krT (b : Bool) (l : List Rec) (s : Ke) (k : Nat) : List AV := mkT 57 [(0, encRs b l), (3, .ptr 0 0 0 0), (7, .own 1 5 0 s.out.length), (8, .own 2 1 0 s.to.length), (9, .y (.int .i64 k))]
def krS (r : Rng) (s : Ke) (_ : Unit) : Exit × List AV × List Blk := (.exit 0, mkT 57 [(7, .own 1 5 0 s.out.length), (8, .own 2 1 0 s.to.length)], kpM r s)
noncomputable def krH (r : Rng) (l : List Rec) (k : Nat) : HintsT Tryd.prog := hh _ noLp (cs1 24 10 6 (has2C r (l.getD k default).key) (cs1 24 12 7 (atC (l.getD k default) (ke r (l.take k)).out.length) noCs)) noOp
def vcKrL (b : Bool) (r : Rng) (l : List Rec) (k : Nat) : Prop :=
  (decide ((↑k : Int) < (↑(List.length l) : Int)) = true → (decide (List.length (ke r (List.take k l)).to = List.length (ke r (List.take k l)).to) && decide (List.length (ke r (List.take k l)).to + (1 : Nat) ≤ (9223372036854775807 : Nat)) && decide ((List.length (ke r (List.take k l)).to + (1 : Nat)) * (8 : Nat) ≤ (140737488355328 : Nat))) = true ∧ (true && decide ((↑k : Int) < (↑(List.length l) : Int))) = true ∧ ((r.lo = r.lo ∧ r.hi = r.hi ∧ True) ∧ (List.getD l (Int.toNat (↑k : Int)) (@default Rec instInhabitedRec)).key = (List.getD l k (@default Rec instInhabitedRec)).key ∧ True) ∧ True ∧ (hasK r (List.getD l k (@default Rec instInhabitedRec)).key = true → (true && decide ((↑k : Int) < (↑(List.length l) : Int))) = true ∧ (((List.getD l (Int.toNat (↑k : Int)) (@default Rec instInhabitedRec)).off = (List.getD l k (@default Rec instInhabitedRec)).off ∧ (List.getD l (Int.toNat (↑k : Int)) (@default Rec instInhabitedRec)).key = (List.getD l k (@default Rec instInhabitedRec)).key ∧ (true = true ∧ List.length (List.getD l (Int.toNat (↑k : Int)) (@default Rec instInhabitedRec)).val = List.length (List.getD l k (@default Rec instInhabitedRec)).val ∧ contLe (List.length (List.getD l (Int.toNat (↑k : Int)) (@default Rec instInhabitedRec)).val) (1 : Nat) (cellsOf' encB (List.getD l (Int.toNat (↑k : Int)) (@default Rec instInhabitedRec)).val) (cellsOf' encB (List.getD l k (@default Rec instInhabitedRec)).val)) ∧ (List.getD l (Int.toNat (↑k : Int)) (@default Rec instInhabitedRec)).prod = (List.getD l k (@default Rec instInhabitedRec)).prod ∧ (List.getD l (Int.toNat (↑k : Int)) (@default Rec instInhabitedRec)).seq = (List.getD l k (@default Rec instInhabitedRec)).seq ∧ True) ∧ (↑(List.length (ke r (List.take k l)).out) : Int) = (↑(List.length (ke r (List.take k l)).out) : Int) ∧ True) ∧ True ∧ List.length (List.getD l k (@default Rec instInhabitedRec)).val ≤ (140737488355328 : Nat) ∧ (decide (List.length (ke r (List.take k l)).out = List.length (ke r (List.take k l)).out) && decide (List.length (ke r (List.take k l)).out + (1 : Nat) ≤ (9223372036854775807 : Nat)) && decide ((List.length (ke r (List.take k l)).out + (1 : Nat)) * (64 : Nat) ≤ (140737488355328 : Nat))) = true ∧ ∃ (j : Nat), List.length l - j < List.length l - k ∧ (((b = b ∧ List.length l = List.length l ∧ contLe (List.length l) (5 : Nat) (cellsOf' encR l) (cellsOf' encR l)) ∧ ((0 : Nat) = (0 : Nat) ∧ (0 : Nat) = (0 : Nat)) ∧ ((0 : Nat) = (0 : Nat) ∧ List.length (ke r (List.take k l)).out + (1 : Nat) = List.length (ke r (List.take j l)).out) ∧ ((0 : Nat) = (0 : Nat) ∧ List.length (ke r (List.take k l)).to + (1 : Nat) = List.length (ke r (List.take j l)).to) ∧ IntKind.wrap IntKind.i64 ((↑k : Int) + (1 : Int)) = (↑j : Int) ∧ True) ∧ ((r.lo = r.lo ∧ r.hi = r.hi ∧ True) ∧ (List.length (ke r (List.take k l)).out + (1 : Nat) = List.length (ke r (List.take j l)).out ∧ contLe (List.length (ke r (List.take k l)).out + (1 : Nat)) (5 : Nat) (appRow (List.length (ke r (List.take k l)).out) (cellsOf' encR (ke r (List.take k l)).out) fun (k_1 j : Nat) => Ax.get [AV.y (Value.int IntKind.u64 (IntKind.wrap IntKind.u64 (↑(List.length (ke r (List.take k l)).out) : Int))), AV.y (Value.string (List.getD l k (@default Rec instInhabitedRec)).key), AV.ys true (1 : Nat) (List.length (List.getD l k (@default Rec instInhabitedRec)).val) (cellsOf' encB (List.getD l k (@default Rec instInhabitedRec)).val), AV.y (Value.int IntKind.u64 (List.getD l k (@default Rec instInhabitedRec)).prod), AV.y (Value.int IntKind.u64 (List.getD l k (@default Rec instInhabitedRec)).seq)] (k_1 * (5 : Nat) + j)) (cellsOf' encR (ke r (List.take j l)).out)) ∧ (List.length (ke r (List.take k l)).to + (1 : Nat) = List.length (ke r (List.take j l)).to ∧ contLe (List.length (ke r (List.take k l)).to + (1 : Nat)) (1 : Nat) (appRow (List.length (ke r (List.take k l)).to) (cellsOf' encU (ke r (List.take k l)).to) fun (k_1 j : Nat) => Ax.get [AV.y (Value.int IntKind.u64 (IntKind.wrap IntKind.u64 (↑(List.length (ke r (List.take k l)).out) : Int)))] (k_1 * (1 : Nat) + j)) (cellsOf' encU (ke r (List.take j l)).to)) ∧ True) ∧ true = true) ∧ true = true ∧ () = ()) ∧ (hasK r (List.getD l k (@default Rec instInhabitedRec)).key = false → ∃ (j : Nat), List.length l - j < List.length l - k ∧ (((b = b ∧ List.length l = List.length l ∧ contLe (List.length l) (5 : Nat) (cellsOf' encR l) (cellsOf' encR l)) ∧ ((0 : Nat) = (0 : Nat) ∧ (0 : Nat) = (0 : Nat)) ∧ ((0 : Nat) = (0 : Nat) ∧ List.length (ke r (List.take k l)).out = List.length (ke r (List.take j l)).out) ∧ ((0 : Nat) = (0 : Nat) ∧ List.length (ke r (List.take k l)).to + (1 : Nat) = List.length (ke r (List.take j l)).to) ∧ IntKind.wrap IntKind.i64 ((↑k : Int) + (1 : Int)) = (↑j : Int) ∧ True) ∧ ((r.lo = r.lo ∧ r.hi = r.hi ∧ True) ∧ (List.length (ke r (List.take k l)).out = List.length (ke r (List.take j l)).out ∧ contLe (List.length (ke r (List.take k l)).out) (5 : Nat) (cellsOf' encR (ke r (List.take k l)).out) (cellsOf' encR (ke r (List.take j l)).out)) ∧ (List.length (ke r (List.take k l)).to + (1 : Nat) = List.length (ke r (List.take j l)).to ∧ contLe (List.length (ke r (List.take k l)).to + (1 : Nat)) (1 : Nat) (appRow (List.length (ke r (List.take k l)).to) (cellsOf' encU (ke r (List.take k l)).to) fun (k_1 j : Nat) => Ax.get [AV.y (Value.int IntKind.u64 (IntKind.wrap IntKind.u64 (↑(List.length (ke r (List.take k l)).out) : Int)))] (k_1 * (1 : Nat) + j)) (cellsOf' encU (ke r (List.take j l)).to)) ∧ True) ∧ true = true) ∧ true = true ∧ () = ())) ∧ (decide ((↑k : Int) < (↑(List.length l) : Int)) = false → (((0 : Nat) = (0 : Nat) ∧ List.length (ke r (List.take k l)).out = List.length (ke r l).out) ∧ ((0 : Nat) = (0 : Nat) ∧ List.length (ke r (List.take k l)).to = List.length (ke r l).to) ∧ True) ∧ ((r.lo = r.lo ∧ r.hi = r.hi ∧ True) ∧ (List.length (ke r (List.take k l)).out = List.length (ke r l).out ∧ contLe (List.length (ke r (List.take k l)).out) (5 : Nat) (cellsOf' encR (ke r (List.take k l)).out) (cellsOf' encR (ke r l).out)) ∧ (List.length (ke r (List.take k l)).to = List.length (ke r l).to ∧ contLe (List.length (ke r (List.take k l)).to) (1 : Nat) (cellsOf' encU (ke r (List.take k l)).to) (cellsOf' encU (ke r l).to)) ∧ True) ∧ true = true)
set_option maxRecDepth 1000000 in
theorem vcKrL_eq (b : Bool) (r : Rng) (l : List Rec) (k : Nat) : (loopVC Tryd.prog (krH r l k) 24 7 (fun k => l.length - k) (fun k => krT b l (ke r (l.take k)) k) (fun k => kpM r (ke r (l.take k))) jX (fun _ => .ret ()) (krS r (ke r l)) k) = vcKrL b r l k := by kernel_rfl
noncomputable def keH2 (b : Bool) (r : Rng) (l : List Rec) : HintsT Tryd.prog := hh _ (lp1 24 7 (jobOf (fun k => krT b l (ke r (l.take k)) k) (fun k => kpM r (ke r (l.take k))) jX (fun _ => .ret ()) (krS r (ke r l)) 0) noLp) (cs1 24 1 1 (lrC b l) (cs1 24 2 4 (chk2C r) noCs)) (op1 24 4 0 (.row 27 5) (op1 24 5 0 (.row 24 1) noOp))
def vcKeep2 (b : Bool) (r : Rng) (l : List Rec) : Prop :=
  ((b = b ∧ List.length l = List.length l ∧ contLe (List.length l) (5 : Nat) (cellsOf' encR l) (cellsOf' encR l)) ∧ True) ∧ True ∧ List.length l ≤ (9223372036854775806 : Nat) ∧ ((!isLog l) = true → ((isLog l && chkK r == (0 : Int)) = true → (False ∧ False ∧ True) ∧ False) ∧ ((isLog l && chkK r == (0 : Int)) = false → (True ∧ True ∧ True) ∧ True)) ∧ ((!isLog l) = false → ((r.lo = r.lo ∧ r.hi = r.hi ∧ True) ∧ True) ∧ True ∧ ((chkK r != (0 : Int)) = true → ((isLog l && chkK r == (0 : Int)) = true → (False ∧ False ∧ True) ∧ False) ∧ ((isLog l && chkK r == (0 : Int)) = false → (True ∧ True ∧ True) ∧ True)) ∧ ((chkK r != (0 : Int)) = false → (((b = b ∧ List.length l = List.length l ∧ contLe (List.length l) (5 : Nat) (cellsOf' encR l) (cellsOf' encR l)) ∧ ((0 : Nat) = (0 : Nat) ∧ (0 : Nat) = (0 : Nat)) ∧ ((0 : Nat) = (0 : Nat) ∧ (0 : Nat) = (0 : Nat)) ∧ ((0 : Nat) = (0 : Nat) ∧ (0 : Nat) = (0 : Nat)) ∧ (0 : Int) = (0 : Int) ∧ True) ∧ ((r.lo = r.lo ∧ r.hi = r.hi ∧ True) ∧ ((0 : Nat) = (0 : Nat) ∧ contLe (0 : Nat) (5 : Nat) (fun (x x_1 : Nat) => AV.junk) (cellsOf' encR [])) ∧ ((0 : Nat) = (0 : Nat) ∧ contLe (0 : Nat) (1 : Nat) (fun (x x_1 : Nat) => AV.junk) (cellsOf' encU [])) ∧ True) ∧ true = true) ∧ LoopOk Tryd.prog (24 : Nat) (7 : Nat) (loopAt Tryd.prog (24 : Nat) (7 : Nat)) { t := krT b l (ke r (List.take (0 : Nat) l)) (0 : Nat), m := kpM r (ke r (List.take (0 : Nat) l)), mv := [] : St } (T.map (lout jX (krS r (ke r l))) ((fun (x : Nat) => T.ret ()) (0 : Nat))) ∧ (decide (List.length (ke r l).to = List.length (ke r l).to) && decide (List.length (ke r l).to + (1 : Nat) ≤ (9223372036854775807 : Nat)) && decide ((List.length (ke r l).to + (1 : Nat)) * (8 : Nat) ≤ (140737488355328 : Nat))) = true ∧ ((isLog l && chkK r == (0 : Int)) = true → (((0 : Nat) = (0 : Nat) ∧ List.length (ke r l).out = List.length (ke r l).out) ∧ ((0 : Nat) = (0 : Nat) ∧ List.length (ke r l).to + (1 : Nat) = List.length ((ke r l).to ++ [IntKind.wrap IntKind.u64 (↑(List.length (ke r l).out) : Int)])) ∧ True) ∧ (List.length (ke r l).out = List.length (ke r l).out ∧ contLe (List.length (ke r l).out) (5 : Nat) (cellsOf' encR (ke r l).out) (cellsOf' encR (ke r l).out)) ∧ (List.length (ke r l).to + (1 : Nat) = List.length ((ke r l).to ++ [IntKind.wrap IntKind.u64 (↑(List.length (ke r l).out) : Int)]) ∧ contLe (List.length (ke r l).to + (1 : Nat)) (1 : Nat) (appRow (List.length (ke r l).to) (cellsOf' encU (ke r l).to) fun (k j : Nat) => Ax.get [AV.y (Value.int IntKind.u64 (IntKind.wrap IntKind.u64 (↑(List.length (ke r l).out) : Int)))] (k * (1 : Nat) + j)) (cellsOf' encU ((ke r l).to ++ [IntKind.wrap IntKind.u64 (↑(List.length (ke r l).out) : Int)]))) ∧ True) ∧ ((isLog l && chkK r == (0 : Int)) = false → False)))
set_option maxRecDepth 1000000 in
theorem vcKeep2_eq (b : Bool) (r : Rng) (l : List Rec) : (ctrVC Tryd.prog (keH2 b r l) 24 [encRs b l, .agg (encG r)] [] (keT r l)) = vcKeep2 b r l := by kernel_rfl
end Go.Proofs.YtjmdejbijigfjaaDoor
