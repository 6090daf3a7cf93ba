import Derived.Shelf.Strings.SlTrimAscii
import Derived.Test.YtjmdejbijigfjaaDoorE13
import Derived.Test.YtjmdejbijigfjaaDoorW1
set_option linter.unusedVariables false
set_option linter.unusedSimpArgs false
set_option linter.unusedSectionVars false
namespace Go.Proofs
open Go.Shelf
def Tryd.lays160_ren : Go.Shelf.Ren := ⟨fun | 160 => 61 | 232 => 71 | 231 => 70 | 227 => 72 | 234 => 74 | 233 => 73 | 236 => 76 | 235 => 75 | 228 => 81 | 271 => 84 | 151 => 83 | 197 => 82 | 120 => 88 | 152 => 87 | 260 => 86 | 137 => 90 | 119 => 91 | 224 => 92 | 225 => 93 | 217 => 94 | 266 => 95 | n => n, fun | 9 => 9 | 4 => 4 | 3 => 3 | 5 => 5 | 117 => 105 | 116 => 104 | 0 => 0 | 124 => 108 | 21 => 21 | 105 => 113 | 46 => 110 | 119 => 118 | 139 => 121 | 138 => 120 | n => n, fun | 3 => 0 | 4 => 1 | n => n⟩
theorem Tryd.lays160 : Go.Proofs.Lays.n160 Tryd.prog Tryd.lays160_ren := {
  mixed := by kernel_rfl
  f119 := Tryd.func91.trans (congrArg some (by kernel_rfl))
  f120 := Tryd.func88.trans (congrArg some (by kernel_rfl))
  f137 := Tryd.func90.trans (congrArg some (by kernel_rfl))
  f151 := Tryd.func83.trans (congrArg some (by kernel_rfl))
  f152 := Tryd.func87.trans (congrArg some (by kernel_rfl))
  f160 := Tryd.func61.trans (congrArg some (by kernel_rfl))
  f197 := Tryd.func82.trans (congrArg some (by kernel_rfl))
  f217 := Tryd.func94.trans (congrArg some (by kernel_rfl))
  f224 := Tryd.func92.trans (congrArg some (by kernel_rfl))
  f225 := Tryd.func93.trans (congrArg some (by kernel_rfl))
  f227 := Tryd.func72.trans (congrArg some (by kernel_rfl))
  f228 := Tryd.func81.trans (congrArg some (by kernel_rfl))
  f231 := Tryd.func70.trans (congrArg some (by kernel_rfl))
  f232 := Tryd.func71.trans (congrArg some (by kernel_rfl))
  f233 := Tryd.func73.trans (congrArg some (by kernel_rfl))
  f234 := Tryd.func74.trans (congrArg some (by kernel_rfl))
  f235 := Tryd.func75.trans (congrArg some (by kernel_rfl))
  f236 := Tryd.func76.trans (congrArg some (by kernel_rfl))
  f260 := Tryd.func86.trans (congrArg some (by kernel_rfl))
  f266 := Tryd.func95.trans (congrArg some (by kernel_rfl))
  f271 := Tryd.func84.trans (congrArg some (by kernel_rfl))
  t0 := Tryd.underlying0
  a0 := Tryd.isAgg0
  z0 := Tryd.sizeOf0
  v0 := Tryd.zeroValue0
  t3 := Tryd.underlying3
  a3 := Tryd.isAgg3
  z3 := Tryd.sizeOf3
  v3 := Tryd.zeroValue3
  t4 := Tryd.underlying4
  a4 := Tryd.isAgg4
  z4 := Tryd.sizeOf4
  v4 := Tryd.zeroValue4
  t5 := Tryd.underlying5
  a5 := Tryd.isAgg5
  z5 := Tryd.sizeOf5
  v5 := Tryd.zeroValue5
  t9 := Tryd.underlying9
  a9 := Tryd.isAgg9
  z9 := Tryd.sizeOf9
  v9 := Tryd.zeroValue9
  t21 := Tryd.underlying21
  a21 := Tryd.isAgg21
  z21 := Tryd.sizeOf21
  v21 := Tryd.zeroValue21
  t46 := Tryd.underlying110
  a46 := Tryd.isAgg110
  z46 := Tryd.sizeOf110
  v46 := Tryd.zeroValue110
  t105 := Tryd.underlying113
  a105 := Tryd.isAgg113
  z105 := Tryd.sizeOf113
  v105 := Tryd.zeroValue113
  t116 := Tryd.underlying104
  a116 := Tryd.isAgg104
  z116 := Tryd.sizeOf104
  t117 := Tryd.underlying105
  a117 := Tryd.isAgg105
  z117 := Tryd.sizeOf105
  v117 := Tryd.zeroValue105
  t119 := Tryd.underlying118
  a119 := Tryd.isAgg118
  z119 := Tryd.sizeOf118
  t124 := Tryd.underlying108
  a124 := Tryd.isAgg108
  z124 := Tryd.sizeOf108
  v124 := Tryd.zeroValue108
  t138 := Tryd.underlying120
  a138 := Tryd.isAgg120
  z138 := Tryd.sizeOf120
  v138 := Tryd.zeroValue120
  t139 := Tryd.underlying121
  a139 := Tryd.isAgg121
  z139 := Tryd.sizeOf121
  v139 := Tryd.zeroValue121
  g3 := by kernel_rfl
  g4 := by kernel_rfl }
end Go.Proofs
namespace Go.Proofs.YtjmdejbijigfjaaDoor
open Go.Ax
set_option maxRecDepth 1000000
def chars : List UInt8 := [97, 98, 99, 100, 101, 102, 103, 104, 105, 106, 107, 108, 109, 110, 111, 112, 113, 114, 115, 116, 117, 118, 119, 120, 121, 122, 48, 49, 50, 51, 52, 53, 54, 55, 56, 57, 45, 95, 46]
def isCh (b : UInt8) : Bool := chars.contains b
def nameOk (s : ByteArray) : Bool := !(s.data.toList == []) && (decide ((s.size : Int) ≤ 32) && s.data.toList.all isCh)
theorem drop_all {l : List UInt8} {p : UInt8 → Bool} : (l.dropWhile p == []) = l.all p := by
  induction l with
  | nil => rfl
  | cons a l ih =>
    rw [List.dropWhile_cons, List.all_cons]
    cases h : p a
    · simp
    · simpa using ih
theorem trim_all (l : List UInt8) : (Lib.trimS l chars == []) = l.all isCh := by
  unfold Lib.trimS Lib.trimLeftS Lib.trimRightS
  rw [drop_all]
  cases h : l.all isCh
  · rw [Bool.eq_false_iff]
    intro h2
    have h3 : ∀ m : List UInt8, (m.dropWhile isCh).all isCh = true → m.all isCh = true := by
      intro m
      induction m with
      | nil => exact fun _ => rfl
      | cons a m ih =>
        rw [List.dropWhile_cons]
        cases ha : isCh a
        · intro h; simp at h; simp [ha] at h
        · intro h; simp only [List.all_cons, ha, Bool.true_and]; exact ih h
    have h4 : (l.reverse.dropWhile isCh).all isCh = true := by
      rw [← List.all_reverse]; exact h2
    have h5 := h3 _ h4
    rw [List.all_reverse] at h5
    rw [h5] at h; cases h
  · rw [List.all_reverse]
    have : l.reverse.dropWhile isCh = [] := by
      have := drop_all (l := l.reverse) (p := isCh)
      rw [List.all_reverse, h] at this
      simpa using this
    have e : l.reverse.dropWhile (fun x => chars.contains x) = [] := this
    rw [e]; rfl
def trimR (s : ByteArray) : T An := .ret (.y (.string ⟨(Lib.trimS s.data.toList chars).toArray⟩), [], [])
theorem trim_c (s : ByteArray) (hs : s.size ≤ 9223372036854775807) : (trimR s).Sat (ACall' Tryd.prog 61 [.y (.string s), .s (.string ⟨chars.toArray⟩)] []) := by
  refine call_below fun w vals hv => ?_
  obtain ⟨H, E, v, l1, e1, hv1, v2, l2, e2, hv2, e3⟩ := hv
  have e3 : l2 = [] := e3
  subst e3
  subst e2
  obtain rfl := hv1.1
  obtain rfl := hv2.1
  have hvals : vals = #[.string s, .string ⟨chars.toArray⟩] := Array.ext' e1
  subst hvals
  refine (Any.strings_Trim_laid Tryd.lays160 (by kernel_rfl) s ⟨chars.toArray⟩ w hs (by decide) (Go.Proofs.ascii_of_all (by decide))).mono ?_
  rintro e w' ⟨rfl, hb⟩
  exact ⟨_, rfl, fun _ _ => ⟨rfl, rfl⟩, hb⟩
noncomputable def trimC (s : ByteArray) : Ctr Tryd.prog := ⟨61, [.y (.string s), .s (.string ⟨chars.toArray⟩)], [], .need (s.size ≤ 9223372036854775807) (trimR s), T.Sat.need fun h => trim_c s h⟩
noncomputable def nameH (s : ByteArray) : HintsT Tryd.prog := hh _ noLp (cs1 41 1 9 (trimC s) noCs) noOp
def vcName (s : ByteArray) : Prop :=
  ((!s.data.toList == []) = true → (decide ((↑(ByteArray.size s) : Int) ≤ (32 : Int)) = true → (s = s ∧ { data := #[(97 : UInt8), (98 : UInt8), (99 : UInt8), (100 : UInt8), (101 : UInt8), (102 : UInt8), (103 : UInt8), (104 : UInt8), (105 : UInt8), (106 : UInt8), (107 : UInt8), (108 : UInt8), (109 : UInt8), (110 : UInt8), (111 : UInt8), (112 : UInt8), (113 : UInt8), (114 : UInt8), (115 : UInt8), (116 : UInt8), (117 : UInt8), (118 : UInt8), (119 : UInt8), (120 : UInt8), (121 : UInt8), (122 : UInt8), (48 : UInt8), (49 : UInt8), (50 : UInt8), (51 : UInt8), (52 : UInt8), (53 : UInt8), (54 : UInt8), (55 : UInt8), (56 : UInt8), (57 : UInt8), (45 : UInt8), (95 : UInt8), (46 : UInt8)] : ByteArray } = { data := #[(97 : UInt8), (98 : UInt8), (99 : UInt8), (100 : UInt8), (101 : UInt8), (102 : UInt8), (103 : UInt8), (104 : UInt8), (105 : UInt8), (106 : UInt8), (107 : UInt8), (108 : UInt8), (109 : UInt8), (110 : UInt8), (111 : UInt8), (112 : UInt8), (113 : UInt8), (114 : UInt8), (115 : UInt8), (116 : UInt8), (117 : UInt8), (118 : UInt8), (119 : UInt8), (120 : UInt8), (121 : UInt8), (122 : UInt8), (48 : UInt8), (49 : UInt8), (50 : UInt8), (51 : UInt8), (52 : UInt8), (53 : UInt8), (54 : UInt8), (55 : UInt8), (56 : UInt8), (57 : UInt8), (45 : UInt8), (95 : UInt8), (46 : UInt8)] : ByteArray } ∧ True) ∧ True ∧ ByteArray.size s ≤ (9223372036854775807 : Nat) ∧ (Lib.trimS s.data.toList [(97 : UInt8), (98 : UInt8), (99 : UInt8), (100 : UInt8), (101 : UInt8), (102 : UInt8), (103 : UInt8), (104 : UInt8), (105 : UInt8), (106 : UInt8), (107 : UInt8), (108 : UInt8), (109 : UInt8), (110 : UInt8), (111 : UInt8), (112 : UInt8), (113 : UInt8), (114 : UInt8), (115 : UInt8), (116 : UInt8), (117 : UInt8), (118 : UInt8), (119 : UInt8), (120 : UInt8), (121 : UInt8), (122 : UInt8), (48 : UInt8), (49 : UInt8), (50 : UInt8), (51 : UInt8), (52 : UInt8), (53 : UInt8), (54 : UInt8), (55 : UInt8), (56 : UInt8), (57 : UInt8), (45 : UInt8), (95 : UInt8), (46 : UInt8)] == []) = nameOk s ∧ True) ∧ (decide ((↑(ByteArray.size s) : Int) ≤ (32 : Int)) = false → false = nameOk s ∧ True)) ∧ ((!s.data.toList == []) = false → false = nameOk s ∧ True)
theorem vcName_eq (s : ByteArray) : (ctrVC Tryd.prog (nameH s) 41 [.y (.string s)] [] (boolR (nameOk s))) = vcName s := by kernel_rfl
end Go.Proofs.YtjmdejbijigfjaaDoor

namespace Go.Proofs.YtjmdejbijigfjaaDoor
open Go.Ax
set_option maxRecDepth 1000000
theorem name_c (s : ByteArray) : (boolR (nameOk s)).Sat (ACall' Tryd.prog 41 [.y (.string s)] []) := by
  refine ctr_vc (ht := nameH s) Tryd.mixed rfl ?_
  rw [vcName_eq s]
  unfold vcName
  have e := trim_all s.data.toList
  unfold chars at e
  simp only [e, nameOk]
  generalize (s.data.toList == []) = a
  generalize hb : decide ((s.size : Int) ≤ 32) = b
  generalize s.data.toList.all isCh = c
  cases a <;> cases b <;> cases c <;> simp at hb ⊢ <;> omega
noncomputable def nameC (s : ByteArray) : Ctr Tryd.prog := ⟨41, [.y (.string s)], [], boolR (nameOk s), name_c s⟩
def a1 : ByteArray := ⟨#[97, 45, 49]⟩
noncomputable def livH : HintsT Tryd.prog := withSh (hh _ noLp (cs1 11 2 19 (nameC a1) noCs) noOp) (sh1 47 2 0 779 noSh)
def vcLives (u : Unit) : Prop :=
  ({ data := #[(97 : UInt8), (45 : UInt8), (49 : UInt8)] : ByteArray } = a1 ∧ True) ∧ True ∧ true = true ∧ True
theorem vcLives_eq (u : Unit) : (ctrVC Tryd.prog livH 11 [] [] (boolR true)) = vcLives u := by kernel_rfl
theorem lives_c : (boolR true).Sat (ACall' Tryd.prog 11 [] []) := by
  refine ctr_vc (ht := livH) Tryd.mixed rfl ?_
  rw [vcLives_eq ()]
  unfold vcLives
  exact ⟨⟨rfl, trivial⟩, trivial, rfl, trivial⟩
noncomputable def livesC : Ctr Tryd.prog := ⟨11, [], [], boolR true, lives_c⟩
end Go.Proofs.YtjmdejbijigfjaaDoor

namespace Go.Proofs.YtjmdejbijigfjaaDoor
open Go.Ax
set_option maxRecDepth 1000000
def smT (b1 b2 : Bool) (a : List Rec) (k : Nat) : List AV := mkT 82 [(0, encRs b1 a), (1, encRs b2 a), (5, .y (.int .i64 k))]
def smS (_ : Unit) : Exit × List AV × List Blk := (.exit 0, mkT 82 [], [])
def vcSameL (b1 : Bool) (b2 : Bool) (a : List Rec) (k : Nat) : Prop :=
  (decide ((↑k : Int) < (↑(List.length a) : Int)) = true → (true && decide ((↑k : Int) < (↑(List.length a) : Int))) = true ∧ (true && decide ((↑k : Int) < (↑(List.length a) : Int))) = true ∧ (((List.getD a (Int.toNat (↑k : Int)) (@default Rec instInhabitedRec)).off != (List.getD a (Int.toNat (↑k : Int)) (@default Rec instInhabitedRec)).off) = true → False) ∧ (((List.getD a (Int.toNat (↑k : Int)) (@default Rec instInhabitedRec)).off != (List.getD a (Int.toNat (↑k : Int)) (@default Rec instInhabitedRec)).off) = false → (true && decide ((↑k : Int) < (↑(List.length a) : Int))) = true ∧ (true && decide ((↑k : Int) < (↑(List.length a) : Int))) = true ∧ ((!(List.getD a (Int.toNat (↑k : Int)) (@default Rec instInhabitedRec)).key.data.toList == (List.getD a (Int.toNat (↑k : Int)) (@default Rec instInhabitedRec)).key.data.toList) = true → False) ∧ ((!(List.getD a (Int.toNat (↑k : Int)) (@default Rec instInhabitedRec)).key.data.toList == (List.getD a (Int.toNat (↑k : Int)) (@default Rec instInhabitedRec)).key.data.toList) = false → (true && decide ((↑k : Int) < (↑(List.length a) : Int))) = true ∧ (∀ (k_1 : Nat), k_1 < List.length (List.getD a (Int.toNat (↑k : Int)) (@default Rec instInhabitedRec)).val → true = true) ∧ (true && decide ((↑k : Int) < (↑(List.length a) : Int))) = true ∧ (∀ (k_1 : Nat), k_1 < List.length (List.getD a (Int.toNat (↑k : Int)) (@default Rec instInhabitedRec)).val → true = true) ∧ ((!List.map (fun (a : AV) => match match a with | AV.s (Value.int IntKind.u8 n) => some n | AV.y (Value.int IntKind.u8 n) => some n | x => none with | some n => UInt8.ofNat (Int.toNat n) | none => (0 : UInt8)) (List.map (fun (k_1 : Nat) => AV.y (Value.int IntKind.u8 (List.getD (List.getD a (Int.toNat (↑k : Int)) (@default Rec instInhabitedRec)).val k_1 (0 : Int)))) (List.range (List.length (List.getD a (Int.toNat (↑k : Int)) (@default Rec instInhabitedRec)).val))) == List.map (fun (a : AV) => match match a with | AV.s (Value.int IntKind.u8 n) => some n | AV.y (Value.int IntKind.u8 n) => some n | x => none with | some n => UInt8.ofNat (Int.toNat n) | none => (0 : UInt8)) (List.map (fun (k_1 : Nat) => AV.y (Value.int IntKind.u8 (List.getD (List.getD a (Int.toNat (↑k : Int)) (@default Rec instInhabitedRec)).val k_1 (0 : Int)))) (List.range (List.length (List.getD a (Int.toNat (↑k : Int)) (@default Rec instInhabitedRec)).val)))) = true → False) ∧ ((!List.map (fun (a : AV) => match match a with | AV.s (Value.int IntKind.u8 n) => some n | AV.y (Value.int IntKind.u8 n) => some n | x => none with | some n => UInt8.ofNat (Int.toNat n) | none => (0 : UInt8)) (List.map (fun (k_1 : Nat) => AV.y (Value.int IntKind.u8 (List.getD (List.getD a (Int.toNat (↑k : Int)) (@default Rec instInhabitedRec)).val k_1 (0 : Int)))) (List.range (List.length (List.getD a (Int.toNat (↑k : Int)) (@default Rec instInhabitedRec)).val))) == List.map (fun (a : AV) => match match a with | AV.s (Value.int IntKind.u8 n) => some n | AV.y (Value.int IntKind.u8 n) => some n | x => none with | some n => UInt8.ofNat (Int.toNat n) | none => (0 : UInt8)) (List.map (fun (k_1 : Nat) => AV.y (Value.int IntKind.u8 (List.getD (List.getD a (Int.toNat (↑k : Int)) (@default Rec instInhabitedRec)).val k_1 (0 : Int)))) (List.range (List.length (List.getD a (Int.toNat (↑k : Int)) (@default Rec instInhabitedRec)).val)))) = false → (true && decide ((↑k : Int) < (↑(List.length a) : Int))) = true ∧ (true && decide ((↑k : Int) < (↑(List.length a) : Int))) = true ∧ (((List.getD a (Int.toNat (↑k : Int)) (@default Rec instInhabitedRec)).prod != (List.getD a (Int.toNat (↑k : Int)) (@default Rec instInhabitedRec)).prod) = true → False) ∧ (((List.getD a (Int.toNat (↑k : Int)) (@default Rec instInhabitedRec)).prod != (List.getD a (Int.toNat (↑k : Int)) (@default Rec instInhabitedRec)).prod) = false → (true && decide ((↑k : Int) < (↑(List.length a) : Int))) = true ∧ (true && decide ((↑k : Int) < (↑(List.length a) : Int))) = true ∧ (((List.getD a (Int.toNat (↑k : Int)) (@default Rec instInhabitedRec)).seq != (List.getD a (Int.toNat (↑k : Int)) (@default Rec instInhabitedRec)).seq) = true → False) ∧ (((List.getD a (Int.toNat (↑k : Int)) (@default Rec instInhabitedRec)).seq != (List.getD a (Int.toNat (↑k : Int)) (@default Rec instInhabitedRec)).seq) = false → ∃ (j : Nat), List.length a - j < List.length a - k ∧ (((b1 = b1 ∧ List.length a = List.length a ∧ contLe (List.length a) (5 : Nat) (cellsOf' encR a) (cellsOf' encR a)) ∧ (b2 = b2 ∧ List.length a = List.length a ∧ contLe (List.length a) (5 : Nat) (cellsOf' encR a) (cellsOf' encR a)) ∧ IntKind.wrap IntKind.i64 ((↑k : Int) + (1 : Int)) = (↑j : Int) ∧ True) ∧ True ∧ true = true) ∧ true = true ∧ () = ())))))) ∧ (decide ((↑k : Int) < (↑(List.length a) : Int)) = false → True ∧ True ∧ true = true)
theorem vcSameL_eq (b1 : Bool) (b2 : Bool) (a : List Rec) (k : Nat) : (loopVC Tryd.prog (hT _) 16 4 (fun k => a.length - k) (smT b1 b2 a) (fun _ => []) [0] (fun _ => .ret ()) smS k) = vcSameL b1 b2 a k := by kernel_rfl
noncomputable def smH (b1 b2 : Bool) (a : List Rec) : HintsT Tryd.prog := hh _ (lp1 16 4 (jobOf (smT b1 b2 a) (fun _ => []) [0] (fun _ => .ret ()) smS 0) noLp) noCs noOp
def vcSame (b1 : Bool) (b2 : Bool) (a : List Rec) : Prop :=
  (((↑(List.length a) : Int) != (↑(List.length a) : Int)) = true → false = true ∧ True) ∧ (((↑(List.length a) : Int) != (↑(List.length a) : Int)) = false → (((b1 = b1 ∧ List.length a = List.length a ∧ contLe (List.length a) (5 : Nat) (cellsOf' encR a) (cellsOf' encR a)) ∧ (b2 = b2 ∧ List.length a = List.length a ∧ contLe (List.length a) (5 : Nat) (cellsOf' encR a) (cellsOf' encR a)) ∧ (0 : Int) = (0 : Int) ∧ True) ∧ True ∧ true = true) ∧ LoopOk Tryd.prog (16 : Nat) (4 : Nat) (loopAt Tryd.prog (16 : Nat) (4 : Nat)) { t := smT b1 b2 a (0 : Nat), m := [], mv := [] : St } (T.map (lout [(0 : Nat)] smS) ((fun (x : Nat) => T.ret ()) (0 : Nat))) ∧ true = true ∧ True)
theorem vcSame_eq (b1 : Bool) (b2 : Bool) (a : List Rec) : (ctrVC Tryd.prog (smH b1 b2 a) 16 [encRs b1 a, encRs b2 a] [] (boolR true)) = vcSame b1 b2 a := by kernel_rfl
def stT (b1 b2 : Bool) (a : List Int) (k : Nat) : List AV := mkT 26 [(0, encUs b1 a), (1, encUs b2 a), (5, .y (.int .i64 k))]
def stS (_ : Unit) : Exit × List AV × List Blk := (.exit 0, mkT 26 [], [])
def vcStL (b1 : Bool) (b2 : Bool) (a : List Int) (k : Nat) : Prop :=
  (decide ((↑k : Int) < (↑(List.length a) : Int)) = true → (true && decide ((↑k : Int) < (↑(List.length a) : Int))) = true ∧ (true && decide ((↑k : Int) < (↑(List.length a) : Int))) = true ∧ ((List.getD a (Int.toNat (↑k : Int)) (0 : Int) != List.getD a (Int.toNat (↑k : Int)) (0 : Int)) = true → False) ∧ ((List.getD a (Int.toNat (↑k : Int)) (0 : Int) != List.getD a (Int.toNat (↑k : Int)) (0 : Int)) = false → ∃ (j : Nat), List.length a - j < List.length a - k ∧ (((b1 = b1 ∧ List.length a = List.length a ∧ contLe (List.length a) (1 : Nat) (cellsOf' encU a) (cellsOf' encU a)) ∧ (b2 = b2 ∧ List.length a = List.length a ∧ contLe (List.length a) (1 : Nat) (cellsOf' encU a) (cellsOf' encU a)) ∧ IntKind.wrap IntKind.i64 ((↑k : Int) + (1 : Int)) = (↑j : Int) ∧ True) ∧ True ∧ true = true) ∧ true = true ∧ () = ())) ∧ (decide ((↑k : Int) < (↑(List.length a) : Int)) = false → True ∧ True ∧ true = true)
theorem vcStL_eq (b1 : Bool) (b2 : Bool) (a : List Int) (k : Nat) : (loopVC Tryd.prog (hT _) 25 4 (fun k => a.length - k) (stT b1 b2 a) (fun _ => []) [0] (fun _ => .ret ()) stS k) = vcStL b1 b2 a k := by kernel_rfl
noncomputable def stH (b1 b2 : Bool) (a : List Int) : HintsT Tryd.prog := hh _ (lp1 25 4 (jobOf (stT b1 b2 a) (fun _ => []) [0] (fun _ => .ret ()) stS 0) noLp) noCs noOp
def vcSt (b1 : Bool) (b2 : Bool) (a : List Int) : Prop :=
  (((↑(List.length a) : Int) != (↑(List.length a) : Int)) = true → false = true ∧ True) ∧ (((↑(List.length a) : Int) != (↑(List.length a) : Int)) = false → (((b1 = b1 ∧ List.length a = List.length a ∧ contLe (List.length a) (1 : Nat) (cellsOf' encU a) (cellsOf' encU a)) ∧ (b2 = b2 ∧ List.length a = List.length a ∧ contLe (List.length a) (1 : Nat) (cellsOf' encU a) (cellsOf' encU a)) ∧ (0 : Int) = (0 : Int) ∧ True) ∧ True ∧ true = true) ∧ LoopOk Tryd.prog (25 : Nat) (4 : Nat) (loopAt Tryd.prog (25 : Nat) (4 : Nat)) { t := stT b1 b2 a (0 : Nat), m := [], mv := [] : St } (T.map (lout [(0 : Nat)] stS) ((fun (x : Nat) => T.ret ()) (0 : Nat))) ∧ true = true ∧ True)
theorem vcSt_eq (b1 : Bool) (b2 : Bool) (a : List Int) : (ctrVC Tryd.prog (stH b1 b2 a) 25 [encUs b1 a, encUs b2 a] [] (boolR true)) = vcSt b1 b2 a := by kernel_rfl
theorem same_loop (b1 b2 : Bool) (a : List Rec) (hl : a.length ≤ 9223372036854775806) (k : Nat) : LoopOk Tryd.prog 16 4 (loopAt Tryd.prog 16 4) ⟨smT b1 b2 a k, [], []⟩ (T.map (lout [0] smS) (.ret ())) := by
  refine loop_vc (o := fun _ => .ret ()) Tryd.mixed (fun _ => rfl) (fun k => (vcSameL_eq b1 b2 a k).mpr ?_) k
  unfold vcSameL
  simp
  intro h
  have hb : ∀ q : Nat, isU8 (cellsOf' encB (a[k]?.getD default).val q 0) = true := fun _ => rfl
  simp [h, hb]
  exact ⟨k + 1, by omega, by rw [wrap_i64 (by omega) (by omega)]; omega⟩
theorem same_c (b1 b2 : Bool) (a : List Rec) (hl : a.length ≤ 9223372036854775806) : (boolR true).Sat (ACall' Tryd.prog 16 [encRs b1 a, encRs b2 a] []) := by
  refine ctr_vc (ht := smH b1 b2 a) Tryd.mixed rfl ?_
  rw [vcSame_eq b1 b2 a]
  unfold vcSame
  simp [same_loop b1 b2 a hl 0]
theorem st_loop (b1 b2 : Bool) (a : List Int) (hl : a.length ≤ 9223372036854775806) (k : Nat) : LoopOk Tryd.prog 25 4 (loopAt Tryd.prog 25 4) ⟨stT b1 b2 a k, [], []⟩ (T.map (lout [0] stS) (.ret ())) := by
  refine loop_vc (o := fun _ => .ret ()) Tryd.mixed (fun _ => rfl) (fun k => (vcStL_eq b1 b2 a k).mpr ?_) k
  unfold vcStL
  simp
  intro h
  simp [h]
  exact ⟨k + 1, by omega, by rw [wrap_i64 (by omega) (by omega)]; omega⟩
theorem st_c (b1 b2 : Bool) (a : List Int) (hl : a.length ≤ 9223372036854775806) : (boolR true).Sat (ACall' Tryd.prog 25 [encUs b1 a, encUs b2 a] []) := by
  refine ctr_vc (ht := stH b1 b2 a) Tryd.mixed rfl ?_
  rw [vcSt_eq b1 b2 a]
  unfold vcSt
  simp [st_loop b1 b2 a hl 0]
noncomputable def sameC (b1 b2 : Bool) (a b : List Rec) : Ctr Tryd.prog := ⟨16, [encRs b1 a, encRs b2 b], [], .need (a.length ≤ 9223372036854775806 ∧ a = b) (boolR true), T.Sat.need fun h => by obtain ⟨h1, rfl⟩ := h; exact same_c b1 b2 a h1⟩
noncomputable def stC (b1 b2 : Bool) (a b : List Int) : Ctr Tryd.prog := ⟨25, [encUs b1 a, encUs b2 b], [], .need (a.length ≤ 9223372036854775806 ∧ a = b) (boolR true), T.Sat.need fun h => by obtain ⟨h1, rfl⟩ := h; exact st_c b1 b2 a h1⟩
end Go.Proofs.YtjmdejbijigfjaaDoor

namespace Go.Proofs.YtjmdejbijigfjaaDoor
open Go.Ax
set_option maxRecDepth 1000000
theorem tagR (x : Rec) (j : Nat) (hj : j < 5) : tagT (Ax.get (encR x) j) = true := by
  match j, hj with
  | 0, _ => rfl
  | 1, _ => rfl
  | 2, _ => rfl
  | 3, _ => rfl
  | 4, _ => rfl
end Go.Proofs.YtjmdejbijigfjaaDoor

namespace Go.Proofs.YtjmdejbijigfjaaDoor.H
open Go.Ax Go.Proofs.YtjmdejbijigfjaaDoor
set_option maxRecDepth 1000000
def trRec (x : Rec) (j : Nat) : Tr := match j with
  | 0 => .av (.y (.int .u64 x.off))
  | 1 => .av (.y (.string x.key))
  | 2 => .frow 5 1 x.val.length (cellsOf' encB x.val)
  | 3 => .av (.y (.int .u64 x.prod))
  | 4 => .av (.y (.int .u64 x.seq))
  | _ => .av .junk
def trRs (l : List Rec) (k : Nat) : Nat → Tr := trRec (l.getD k default)
def zR : List Value := [.int .u64 0, .string ⟨#[]⟩, .slice none 0 0, .int .u64 0, .int .u64 0]
def towN (l : List Rec) (k : Nat) : Blk := .trow 27 5 k none (trRs l) [] zR
def towR (l : List Rec) : Blk := towN l l.length
def recW (x : Rec) : T An := .ret (.agg [.y (.int .u64 x.off), .y (.string x.key), .own 0 1 0 x.val.length, .y (.int .u64 x.prod), .y (.int .u64 x.seq)], [.row 5 1 x.val.length none (cellsOf' encB x.val)], [])
noncomputable def owwH (b : Bool) (x : Rec) : HintsT Tryd.prog := withSh (hh _ noLp (cs1 47 1 4 (clnC true x.val.length (cellsOf' encB x.val)) noCs) noOp) noSh
def vcOww (x : Rec) (o : Int) : Prop :=
  ((true = true ∧ List.length x.val = List.length x.val ∧ contLe (List.length x.val) (1 : Nat) (cellsOf' encB x.val) (cellsOf' encB x.val)) ∧ True) ∧ True ∧ List.length x.val ≤ (140737488355328 : Nat) ∧ (IntKind.wrap IntKind.u64 o = IntKind.wrap IntKind.u64 o ∧ x.key = x.key ∧ ((0 : Nat) = (0 : Nat) ∧ List.length x.val = List.length x.val) ∧ x.prod = x.prod ∧ x.seq = x.seq ∧ True) ∧ (List.length x.val = List.length x.val ∧ contLe (List.length x.val) (1 : Nat) (cellsOf' encB x.val) (cellsOf' encB x.val)) ∧ True
theorem vcOww_eq (x : Rec) (o : Int) : (ctrVC Tryd.prog (owwH true x) 47 [.agg (encR x), .y (.int .i64 o)] [] (recW (x.to (IntKind.u64.wrap o)))) = vcOww x o := by kernel_rfl
theorem oww_c (x : Rec) (o : Int) (h : x.val.length ≤ 140737488355328) : (recW (x.to (IntKind.u64.wrap o))).Sat (ACall' Tryd.prog 47 [.agg (encR x), .y (.int .i64 o)] []) := by
  refine ctr_vc (ht := owwH true x) Tryd.mixed rfl ?_
  rw [vcOww_eq x o]
  unfold vcOww
  simp [h, Rec.to]
noncomputable def owwC (x : Rec) (o : Int) : Ctr Tryd.prog := ⟨47, [.agg (encR x), .y (.int .i64 o)], [], .need (x.val.length ≤ 140737488355328) (recW (x.to (IntKind.u64.wrap o))), T.Sat.need fun h => oww_c x o h⟩
end Go.Proofs.YtjmdejbijigfjaaDoor.H

namespace Go.Proofs.YtjmdejbijigfjaaDoor
open Go.Ax
set_option maxRecDepth 1000000
noncomputable def hasC (r : Rng) (k : ByteArray) : Ctr Tryd.prog := ⟨28, [.agg (encG r), .y (.string k)], [], boolR (hasK r k), has_c r k⟩
noncomputable def has2C (r : Rng) (k : ByteArray) : Ctr Tryd.prog := ⟨51, [.agg (encG r), .y (.string k)], [], boolR (hasK r k), has2_c r k⟩
structure Ke where
  (out : List Rec) (to : List Int)
def Ke.step (r : Rng) (s : Ke) (x : Rec) : Ke := ⟨if hasK r x.key then s.out ++ [x.to (IntKind.u64.wrap (s.out.length : Nat))] else s.out, s.to ++ [IntKind.u64.wrap (s.out.length : Nat)]⟩
def ke (r : Rng) (l : List Rec) : Ke := l.foldl (Ke.step r) ⟨[], []⟩
theorem ke_step {r : Rng} {l : List Rec} {k : Nat} (h : k < l.length) : ke r (l.take (k + 1)) = (ke r (l.take k)).step r (l.getD k default) := by
  unfold ke
  rw [List.take_add_one, List.foldl_append, List.getElem?_eq_getElem h]
  simp [List.getElem?_eq_getElem h]
def kpM (r : Rng) (s : Ke) : List Blk := [.box 47 (encG r), rowR s.out, rowU s.to]
def kpT (b : Bool) (l : List Rec) (s : Ke) (k : Nat) : List AV := mkT 53 [(3, .ptr 0 0 0 0), (6, .own 1 5 0 s.out.length), (7, .own 2 1 0 s.to.length), (22, encRs b l), (23, .y (.int .i64 l.length)), (24, .y (.int .i64 k))]
def keR (s : Ke) : T An := .ret (.tup [.own 0 5 0 s.out.length, .own 1 1 0 s.to.length], [rowR s.out, rowU s.to], [])
def Ke.end (s : Ke) : Ke := ⟨s.out, s.to ++ [IntKind.u64.wrap (s.out.length : Nat)]⟩
def keT (r : Rng) (l : List Rec) : T An := .ite (isLog l && chkK r == 0) (keR (ke r l).end) (.ret (.tup [.s (.slice none 0 0), .s (.slice none 0 0)], [], []))
def krT (b : Bool) (l : List Rec) (s : Ke) (k : Nat) : List AV := mkT 57 [(0, encRs b l), (3, .ptr 0 0 0 0), (7, .own 1 5 0 s.out.length), (8, .own 2 1 0 s.to.length), (9, .y (.int .i64 k))]
def krS (r : Rng) (s : Ke) (_ : Unit) : Exit × List AV × List Blk := (.exit 0, mkT 57 [(7, .own 1 5 0 s.out.length), (8, .own 2 1 0 s.to.length)], kpM r s)
noncomputable def krH (r : Rng) (l : List Rec) (k : Nat) : HintsT Tryd.prog := hh _ noLp (cs1 24 10 6 (has2C r (l.getD k default).key) (cs1 24 12 7 (atC (l.getD k default) (ke r (l.take k)).out.length) noCs)) noOp
def vcKrL (b : Bool) (r : Rng) (l : List Rec) (k : Nat) : Prop :=
  (decide ((↑k : Int) < (↑(List.length l) : Int)) = true → (decide (List.length (ke r (List.take k l)).to = List.length (ke r (List.take k l)).to) && decide (List.length (ke r (List.take k l)).to + (1 : Nat) ≤ (9223372036854775807 : Nat)) && decide ((List.length (ke r (List.take k l)).to + (1 : Nat)) * (8 : Nat) ≤ (140737488355328 : Nat))) = true ∧ (true && decide ((↑k : Int) < (↑(List.length l) : Int))) = true ∧ ((r.lo = r.lo ∧ r.hi = r.hi ∧ True) ∧ (List.getD l (Int.toNat (↑k : Int)) (@default Rec instInhabitedRec)).key = (List.getD l k (@default Rec instInhabitedRec)).key ∧ True) ∧ True ∧ (hasK r (List.getD l k (@default Rec instInhabitedRec)).key = true → (true && decide ((↑k : Int) < (↑(List.length l) : Int))) = true ∧ (((List.getD l (Int.toNat (↑k : Int)) (@default Rec instInhabitedRec)).off = (List.getD l k (@default Rec instInhabitedRec)).off ∧ (List.getD l (Int.toNat (↑k : Int)) (@default Rec instInhabitedRec)).key = (List.getD l k (@default Rec instInhabitedRec)).key ∧ (true = true ∧ List.length (List.getD l (Int.toNat (↑k : Int)) (@default Rec instInhabitedRec)).val = List.length (List.getD l k (@default Rec instInhabitedRec)).val ∧ contLe (List.length (List.getD l (Int.toNat (↑k : Int)) (@default Rec instInhabitedRec)).val) (1 : Nat) (cellsOf' encB (List.getD l (Int.toNat (↑k : Int)) (@default Rec instInhabitedRec)).val) (cellsOf' encB (List.getD l k (@default Rec instInhabitedRec)).val)) ∧ (List.getD l (Int.toNat (↑k : Int)) (@default Rec instInhabitedRec)).prod = (List.getD l k (@default Rec instInhabitedRec)).prod ∧ (List.getD l (Int.toNat (↑k : Int)) (@default Rec instInhabitedRec)).seq = (List.getD l k (@default Rec instInhabitedRec)).seq ∧ True) ∧ (↑(List.length (ke r (List.take k l)).out) : Int) = (↑(List.length (ke r (List.take k l)).out) : Int) ∧ True) ∧ True ∧ List.length (List.getD l k (@default Rec instInhabitedRec)).val ≤ (140737488355328 : Nat) ∧ (decide (List.length (ke r (List.take k l)).out = List.length (ke r (List.take k l)).out) && decide (List.length (ke r (List.take k l)).out + (1 : Nat) ≤ (9223372036854775807 : Nat)) && decide ((List.length (ke r (List.take k l)).out + (1 : Nat)) * (64 : Nat) ≤ (140737488355328 : Nat))) = true ∧ ∃ (j : Nat), List.length l - j < List.length l - k ∧ (((b = b ∧ List.length l = List.length l ∧ contLe (List.length l) (5 : Nat) (cellsOf' encR l) (cellsOf' encR l)) ∧ ((0 : Nat) = (0 : Nat) ∧ (0 : Nat) = (0 : Nat)) ∧ ((0 : Nat) = (0 : Nat) ∧ List.length (ke r (List.take k l)).out + (1 : Nat) = List.length (ke r (List.take j l)).out) ∧ ((0 : Nat) = (0 : Nat) ∧ List.length (ke r (List.take k l)).to + (1 : Nat) = List.length (ke r (List.take j l)).to) ∧ IntKind.wrap IntKind.i64 ((↑k : Int) + (1 : Int)) = (↑j : Int) ∧ True) ∧ ((r.lo = r.lo ∧ r.hi = r.hi ∧ True) ∧ (List.length (ke r (List.take k l)).out + (1 : Nat) = List.length (ke r (List.take j l)).out ∧ contLe (List.length (ke r (List.take k l)).out + (1 : Nat)) (5 : Nat) (appRow (List.length (ke r (List.take k l)).out) (cellsOf' encR (ke r (List.take k l)).out) fun (k_1 j : Nat) => Ax.get [AV.y (Value.int IntKind.u64 (IntKind.wrap IntKind.u64 (↑(List.length (ke r (List.take k l)).out) : Int))), AV.y (Value.string (List.getD l k (@default Rec instInhabitedRec)).key), AV.ys true (1 : Nat) (List.length (List.getD l k (@default Rec instInhabitedRec)).val) (cellsOf' encB (List.getD l k (@default Rec instInhabitedRec)).val), AV.y (Value.int IntKind.u64 (List.getD l k (@default Rec instInhabitedRec)).prod), AV.y (Value.int IntKind.u64 (List.getD l k (@default Rec instInhabitedRec)).seq)] (k_1 * (5 : Nat) + j)) (cellsOf' encR (ke r (List.take j l)).out)) ∧ (List.length (ke r (List.take k l)).to + (1 : Nat) = List.length (ke r (List.take j l)).to ∧ contLe (List.length (ke r (List.take k l)).to + (1 : Nat)) (1 : Nat) (appRow (List.length (ke r (List.take k l)).to) (cellsOf' encU (ke r (List.take k l)).to) fun (k_1 j : Nat) => Ax.get [AV.y (Value.int IntKind.u64 (IntKind.wrap IntKind.u64 (↑(List.length (ke r (List.take k l)).out) : Int)))] (k_1 * (1 : Nat) + j)) (cellsOf' encU (ke r (List.take j l)).to)) ∧ True) ∧ true = true) ∧ true = true ∧ () = ()) ∧ (hasK r (List.getD l k (@default Rec instInhabitedRec)).key = false → ∃ (j : Nat), List.length l - j < List.length l - k ∧ (((b = b ∧ List.length l = List.length l ∧ contLe (List.length l) (5 : Nat) (cellsOf' encR l) (cellsOf' encR l)) ∧ ((0 : Nat) = (0 : Nat) ∧ (0 : Nat) = (0 : Nat)) ∧ ((0 : Nat) = (0 : Nat) ∧ List.length (ke r (List.take k l)).out = List.length (ke r (List.take j l)).out) ∧ ((0 : Nat) = (0 : Nat) ∧ List.length (ke r (List.take k l)).to + (1 : Nat) = List.length (ke r (List.take j l)).to) ∧ IntKind.wrap IntKind.i64 ((↑k : Int) + (1 : Int)) = (↑j : Int) ∧ True) ∧ ((r.lo = r.lo ∧ r.hi = r.hi ∧ True) ∧ (List.length (ke r (List.take k l)).out = List.length (ke r (List.take j l)).out ∧ contLe (List.length (ke r (List.take k l)).out) (5 : Nat) (cellsOf' encR (ke r (List.take k l)).out) (cellsOf' encR (ke r (List.take j l)).out)) ∧ (List.length (ke r (List.take k l)).to + (1 : Nat) = List.length (ke r (List.take j l)).to ∧ contLe (List.length (ke r (List.take k l)).to + (1 : Nat)) (1 : Nat) (appRow (List.length (ke r (List.take k l)).to) (cellsOf' encU (ke r (List.take k l)).to) fun (k_1 j : Nat) => Ax.get [AV.y (Value.int IntKind.u64 (IntKind.wrap IntKind.u64 (↑(List.length (ke r (List.take k l)).out) : Int)))] (k_1 * (1 : Nat) + j)) (cellsOf' encU (ke r (List.take j l)).to)) ∧ True) ∧ true = true) ∧ true = true ∧ () = ())) ∧ (decide ((↑k : Int) < (↑(List.length l) : Int)) = false → (((0 : Nat) = (0 : Nat) ∧ List.length (ke r (List.take k l)).out = List.length (ke r l).out) ∧ ((0 : Nat) = (0 : Nat) ∧ List.length (ke r (List.take k l)).to = List.length (ke r l).to) ∧ True) ∧ ((r.lo = r.lo ∧ r.hi = r.hi ∧ True) ∧ (List.length (ke r (List.take k l)).out = List.length (ke r l).out ∧ contLe (List.length (ke r (List.take k l)).out) (5 : Nat) (cellsOf' encR (ke r (List.take k l)).out) (cellsOf' encR (ke r l).out)) ∧ (List.length (ke r (List.take k l)).to = List.length (ke r l).to ∧ contLe (List.length (ke r (List.take k l)).to) (1 : Nat) (cellsOf' encU (ke r (List.take k l)).to) (cellsOf' encU (ke r l).to)) ∧ True) ∧ true = true)
theorem vcKrL_eq (b : Bool) (r : Rng) (l : List Rec) (k : Nat) : (loopVC Tryd.prog (krH r l k) 24 7 (fun k => l.length - k) (fun k => krT b l (ke r (l.take k)) k) (fun k => kpM r (ke r (l.take k))) jX (fun _ => .ret ()) (krS r (ke r l)) k) = vcKrL b r l k := by kernel_rfl
noncomputable def keH2 (b : Bool) (r : Rng) (l : List Rec) : HintsT Tryd.prog := hh _ (lp1 24 7 (jobOf (fun k => krT b l (ke r (l.take k)) k) (fun k => kpM r (ke r (l.take k))) jX (fun _ => .ret ()) (krS r (ke r l)) 0) noLp) (cs1 24 1 1 (lrC b l) (cs1 24 2 4 (chk2C r) noCs)) (op1 24 4 0 (.row 27 5) (op1 24 5 0 (.row 24 1) noOp))
def vcKeep2 (b : Bool) (r : Rng) (l : List Rec) : Prop :=
  ((b = b ∧ List.length l = List.length l ∧ contLe (List.length l) (5 : Nat) (cellsOf' encR l) (cellsOf' encR l)) ∧ True) ∧ True ∧ List.length l ≤ (9223372036854775806 : Nat) ∧ ((!isLog l) = true → ((isLog l && chkK r == (0 : Int)) = true → (False ∧ False ∧ True) ∧ False) ∧ ((isLog l && chkK r == (0 : Int)) = false → (True ∧ True ∧ True) ∧ True)) ∧ ((!isLog l) = false → ((r.lo = r.lo ∧ r.hi = r.hi ∧ True) ∧ True) ∧ True ∧ ((chkK r != (0 : Int)) = true → ((isLog l && chkK r == (0 : Int)) = true → (False ∧ False ∧ True) ∧ False) ∧ ((isLog l && chkK r == (0 : Int)) = false → (True ∧ True ∧ True) ∧ True)) ∧ ((chkK r != (0 : Int)) = false → (((b = b ∧ List.length l = List.length l ∧ contLe (List.length l) (5 : Nat) (cellsOf' encR l) (cellsOf' encR l)) ∧ ((0 : Nat) = (0 : Nat) ∧ (0 : Nat) = (0 : Nat)) ∧ ((0 : Nat) = (0 : Nat) ∧ (0 : Nat) = (0 : Nat)) ∧ ((0 : Nat) = (0 : Nat) ∧ (0 : Nat) = (0 : Nat)) ∧ (0 : Int) = (0 : Int) ∧ True) ∧ ((r.lo = r.lo ∧ r.hi = r.hi ∧ True) ∧ ((0 : Nat) = (0 : Nat) ∧ contLe (0 : Nat) (5 : Nat) (fun (x x_1 : Nat) => AV.junk) (cellsOf' encR [])) ∧ ((0 : Nat) = (0 : Nat) ∧ contLe (0 : Nat) (1 : Nat) (fun (x x_1 : Nat) => AV.junk) (cellsOf' encU [])) ∧ True) ∧ true = true) ∧ LoopOk Tryd.prog (24 : Nat) (7 : Nat) (loopAt Tryd.prog (24 : Nat) (7 : Nat)) { t := krT b l (ke r (List.take (0 : Nat) l)) (0 : Nat), m := kpM r (ke r (List.take (0 : Nat) l)), mv := [] : St } (T.map (lout jX (krS r (ke r l))) ((fun (x : Nat) => T.ret ()) (0 : Nat))) ∧ (decide (List.length (ke r l).to = List.length (ke r l).to) && decide (List.length (ke r l).to + (1 : Nat) ≤ (9223372036854775807 : Nat)) && decide ((List.length (ke r l).to + (1 : Nat)) * (8 : Nat) ≤ (140737488355328 : Nat))) = true ∧ ((isLog l && chkK r == (0 : Int)) = true → (((0 : Nat) = (0 : Nat) ∧ List.length (ke r l).out = List.length (ke r l).out) ∧ ((0 : Nat) = (0 : Nat) ∧ List.length (ke r l).to + (1 : Nat) = List.length ((ke r l).to ++ [IntKind.wrap IntKind.u64 (↑(List.length (ke r l).out) : Int)])) ∧ True) ∧ (List.length (ke r l).out = List.length (ke r l).out ∧ contLe (List.length (ke r l).out) (5 : Nat) (cellsOf' encR (ke r l).out) (cellsOf' encR (ke r l).out)) ∧ (List.length (ke r l).to + (1 : Nat) = List.length ((ke r l).to ++ [IntKind.wrap IntKind.u64 (↑(List.length (ke r l).out) : Int)]) ∧ contLe (List.length (ke r l).to + (1 : Nat)) (1 : Nat) (appRow (List.length (ke r l).to) (cellsOf' encU (ke r l).to) fun (k j : Nat) => Ax.get [AV.y (Value.int IntKind.u64 (IntKind.wrap IntKind.u64 (↑(List.length (ke r l).out) : Int)))] (k * (1 : Nat) + j)) (cellsOf' encU ((ke r l).to ++ [IntKind.wrap IntKind.u64 (↑(List.length (ke r l).out) : Int)]))) ∧ True) ∧ ((isLog l && chkK r == (0 : Int)) = false → False)))
theorem vcKeep2_eq (b : Bool) (r : Rng) (l : List Rec) : (ctrVC Tryd.prog (keH2 b r l) 24 [encRs b l, .agg (encG r)] [] (keT r l)) = vcKeep2 b r l := by kernel_rfl
end Go.Proofs.YtjmdejbijigfjaaDoor

namespace Go.Proofs.YtjmdejbijigfjaaDoor
open Go.Ax
set_option maxRecDepth 1000000
theorem log_val {l : List Rec} (h : isLog l = true) {k : Nat} (hk : k < l.length) : (l.getD k default).val.length ≤ 256 := by
  simp only [isLog, Bool.and_eq_true] at h
  have h1 := h.1
  unfold logFrom at h1
  rw [List.all_eq_true] at h1
  have h2 := h1 k (by simp; omega)
  simp only [okR, Bool.and_eq_true, decide_eq_true_eq] at h2
  exact h2.2.2
theorem log_len {l : List Rec} (h : isLog l = true) : l.length ≤ 4096 := by
  simp only [isLog, Bool.and_eq_true, decide_eq_true_eq] at h
  exact h.2
theorem ke_len (r : Rng) (l : List Rec) : ∀ k, k ≤ l.length → (ke r (l.take k)).to.length = k ∧ (ke r (l.take k)).out.length ≤ k := by
  intro k
  induction k with
  | zero => intro _; simp [ke]
  | succ k ih =>
    intro hk
    obtain ⟨h1, h2⟩ := ih (by omega)
    rw [ke_step (by omega)]
    unfold Ke.step
    constructor
    · simp [h1]
    · dsimp only
      split
      · simp; omega
      · omega
theorem ke_len' (r : Rng) (l : List Rec) : (ke r l).to.length = l.length ∧ (ke r l).out.length ≤ l.length := by
  have := ke_len r l l.length (Nat.le_refl _)
  rwa [List.take_length] at this
theorem kr_loop (b : Bool) (r : Rng) (l : List Rec) (hl : isLog l = true) (k : Nat) : LoopOk Tryd.prog 24 7 (loopAt Tryd.prog 24 7) ⟨krT b l (ke r (l.take k)) k, kpM r (ke r (l.take k)), []⟩ (T.map (lout jX (krS r (ke r l))) (.ret ())) := by
  refine loop_vcH (o := fun _ => .ret ()) (stT := fun k => krT b l (ke r (l.take k)) k) (stM := fun k => kpM r (ke r (l.take k))) Tryd.mixed (fun _ => rfl) (fun k => (vcKrL_eq b r l k).mpr ?_) k
  unfold vcKrL
  have hn := log_len hl
  by_cases h : k < l.length
  · obtain ⟨h1, h2⟩ := ke_len r l k (by omega)
    have hz : decide ((k : Int) < l.length) = true := by simp; omega
    have hv := log_val hl h
    have hs := ke_step (r := r) h
    have hw : IntKind.i64.wrap ((k : Int) + 1) = ((k + 1 : Nat) : Int) := by rw [wrap_i64 (by omega) (by omega)]; omega
    simp only [hz, Int.toNat_natCast]
    generalize l.getD k default = x at *
    generalize ke r (l.take k) = s at *
    simp
    refine ⟨⟨by omega, by omega⟩, fun hh => ⟨by omega, ⟨by omega, by omega⟩, Exists.intro (k + 1) ?_⟩, fun hh => Exists.intro (k + 1) ?_⟩
    · have a1 : contLe (s.to.length + 1) 1 (appRow s.to.length (cellsOf' encU s.to) fun k j => Ax.get [AV.y (Value.int IntKind.u64 (IntKind.u64.wrap ↑s.out.length))] (k + j)) (cellsOf' encU (s.to ++ [IntKind.u64.wrap ↑s.out.length])) := app1_le1 (le0_refl _)
      rw [hs]
      simp [Ke.step, hh]
      refine ⟨by omega, hw, app1_le rfl (rec_le (le0_refl _) (le0_refl _) (le0_refl _) (le0_refl _) (le0_refl _)), a1⟩
    · have a1 : contLe (s.to.length + 1) 1 (appRow s.to.length (cellsOf' encU s.to) fun k j => Ax.get [AV.y (Value.int IntKind.u64 (IntKind.u64.wrap ↑s.out.length))] (k + j)) (cellsOf' encU (s.to ++ [IntKind.u64.wrap ↑s.out.length])) := app1_le1 (le0_refl _)
      rw [hs]
      simp [Ke.step, hh]
      refine ⟨by omega, hw, a1⟩
  · have hz : decide ((k : Int) < l.length) = false := by simp; omega
    rw [List.take_of_length_le (by omega)]
    simp [hz]
    exact fun e => absurd e h
theorem keepr_c (b : Bool) (r : Rng) (l : List Rec) (h1 : l.length ≤ 4611686018427387903) : (keT r l).Sat (ACall' Tryd.prog 24 [encRs b l, .agg (encG r)] []) := by
  refine ctr_vc (ht := keH2 b r l) Tryd.mixed rfl ?_
  rw [vcKeep2_eq b r l]
  unfold vcKeep2
  cases hl : isLog l
  · simp; omega
  · have hn := log_len hl
    have lp := kr_loop b r l hl 0
    rw [List.take_zero] at lp
    obtain ⟨q1, q2⟩ := ke_len' r l
    have a1 : contLe ((ke r l).to.length + 1) 1 (appRow (ke r l).to.length (cellsOf' encU (ke r l).to) fun k j => Ax.get [AV.y (Value.int IntKind.u64 (IntKind.u64.wrap ↑(ke r l).out.length))] (k + j)) (cellsOf' encU ((ke r l).to ++ [IntKind.u64.wrap ↑(ke r l).out.length])) := app1_le1 (le0_refl _)
    by_cases hc : chkK r = 0
    · simp [hc, lp, Ke.end, a1]
      omega
    · simp [hc]; omega
end Go.Proofs.YtjmdejbijigfjaaDoor

namespace Go.Proofs.YtjmdejbijigfjaaDoor
open Go.Ax
set_option maxRecDepth 1000000
end Go.Proofs.YtjmdejbijigfjaaDoor

namespace Go.Proofs.YtjmdejbijigfjaaDoor.H
open Go.Ax Go.Proofs.YtjmdejbijigfjaaDoor
set_option maxRecDepth 1000000
end Go.Proofs.YtjmdejbijigfjaaDoor.H

namespace Go.Proofs.YtjmdejbijigfjaaDoor.H
open Go.Ax Go.Proofs.YtjmdejbijigfjaaDoor
set_option maxRecDepth 1000000
def encF (x : Rec) : List AV := [.y (.int .u64 x.off), .y (.string x.key), encBs false x.val, .y (.int .u64 x.prod), .y (.int .u64 x.seq)]
def encFs (b : Bool) (l : List Rec) : AV := .ys b 5 l.length (cellsOf' encF l)
def sfT (b1 b2 : Bool) (a : List Rec) (k : Nat) : List AV := mkT 82 [(0, encFs b1 a), (1, encRs b2 a), (5, .y (.int .i64 k))]
def sfS (_ : Unit) : Exit × List AV × List Blk := (.exit 0, mkT 82 [], [])
def vcSfL (b1 : Bool) (b2 : Bool) (a : List Rec) (k : Nat) : Prop :=
  (decide ((↑k : Int) < (↑(List.length a) : Int)) = true → (true && decide ((↑k : Int) < (↑(List.length a) : Int))) = true ∧ (true && decide ((↑k : Int) < (↑(List.length a) : Int))) = true ∧ (((List.getD a (Int.toNat (↑k : Int)) (@default Rec instInhabitedRec)).off != (List.getD a (Int.toNat (↑k : Int)) (@default Rec instInhabitedRec)).off) = true → False) ∧ (((List.getD a (Int.toNat (↑k : Int)) (@default Rec instInhabitedRec)).off != (List.getD a (Int.toNat (↑k : Int)) (@default Rec instInhabitedRec)).off) = false → (true && decide ((↑k : Int) < (↑(List.length a) : Int))) = true ∧ (true && decide ((↑k : Int) < (↑(List.length a) : Int))) = true ∧ ((!(List.getD a (Int.toNat (↑k : Int)) (@default Rec instInhabitedRec)).key.data.toList == (List.getD a (Int.toNat (↑k : Int)) (@default Rec instInhabitedRec)).key.data.toList) = true → False) ∧ ((!(List.getD a (Int.toNat (↑k : Int)) (@default Rec instInhabitedRec)).key.data.toList == (List.getD a (Int.toNat (↑k : Int)) (@default Rec instInhabitedRec)).key.data.toList) = false → (true && decide ((↑k : Int) < (↑(List.length a) : Int))) = true ∧ (∀ (k_1 : Nat), k_1 < List.length (List.getD a (Int.toNat (↑k : Int)) (@default Rec instInhabitedRec)).val → true = true) ∧ (true && decide ((↑k : Int) < (↑(List.length a) : Int))) = true ∧ (∀ (k_1 : Nat), k_1 < List.length (List.getD a (Int.toNat (↑k : Int)) (@default Rec instInhabitedRec)).val → true = true) ∧ ((!List.map (fun (a : AV) => match match a with | AV.s (Value.int IntKind.u8 n) => some n | AV.y (Value.int IntKind.u8 n) => some n | x => none with | some n => UInt8.ofNat (Int.toNat n) | none => (0 : UInt8)) (List.map (fun (k_1 : Nat) => AV.y (Value.int IntKind.u8 (List.getD (List.getD a (Int.toNat (↑k : Int)) (@default Rec instInhabitedRec)).val k_1 (0 : Int)))) (List.range (List.length (List.getD a (Int.toNat (↑k : Int)) (@default Rec instInhabitedRec)).val))) == List.map (fun (a : AV) => match match a with | AV.s (Value.int IntKind.u8 n) => some n | AV.y (Value.int IntKind.u8 n) => some n | x => none with | some n => UInt8.ofNat (Int.toNat n) | none => (0 : UInt8)) (List.map (fun (k_1 : Nat) => AV.y (Value.int IntKind.u8 (List.getD (List.getD a (Int.toNat (↑k : Int)) (@default Rec instInhabitedRec)).val k_1 (0 : Int)))) (List.range (List.length (List.getD a (Int.toNat (↑k : Int)) (@default Rec instInhabitedRec)).val)))) = true → False) ∧ ((!List.map (fun (a : AV) => match match a with | AV.s (Value.int IntKind.u8 n) => some n | AV.y (Value.int IntKind.u8 n) => some n | x => none with | some n => UInt8.ofNat (Int.toNat n) | none => (0 : UInt8)) (List.map (fun (k_1 : Nat) => AV.y (Value.int IntKind.u8 (List.getD (List.getD a (Int.toNat (↑k : Int)) (@default Rec instInhabitedRec)).val k_1 (0 : Int)))) (List.range (List.length (List.getD a (Int.toNat (↑k : Int)) (@default Rec instInhabitedRec)).val))) == List.map (fun (a : AV) => match match a with | AV.s (Value.int IntKind.u8 n) => some n | AV.y (Value.int IntKind.u8 n) => some n | x => none with | some n => UInt8.ofNat (Int.toNat n) | none => (0 : UInt8)) (List.map (fun (k_1 : Nat) => AV.y (Value.int IntKind.u8 (List.getD (List.getD a (Int.toNat (↑k : Int)) (@default Rec instInhabitedRec)).val k_1 (0 : Int)))) (List.range (List.length (List.getD a (Int.toNat (↑k : Int)) (@default Rec instInhabitedRec)).val)))) = false → (true && decide ((↑k : Int) < (↑(List.length a) : Int))) = true ∧ (true && decide ((↑k : Int) < (↑(List.length a) : Int))) = true ∧ (((List.getD a (Int.toNat (↑k : Int)) (@default Rec instInhabitedRec)).prod != (List.getD a (Int.toNat (↑k : Int)) (@default Rec instInhabitedRec)).prod) = true → False) ∧ (((List.getD a (Int.toNat (↑k : Int)) (@default Rec instInhabitedRec)).prod != (List.getD a (Int.toNat (↑k : Int)) (@default Rec instInhabitedRec)).prod) = false → (true && decide ((↑k : Int) < (↑(List.length a) : Int))) = true ∧ (true && decide ((↑k : Int) < (↑(List.length a) : Int))) = true ∧ (((List.getD a (Int.toNat (↑k : Int)) (@default Rec instInhabitedRec)).seq != (List.getD a (Int.toNat (↑k : Int)) (@default Rec instInhabitedRec)).seq) = true → False) ∧ (((List.getD a (Int.toNat (↑k : Int)) (@default Rec instInhabitedRec)).seq != (List.getD a (Int.toNat (↑k : Int)) (@default Rec instInhabitedRec)).seq) = false → ∃ (j : Nat), List.length a - j < List.length a - k ∧ (((b1 = b1 ∧ List.length a = List.length a ∧ contLe (List.length a) (5 : Nat) (cellsOf' encF a) (cellsOf' encF a)) ∧ (b2 = b2 ∧ List.length a = List.length a ∧ contLe (List.length a) (5 : Nat) (cellsOf' encR a) (cellsOf' encR a)) ∧ IntKind.wrap IntKind.i64 ((↑k : Int) + (1 : Int)) = (↑j : Int) ∧ True) ∧ True ∧ true = true) ∧ true = true ∧ () = ())))))) ∧ (decide ((↑k : Int) < (↑(List.length a) : Int)) = false → True ∧ True ∧ true = true)
theorem vcSfL_eq (b1 : Bool) (b2 : Bool) (a : List Rec) (k : Nat) : (loopVC Tryd.prog (hT _) 16 4 (fun k => a.length - k) (sfT b1 b2 a) (fun _ => []) [0] (fun _ => .ret ()) sfS k) = vcSfL b1 b2 a k := by kernel_rfl
noncomputable def sfH (b1 b2 : Bool) (a : List Rec) : HintsT Tryd.prog := hh _ (lp1 16 4 (jobOf (sfT b1 b2 a) (fun _ => []) [0] (fun _ => .ret ()) sfS 0) noLp) noCs noOp
def vcSf (b1 : Bool) (b2 : Bool) (a : List Rec) : Prop :=
  (((↑(List.length a) : Int) != (↑(List.length a) : Int)) = true → false = true ∧ True) ∧ (((↑(List.length a) : Int) != (↑(List.length a) : Int)) = false → (((b1 = b1 ∧ List.length a = List.length a ∧ contLe (List.length a) (5 : Nat) (cellsOf' encF a) (cellsOf' encF a)) ∧ (b2 = b2 ∧ List.length a = List.length a ∧ contLe (List.length a) (5 : Nat) (cellsOf' encR a) (cellsOf' encR a)) ∧ (0 : Int) = (0 : Int) ∧ True) ∧ True ∧ true = true) ∧ LoopOk Tryd.prog (16 : Nat) (4 : Nat) (loopAt Tryd.prog (16 : Nat) (4 : Nat)) { t := sfT b1 b2 a (0 : Nat), m := [], mv := [] : St } (T.map (lout [(0 : Nat)] sfS) ((fun (x : Nat) => T.ret ()) (0 : Nat))) ∧ true = true ∧ True)
theorem vcSf_eq (b1 : Bool) (b2 : Bool) (a : List Rec) : (ctrVC Tryd.prog (sfH b1 b2 a) 16 [encFs b1 a, encRs b2 a] [] (boolR true)) = vcSf b1 b2 a := by kernel_rfl
theorem sf_loop (b1 b2 : Bool) (a : List Rec) (hl : a.length ≤ 9223372036854775806) (k : Nat) : LoopOk Tryd.prog 16 4 (loopAt Tryd.prog 16 4) ⟨sfT b1 b2 a k, [], []⟩ (T.map (lout [0] sfS) (.ret ())) := by
  refine loop_vc (o := fun _ => .ret ()) Tryd.mixed (fun _ => rfl) (fun k => (vcSfL_eq b1 b2 a k).mpr ?_) k
  unfold vcSfL
  simp
  intro h
  have hb : ∀ q : Nat, isU8 (cellsOf' encB (a[k]?.getD default).val q 0) = true := fun _ => rfl
  simp [h, hb]
  exact ⟨k + 1, by omega, by rw [wrap_i64 (by omega) (by omega)]; omega⟩
theorem sf_c (b1 b2 : Bool) (a : List Rec) (hl : a.length ≤ 9223372036854775806) : (boolR true).Sat (ACall' Tryd.prog 16 [encFs b1 a, encRs b2 a] []) := by
  refine ctr_vc (ht := sfH b1 b2 a) Tryd.mixed rfl ?_
  rw [vcSf_eq b1 b2 a]
  unfold vcSf
  simp [sf_loop b1 b2 a hl 0]
noncomputable def sfC (b1 b2 : Bool) (a b : List Rec) : Ctr Tryd.prog := ⟨16, [encFs b1 a, encRs b2 b], [], .need (a.length ≤ 9223372036854775806 ∧ a = b) (boolR true), T.Sat.need fun h => by obtain ⟨h1, rfl⟩ := h; exact sf_c b1 b2 a h1⟩
def rowN (l : List Rec) (k : Nat) : Blk := .row 27 5 k none (cellsOf' encR l)
def loT (b : Bool) (l : List Rec) (k : Nat) : List AV := mkT 30 [(0, encRs b l), (3, .own 0 5 0 k), (4, .y (.int .i64 k))]
def loS (l : List Rec) (_ : Unit) : Exit × List AV × List Blk := (.exit 0, mkT 30 [(3, .own 0 5 0 l.length)], [rowR l])
noncomputable def loLH : HintsT Tryd.prog := withSh (hh _ noLp noCs noOp) (sh1 13 7 1 779 noSh)
def vcLoL (b : Bool) (l : List Rec) (k : { k : Nat // k ≤ l.length }) : Prop :=
  (decide ((↑k.val : Int) < (↑(List.length l) : Int)) = true → (true && decide ((↑k.val : Int) < (↑(List.length l) : Int))) = true ∧ (decide ((0 : Nat) + List.length (List.getD l (Int.toNat (↑k.val : Int)) (@default Rec instInhabitedRec)).val ≤ (9223372036854775807 : Nat)) && decide (((0 : Nat) + List.length (List.getD l (Int.toNat (↑k.val : Int)) (@default Rec instInhabitedRec)).val) * (1 : Nat) ≤ (140737488355328 : Nat))) = true ∧ (∀ (k_1 : Nat), k_1 < (0 : Nat) + List.length (List.getD l (Int.toNat (↑k.val : Int)) (@default Rec instInhabitedRec)).val → ∀ (j : Nat), j < (1 : Nat) → tagT (appRow (0 : Nat) (fun (k j : Nat) => AV.junk) (cellsOf' encB (List.getD l (Int.toNat (↑k.val : Int)) (@default Rec instInhabitedRec)).val) k_1 j) = true) ∧ (decide (k.val = k.val) && decide (k.val + (1 : Nat) ≤ (9223372036854775807 : Nat)) && decide ((k.val + (1 : Nat)) * (64 : Nat) ≤ (140737488355328 : Nat))) = true ∧ ∃ (j : { k : Nat // k ≤ List.length l }), List.length l - j.val < List.length l - k.val ∧ (((b = b ∧ List.length l = List.length l ∧ contLe (List.length l) (5 : Nat) (cellsOf' encR l) (cellsOf' encR l)) ∧ ((0 : Nat) = (0 : Nat) ∧ k.val + (1 : Nat) = j.val) ∧ IntKind.wrap IntKind.i64 ((↑k.val : Int) + (1 : Int)) = (↑j.val : Int) ∧ True) ∧ ((k.val + (1 : Nat) = j.val ∧ contLe (k.val + (1 : Nat)) (5 : Nat) (appRow k.val (cellsOf' encR l) fun (k_1 j : Nat) => Ax.get [AV.y (Value.int IntKind.u64 (List.getD l (Int.toNat (↑k.val : Int)) (@default Rec instInhabitedRec)).off), AV.y (Value.string (List.getD l (Int.toNat (↑k.val : Int)) (@default Rec instInhabitedRec)).key), AV.ys true (1 : Nat) ((0 : Nat) + List.length (List.getD l (Int.toNat (↑k.val : Int)) (@default Rec instInhabitedRec)).val) (Ax.rowAt (0 : Nat) (appRow (0 : Nat) (fun (k j : Nat) => AV.junk) (cellsOf' encB (List.getD l (Int.toNat (↑k.val : Int)) (@default Rec instInhabitedRec)).val))), AV.y (Value.int IntKind.u64 (List.getD l (Int.toNat (↑k.val : Int)) (@default Rec instInhabitedRec)).prod), AV.y (Value.int IntKind.u64 (List.getD l (Int.toNat (↑k.val : Int)) (@default Rec instInhabitedRec)).seq)] (k_1 * (5 : Nat) + j)) (cellsOf' encR l)) ∧ True) ∧ true = true) ∧ true = true ∧ () = ()) ∧ (decide ((↑k.val : Int) < (↑(List.length l) : Int)) = false → (((0 : Nat) = (0 : Nat) ∧ k.val = List.length l) ∧ True) ∧ ((k.val = List.length l ∧ contLe k.val (5 : Nat) (cellsOf' encR l) (cellsOf' encR l)) ∧ True) ∧ true = true)
theorem vcLoL_eq (b : Bool) (l : List Rec) (k : { k : Nat // k ≤ l.length }) : (loopVC Tryd.prog loLH 13 3 (fun (k : { k : Nat // k ≤ l.length }) => l.length - k.1) (fun k => loT b l k.1) (fun k => [rowN l k.1]) [0, 1, 2, 3, 4, 5] (fun _ => .ret ()) (loS l) k) = vcLoL b l k := by kernel_rfl
noncomputable def loH (b : Bool) (l : List Rec) : HintsT Tryd.prog := hh _ (lp1 13 3 (jobOf (fun (k : { k : Nat // k ≤ l.length }) => loT b l k.1) (fun k => [rowN l k.1]) [0, 1, 2, 3, 4, 5] (fun _ => .ret ()) (loS l) ⟨0, Nat.zero_le _⟩) noLp) noCs noOp
def loR (l : List Rec) : T An := .ret (.own 0 5 0 l.length, [rowR l], [])
def vcLo (b : Bool) (l : List Rec) : Prop :=
  (0 : Int) ≤ (0 : Int) ∧ (0 : Int) ≤ IntKind.wrap IntKind.i64 ((↑(List.length l) : Int) + (1 : Int)) ∧ (64 : Int) * IntKind.wrap IntKind.i64 ((↑(List.length l) : Int) + (1 : Int)) ≤ (281474976710656 : Int) ∧ IntKind.wrap IntKind.i64 ((↑(List.length l) : Int) + (1 : Int)) ≤ (9223372036854775807 : Int) ∧ (((b = b ∧ List.length l = List.length l ∧ contLe (List.length l) (5 : Nat) (cellsOf' encR l) (cellsOf' encR l)) ∧ ((0 : Nat) = (0 : Nat) ∧ (0 : Nat) = (0 : Nat)) ∧ (0 : Int) = (0 : Int) ∧ True) ∧ (((0 : Nat) = (0 : Nat) ∧ contLe (0 : Nat) (5 : Nat) (fun (x j : Nat) => Ax.get [AV.s (Value.int IntKind.u64 (0 : Int)), AV.s (Value.string { data := #[] : ByteArray }), AV.s (Value.slice none (0 : Nat) (0 : Nat)), AV.s (Value.int IntKind.u64 (0 : Int)), AV.s (Value.int IntKind.u64 (0 : Int))] j) (cellsOf' encR l)) ∧ True) ∧ true = true) ∧ LoopOk Tryd.prog (13 : Nat) (3 : Nat) (loopAt Tryd.prog (13 : Nat) (3 : Nat)) { t := loT b l (⟨(0 : Nat), loH._proof_1 l⟩ : { k : Nat // k ≤ List.length l }).val, m := [rowN l (⟨(0 : Nat), loH._proof_1 l⟩ : { k : Nat // k ≤ List.length l }).val], mv := [] : St } (T.map (lout [(0 : Nat), (1 : Nat), (2 : Nat), (3 : Nat), (4 : Nat), (5 : Nat)] (loS l)) ((fun (x : { k : Nat // k ≤ List.length l }) => T.ret ()) (⟨(0 : Nat), loH._proof_1 l⟩ : { k : Nat // k ≤ List.length l }))) ∧ ((0 : Nat) = (0 : Nat) ∧ List.length l = List.length l) ∧ (List.length l = List.length l ∧ contLe (List.length l) (5 : Nat) (cellsOf' encR l) (cellsOf' encR l)) ∧ True
theorem vcLo_eq (b : Bool) (l : List Rec) : (ctrVC Tryd.prog (loH b l) 13 [encRs b l] [] (loR l)) = vcLo b l := by kernel_rfl
def r77 : Rec := ⟨77, ByteArray.empty, [], 0, 0⟩
def r0 : Rec := ⟨0, ByteArray.empty, [], 0, 0⟩
def incR (x : Rec) (k : Nat) : Rec := ⟨x.off, x.key, (x.val.take k).map (fun v => IntKind.u8.wrap (v + 1)) ++ x.val.drop k, x.prod, x.seq⟩
def towF (q : Nat) (f : Nat → Rec) : Blk := .trow 27 5 q none (fun k => trRec (f k)) [] []
def spM (d : Nat) (B : Blk) : List Blk := match d with
  | 0 => [B]
  | d + 1 => .dead :: spM d B
def incF (f : Nat → Rec) (i k : Nat) : Nat → Rec := fun p => if p = i then incR (f i) k else f p
def siT (d q i k : Nat) : List AV := mkT 38 [(0, .own d 5 0 q), (2, .y (.int .i64 i)), (3, .y (.int .i64 k))]
noncomputable def siH : HintsT Tryd.prog := withSh (hh _ noLp noCs noOp) (sh1 17 5 3 786 noSh)
def siS (d q i : Nat) (f : Nat → Rec) (_ : Unit) : Exit × List AV × List Blk := (.exit 2, mkT 38 [(0, .own d 5 0 q), (2, .y (.int .i64 i))], spM d (towF q (incF f i (f i).val.length)))
def vcSi8 (q : Nat) (i : Nat) (f : Nat → Rec) (k : { k : Nat // k ≤ (f i).val.length }) : Prop :=
  (0 : Int) ≤ (↑i : Int) ∧ (↑i : Int) < (↑q : Int) ∧ decide (Int.toNat (↑i : Int) = Int.toNat (↑i : Int)) = true ∧ (decide ((↑k.val : Int) < (↑(List.length (incF f i k.val (Int.toNat (↑i : Int))).val) : Int)) = true → (true && decide ((↑i : Int) < (↑q : Int))) = true ∧ decide ((0 : Nat) + Int.toNat (↑i : Int) = Int.toNat (↑i : Int)) = true ∧ (true && decide ((↑k.val : Int) < (↑(List.length (incF f i k.val (Int.toNat (↑i : Int))).val) : Int))) = true ∧ decide ((0 : Nat) + Int.toNat (↑k.val : Int) < List.length (incF f i k.val (Int.toNat (↑i : Int))).val) = true ∧ (true && decide ((↑k.val : Int) < (↑(List.length (incF f i k.val (Int.toNat (↑i : Int))).val) : Int))) = true ∧ decide ((0 : Nat) + Int.toNat (↑k.val : Int) < List.length (incF f i k.val (Int.toNat (↑i : Int))).val) = true ∧ ∃ (j : { k : Nat // k ≤ List.length (f i).val }), List.length (f i).val - j.val < List.length (f i).val - k.val ∧ ((((0 : Nat) = (0 : Nat) ∧ q = q) ∧ (↑i : Int) = (↑i : Int) ∧ IntKind.wrap IntKind.i64 ((↑k.val : Int) + (1 : Int)) = (↑j.val : Int) ∧ True) ∧ (((q = q ∧ (((true = true ∧ (incF f i k.val (Int.toNat (↑i : Int))).off = (incF f i j.val (Int.toNat (↑i : Int))).off) ∧ (true = true ∧ (incF f i k.val (Int.toNat (↑i : Int))).key = (incF f i j.val (Int.toNat (↑i : Int))).key) ∧ (List.length (incF f i j.val (Int.toNat (↑i : Int))).val = List.length (incF f i k.val (Int.toNat (↑i : Int))).val ∧ contLe (List.length (incF f i j.val (Int.toNat (↑i : Int))).val) (1 : Nat) (wrRow (cellsOf' encB (incF f i k.val (Int.toNat (↑i : Int))).val) ((0 : Nat) + Int.toNat (↑k.val : Int)) (0 : Nat) [AV.y (Value.int IntKind.u8 (IntKind.wrap IntKind.u8 (List.getD (incF f i k.val (Int.toNat (↑i : Int))).val ((0 : Nat) + Int.toNat (↑k.val : Int)) (0 : Int) + (1 : Int))))]) (cellsOf' encB (incF f i j.val (Int.toNat (↑i : Int))).val)) ∧ (true = true ∧ (incF f i k.val (Int.toNat (↑i : Int))).prod = (incF f i j.val (Int.toNat (↑i : Int))).prod) ∧ (true = true ∧ (incF f i k.val (Int.toNat (↑i : Int))).seq = (incF f i j.val (Int.toNat (↑i : Int))).seq) ∧ True) ∧ True) ∧ ∀ (k_1 : Nat), k_1 < q → ¬k_1 = Int.toNat (↑i : Int) → (incF f i k.val k_1).off = (incF f i j.val k_1).off ∧ (incF f i k.val k_1).key = (incF f i j.val k_1).key ∧ (List.length (incF f i k.val k_1).val = List.length (incF f i j.val k_1).val ∧ contLe (List.length (incF f i k.val k_1).val) (1 : Nat) (cellsOf' encB (incF f i k.val k_1).val) (cellsOf' encB (incF f i j.val k_1).val)) ∧ (incF f i k.val k_1).prod = (incF f i j.val k_1).prod ∧ (incF f i k.val k_1).seq = (incF f i j.val k_1).seq ∧ True) ∧ True) ∧ True) ∧ true = true) ∧ true = true ∧ () = ()) ∧ (decide ((↑k.val : Int) < (↑(List.length (incF f i k.val (Int.toNat (↑i : Int))).val) : Int)) = false → (((0 : Nat) = (0 : Nat) ∧ q = q) ∧ (↑i : Int) = (↑i : Int) ∧ True) ∧ (((q = q ∧ (((true = true ∧ (incF f i k.val (Int.toNat (↑i : Int))).off = (incF f i (List.length (f i).val) (Int.toNat (↑i : Int))).off) ∧ (true = true ∧ (incF f i k.val (Int.toNat (↑i : Int))).key = (incF f i (List.length (f i).val) (Int.toNat (↑i : Int))).key) ∧ (List.length (incF f i (List.length (f i).val) (Int.toNat (↑i : Int))).val = List.length (incF f i k.val (Int.toNat (↑i : Int))).val ∧ contLe (List.length (incF f i (List.length (f i).val) (Int.toNat (↑i : Int))).val) (1 : Nat) (cellsOf' encB (incF f i k.val (Int.toNat (↑i : Int))).val) (cellsOf' encB (incF f i (List.length (f i).val) (Int.toNat (↑i : Int))).val)) ∧ (true = true ∧ (incF f i k.val (Int.toNat (↑i : Int))).prod = (incF f i (List.length (f i).val) (Int.toNat (↑i : Int))).prod) ∧ (true = true ∧ (incF f i k.val (Int.toNat (↑i : Int))).seq = (incF f i (List.length (f i).val) (Int.toNat (↑i : Int))).seq) ∧ True) ∧ True) ∧ ∀ (k_1 : Nat), k_1 < q → ¬k_1 = Int.toNat (↑i : Int) → (incF f i k.val k_1).off = (incF f i (List.length (f i).val) k_1).off ∧ (incF f i k.val k_1).key = (incF f i (List.length (f i).val) k_1).key ∧ (List.length (incF f i k.val k_1).val = List.length (incF f i (List.length (f i).val) k_1).val ∧ contLe (List.length (incF f i k.val k_1).val) (1 : Nat) (cellsOf' encB (incF f i k.val k_1).val) (cellsOf' encB (incF f i (List.length (f i).val) k_1).val)) ∧ (incF f i k.val k_1).prod = (incF f i (List.length (f i).val) k_1).prod ∧ (incF f i k.val k_1).seq = (incF f i (List.length (f i).val) k_1).seq ∧ True) ∧ True) ∧ True) ∧ true = true)
theorem vcSi8_eq (q : Nat) (i : Nat) (f : Nat → Rec) (k : { k : Nat // k ≤ (f i).val.length }) : (loopVC Tryd.prog siH 17 5 (fun (k : { k : Nat // k ≤ (f i).val.length }) => (f i).val.length - k.1) (fun k => siT 8 q i k.1) (fun k => spM 8 (towF q (incF f i k.1))) [0, 1, 2, 3, 4, 5, 6, 7, 8, 9, 10, 11, 12, 13] (fun _ => .ret ()) (siS 8 q i f) k) = vcSi8 q i f k := by kernel_rfl
end Go.Proofs.YtjmdejbijigfjaaDoor.H

namespace Go.Proofs.YtjmdejbijigfjaaDoor.H
open Go.Ax Go.Proofs.YtjmdejbijigfjaaDoor
set_option maxRecDepth 1000000
structure LoOk (l : List Rec) : Prop where
  n : l.length * 64 ≤ 140737488355328
  v : ∀ k, k < l.length → (l.getD k default).val.length ≤ 140737488355328
theorem appN_le {l : List Rec} {k : Nat} {cs : List AV} (h : ∀ j, j < 5 → le0 (get cs j) (get (encR (l.getD k default)) j)) : contLe (k + 1) 5 (appRow k (cellsOf' encR l) (fun k' j => get cs (k' * 5 + j))) (cellsOf' encR l) := by
  intro p hp j hj
  unfold appRow
  by_cases h1 : p < k
  · rw [if_pos h1]; exact le0_refl _
  · obtain rfl : p = k := by omega
    rw [if_neg h1]
    simp only [Nat.sub_self, Nat.zero_mul, Nat.zero_add]
    exact h j hj
theorem lo_loop (b : Bool) (l : List Rec) (h : LoOk l) (k : { k : Nat // k ≤ l.length }) : LoopOk Tryd.prog 13 3 (loopAt Tryd.prog 13 3) ⟨loT b l k.1, [rowN l k.1], []⟩ (T.map (lout [0, 1, 2, 3, 4, 5] (loS l)) (.ret ())) := by
  refine loop_vcH (o := fun _ => .ret ()) (stT := fun (k : { k : Nat // k ≤ l.length }) => loT b l k.1) (stM := fun k => [rowN l k.1]) Tryd.mixed (fun _ => rfl) (fun k => (vcLoL_eq b l k).mpr ?_) k
  unfold vcLoL
  obtain ⟨k, hk⟩ := k
  have hn := h.n
  by_cases hkl : k < l.length
  · have hv := h.v k hkl
    have hex : ∀ q : { k : Nat // k ≤ l.length } → Prop, q ⟨k + 1, hkl⟩ → ∃ j, q j := fun q hq => ⟨_, hq⟩
    have hw : IntKind.i64.wrap ((k : Int) + 1) = ((k + 1 : Nat) : Int) := by rw [wrap_i64 (by omega) (by omega)]; omega
    have hc : ∀ x : Rec, x = l.getD k default → contLe (k + 1) 5 (appRow k (cellsOf' encR l) (fun k' j => Ax.get [AV.y (Value.int IntKind.u64 x.off), AV.y (Value.string x.key), AV.ys true (1 : Nat) x.val.length (cellsOf' encB x.val), AV.y (Value.int IntKind.u64 x.prod), AV.y (Value.int IntKind.u64 x.seq)] (k' * 5 + j))) (cellsOf' encR l) := by
      rintro x rfl
      exact appN_le (rec_le (le0_refl _) (le0_refl _) (le0_refl _) (le0_refl _) (le0_refl _))
    have hc := hc _ rfl
    simp only [Int.toNat_natCast, Nat.zero_add, appRow_zero, rowAt_zero]
    generalize l.getD k default = x at hv hc ⊢
    refine ⟨fun _ => ⟨by simp; omega, by simp; omega, fun _ _ j hj => by (obtain rfl : j = 0 := by omega); rfl, by simp; omega, hex _ ?_⟩, fun h => by simp at h; omega⟩
    simp [hw, hc]
    omega
  · obtain rfl : k = l.length := by omega
    refine ⟨fun h => by simp at h, fun _ => ?_⟩
    simp
theorem lo_c (b : Bool) (l : List Rec) (h : LoOk l) : (loR l).Sat (ACall' Tryd.prog 13 [encRs b l] []) := by
  refine ctr_vc (ht := loH b l) Tryd.mixed rfl ?_
  rw [vcLo_eq b l]
  unfold vcLo
  have lp := lo_loop b l h ⟨0, Nat.zero_le _⟩
  have hn := h.n
  have hw : IntKind.i64.wrap ((l.length : Int) + 1) = (l.length : Int) + 1 := wrap_i64 (by omega) (by omega)
  simp [lp, hw]
  omega
noncomputable def loC (b : Bool) (l : List Rec) : Ctr Tryd.prog := ⟨13, [encRs b l], [], .need (LoOk l) (loR l), T.Sat.need fun h => lo_c b l h⟩
theorem incR_len (x : Rec) (k : Nat) : (incR x k).val.length = x.val.length := by simp [incR]; omega
theorem incR_set (x : Rec) {k : Nat} (h : k < x.val.length) : (incR x (k + 1)).val = (incR x k).val.set k (IntKind.u8.wrap ((incR x k).val.getD k 0 + 1)) := by
  refine List.ext_getElem? fun q => ?_
  simp only [incR, List.getElem?_set, List.getElem?_append, List.length_map, List.length_take, List.length_append, List.length_drop, List.getElem?_map, List.getElem?_take, List.getElem?_drop, List.getD_eq_getElem?_getD]
  have hm : min k x.val.length = k := by omega
  have hm1 : min (k + 1) x.val.length = k + 1 := by omega
  rw [hm, hm1]
  by_cases h1 : q < k
  · have : q ≠ k := by omega
    have h2 : q < k + 1 := by omega
    simp [h1, h2, Ne.symm this]
  · by_cases h2 : q = k
    · subst h2
      have h3 : q < q + (x.val.length - q) := by omega
      simp [h, h3]
    · have h3 : ¬ q < k + 1 := by omega
      simp [h1, h3, Ne.symm h2]
      congr 1
      omega
theorem incF_at (f : Nat → Rec) (i k : Nat) : incF f i k i = incR (f i) k := if_pos rfl
theorem incF_ne (f : Nat → Rec) {i k p : Nat} (h : ¬ p = i) : incF f i k p = f p := if_neg h
theorem si8_loop (q i : Nat) (f : Nat → Rec) (hi : i < q) (hl : (f i).val.length ≤ 140737488355328) (k : { k : Nat // k ≤ (f i).val.length }) : LoopOk Tryd.prog 17 5 (loopAt Tryd.prog 17 5) ⟨siT 8 q i k.1, spM 8 (towF q (incF f i k.1)), []⟩ (T.map (lout [0, 1, 2, 3, 4, 5, 6, 7, 8, 9, 10, 11, 12, 13] (siS 8 q i f)) (.ret ())) := by
  refine loop_vcH (o := fun _ => .ret ()) (stT := fun (k : { k : Nat // k ≤ (f i).val.length }) => siT 8 q i k.1) (stM := fun k => spM 8 (towF q (incF f i k.1))) Tryd.mixed (fun _ => rfl) (fun k => (vcSi8_eq q i f k).mpr ?_) k
  unfold vcSi8
  obtain ⟨k, hk⟩ := k
  simp only [Int.toNat_natCast, Nat.zero_add, incF_at, incR_len]
  refine ⟨by omega, by omega, by simp, fun h1 => ?_, fun h1 => ?_⟩
  · have hkl : k < (f i).val.length := by simpa using h1
    have hex : ∀ p : { k : Nat // k ≤ (f i).val.length } → Prop, p ⟨k + 1, hkl⟩ → ∃ j, p j := fun p hp => ⟨_, hp⟩
    have hw : IntKind.i64.wrap ((k : Int) + 1) = ((k + 1 : Nat) : Int) := by rw [wrap_i64 (by omega) (by omega)]; omega
    have hwr := wr_le (enc := encB) (l := (incR (f i) k).val) (i := k) (sz := 1) (n := (f i).val.length) (cs := [AV.y (Value.int IntKind.u8 (IntKind.wrap IntKind.u8 (List.getD (incR (f i) k).val k (0 : Int) + (1 : Int))))]) (x := IntKind.wrap IntKind.u8 (List.getD (incR (f i) k).val k (0 : Int) + (1 : Int))) (by rw [incR_len]) (by rw [incR_len]; exact hkl) rfl (fun j hj => by (obtain rfl : j = 0 := by omega); exact le0_refl _)
    rw [← incR_set (f i) hkl] at hwr
    refine ⟨by simp; omega, by simp, by simpa using hkl, by simpa using hkl, by simpa using hkl, by simpa using hkl, hex _ ?_⟩
    have hne : ∀ p, ¬ p = i → incF f i k p = incF f i (k + 1) p := fun p h => by rw [incF_ne _ h, incF_ne _ h]
    repeat' with_reducible apply And.intro
    all_goals first
      | with_reducible rfl
      | exact trivial
      | exact hw
      | exact hwr
      | (show _ - (k + 1) < _ - k; omega)
      | (intro p hp hq; rw [hne p hq]; simp)
      | exact rfl
  · have hkl : k = (f i).val.length := by simp at h1; omega
    subst hkl
    simp
def spF (g : Nat → Rec) (i : Nat) : Nat → Rec := fun p => if p < i then r77 else g p
def soT (d q i : Nat) : List AV := mkT 38 [(0, .own d 5 0 q), (2, .y (.int .i64 i))]
def soS (_ : Unit) : Exit × List AV × List Blk := (.exit 0, mkT 38 [], [])
noncomputable def soH8 (q i : Nat) (g : Nat → Rec) : HintsT Tryd.prog := withSh (hh _ (lp1 17 5 (jobOf (fun (k : { k : Nat // k ≤ (spF g i i).val.length }) => siT 8 q i k.1) (fun k => spM 8 (towF q (incF (spF g i) i k.1))) [0, 1, 2, 3, 4, 5, 6, 7, 8, 9, 10, 11, 12, 13] (fun _ => .ret ()) (siS 8 q i (spF g i)) ⟨0, Nat.zero_le _⟩) noLp) noCs noOp) (sh1 17 8 3 786 noSh)
def vcSo8 (q : Nat) (g : Nat → Rec) (i : { i : Nat // i ≤ q }) : Prop :=
  (decide ((↑i.val : Int) < (↑q : Int)) = true → ((((0 : Nat) = (0 : Nat) ∧ q = q) ∧ (↑i.val : Int) = (↑i.val : Int) ∧ (0 : Int) = (0 : Int) ∧ True) ∧ ((q = q ∧ ∀ (k : Nat), k < q → (spF g i.val k).off = (incF (spF g i.val) i.val (0 : Nat) k).off ∧ (spF g i.val k).key = (incF (spF g i.val) i.val (0 : Nat) k).key ∧ (List.length (spF g i.val k).val = List.length (incF (spF g i.val) i.val (0 : Nat) k).val ∧ contLe (List.length (spF g i.val k).val) (1 : Nat) (cellsOf' encB (spF g i.val k).val) (cellsOf' encB (incF (spF g i.val) i.val (0 : Nat) k).val)) ∧ (spF g i.val k).prod = (incF (spF g i.val) i.val (0 : Nat) k).prod ∧ (spF g i.val k).seq = (incF (spF g i.val) i.val (0 : Nat) k).seq ∧ True) ∧ True) ∧ true = true) ∧ LoopOk Tryd.prog (17 : Nat) (5 : Nat) (loopAt Tryd.prog (17 : Nat) (5 : Nat)) { t := siT (8 : Nat) q i.val (⟨(0 : Nat), soH8._proof_1 i.val g⟩ : { k : Nat // k ≤ List.length (spF g i.val i.val).val }).val, m := spM (8 : Nat) (towF q (incF (spF g i.val) i.val (⟨(0 : Nat), soH8._proof_1 i.val g⟩ : { k : Nat // k ≤ List.length (spF g i.val i.val).val }).val)), mv := [] : St } (T.map (lout [(0 : Nat), (1 : Nat), (2 : Nat), (3 : Nat), (4 : Nat), (5 : Nat), (6 : Nat), (7 : Nat), (8 : Nat), (9 : Nat), (10 : Nat), (11 : Nat), (12 : Nat), (13 : Nat)] (siS (8 : Nat) q i.val (spF g i.val))) ((fun (x : { k : Nat // k ≤ List.length (spF g i.val i.val).val }) => T.ret ()) (⟨(0 : Nat), soH8._proof_1 i.val g⟩ : { k : Nat // k ≤ List.length (spF g i.val i.val).val }))) ∧ (0 : Int) ≤ (↑i.val : Int) ∧ (↑i.val : Int) < (↑q : Int) ∧ decide (Int.toNat (↑i.val : Int) = Int.toNat (↑i.val : Int)) = true ∧ ∃ (j : { i : Nat // i ≤ q }), q - j.val < q - i.val ∧ ((((0 : Nat) = (0 : Nat) ∧ q = q) ∧ IntKind.wrap IntKind.i64 ((↑i.val : Int) + (1 : Int)) = (↑j.val : Int) ∧ True) ∧ (((q = q ∧ (((true = true ∧ (77 : Int) = (spF g j.val (Int.toNat (↑i.val : Int))).off) ∧ (true = true ∧ { data := #[] : ByteArray } = (spF g j.val (Int.toNat (↑i.val : Int))).key) ∧ List.length (spF g j.val (Int.toNat (↑i.val : Int))).val = (0 : Nat) ∧ (true = true ∧ (0 : Int) = (spF g j.val (Int.toNat (↑i.val : Int))).prod) ∧ (true = true ∧ (0 : Int) = (spF g j.val (Int.toNat (↑i.val : Int))).seq) ∧ True) ∧ True) ∧ ∀ (k : Nat), k < q → ¬k = Int.toNat (↑i.val : Int) → (incF (spF g i.val) i.val (List.length (spF g i.val i.val).val) k).off = (spF g j.val k).off ∧ (incF (spF g i.val) i.val (List.length (spF g i.val i.val).val) k).key = (spF g j.val k).key ∧ (List.length (incF (spF g i.val) i.val (List.length (spF g i.val i.val).val) k).val = List.length (spF g j.val k).val ∧ contLe (List.length (incF (spF g i.val) i.val (List.length (spF g i.val i.val).val) k).val) (1 : Nat) (cellsOf' encB (incF (spF g i.val) i.val (List.length (spF g i.val i.val).val) k).val) (cellsOf' encB (spF g j.val k).val)) ∧ (incF (spF g i.val) i.val (List.length (spF g i.val i.val).val) k).prod = (spF g j.val k).prod ∧ (incF (spF g i.val) i.val (List.length (spF g i.val i.val).val) k).seq = (spF g j.val k).seq ∧ True) ∧ True) ∧ True) ∧ true = true) ∧ true = true ∧ () = ()) ∧ (decide ((↑i.val : Int) < (↑q : Int)) = false → True ∧ True ∧ true = true)
theorem vcSo8_eq (q : Nat) (g : Nat → Rec) (i : { i : Nat // i ≤ q }) : (loopVC Tryd.prog (soH8 q i.1 g) 17 2 (fun (i : { i : Nat // i ≤ q }) => q - i.1) (fun i => soT 8 q i.1) (fun i => spM 8 (towF q (spF g i.1))) [0, 1, 2, 3, 4, 5, 6, 7, 8, 9, 10, 11, 12, 13] (fun _ => .ret ()) soS i) = vcSo8 q g i := by kernel_rfl
def g0 (l : List Rec) : Nat → Rec := fun p => if p < l.length then l.getD p default else r0
noncomputable def spH8 (l : List Rec) (q : Nat) : HintsT Tryd.prog := withSh (hh _ (lp1 17 2 (jobOf (fun (i : { i : Nat // i ≤ q }) => soT 8 q i.1) (fun i => spM 8 (towF q (spF (g0 l) i.1))) [0, 1, 2, 3, 4, 5, 6, 7, 8, 9, 10, 11, 12, 13] (fun _ => .ret ()) soS ⟨0, Nat.zero_le _⟩) noLp) noCs noOp) (sh1 17 0 3 781 noSh)
def spR : T An := .ret (.tup [], [], [0, 1, 2, 3, 4, 5, 6, 7, 8, 9, 10, 11, 12, 13])
def vcSp8 (l : List Rec) (q : Nat) : Prop :=
  (↑(q - (0 : Nat)) : Int) = (↑q : Int) ∧ ((((0 : Nat) = (0 : Nat) ∧ q = q) ∧ (0 : Int) = (0 : Int) ∧ True) ∧ ((q = q ∧ ∀ (k : Nat), k < q → (if k < List.length l then (List.getD l k (@default Rec instInhabitedRec)).off else (0 : Int)) = (spF (g0 l) (0 : Nat) k).off ∧ (if k < List.length l then (List.getD l k (@default Rec instInhabitedRec)).key else { data := #[] : ByteArray }) = (spF (g0 l) (0 : Nat) k).key ∧ ((if k < List.length l then List.length (List.getD l k (@default Rec instInhabitedRec)).val else (0 : Nat)) = List.length (spF (g0 l) (0 : Nat) k).val ∧ contLe (if k < List.length l then List.length (List.getD l k (@default Rec instInhabitedRec)).val else (0 : Nat)) (1 : Nat) (cellsOf' encB (List.getD l k (@default Rec instInhabitedRec)).val) (cellsOf' encB (spF (g0 l) (0 : Nat) k).val)) ∧ (if k < List.length l then (List.getD l k (@default Rec instInhabitedRec)).prod else (0 : Int)) = (spF (g0 l) (0 : Nat) k).prod ∧ (if k < List.length l then (List.getD l k (@default Rec instInhabitedRec)).seq else (0 : Int)) = (spF (g0 l) (0 : Nat) k).seq ∧ True) ∧ True) ∧ true = true) ∧ LoopOk Tryd.prog (17 : Nat) (2 : Nat) (loopAt Tryd.prog (17 : Nat) (2 : Nat)) { t := soT (8 : Nat) q (⟨(0 : Nat), Nat.zero_le q⟩ : { i : Nat // i ≤ q }).val, m := spM (8 : Nat) (towF q (spF (g0 l) (⟨(0 : Nat), Nat.zero_le q⟩ : { i : Nat // i ≤ q }).val)), mv := [] : St } (T.map (lout [(0 : Nat), (1 : Nat), (2 : Nat), (3 : Nat), (4 : Nat), (5 : Nat), (6 : Nat), (7 : Nat), (8 : Nat), (9 : Nat), (10 : Nat), (11 : Nat), (12 : Nat), (13 : Nat)] soS) ((fun (x : { i : Nat // i ≤ q }) => T.ret ()) (⟨(0 : Nat), Nat.zero_le q⟩ : { i : Nat // i ≤ q }))) ∧ True ∧ True
theorem vcSp8_eq (l : List Rec) (q : Nat) : (ctrVC Tryd.prog (spH8 l q) 17 [.own 8 5 0 l.length] (spM 8 (.trow 27 5 l.length (some q) (trRs l) [] zR)) spR) = vcSp8 l q := by kernel_rfl
theorem spF_lt (g : Nat → Rec) {i p : Nat} (h : p < i) : spF g i p = r77 := if_pos h
theorem spF_ge (g : Nat → Rec) {i p : Nat} (h : ¬ p < i) : spF g i p = g p := if_neg h
theorem so8_loop (q : Nat) (g : Nat → Rec) (hq : q ≤ 9223372036854775807) (hg : ∀ p, p < q → (g p).val.length ≤ 140737488355328) (i : { i : Nat // i ≤ q }) : LoopOk Tryd.prog 17 2 (loopAt Tryd.prog 17 2) ⟨soT 8 q i.1, spM 8 (towF q (spF g i.1)), []⟩ (T.map (lout [0, 1, 2, 3, 4, 5, 6, 7, 8, 9, 10, 11, 12, 13] soS) (.ret ())) := by
  refine loop_vcH (o := fun _ => .ret ()) (stT := fun (i : { i : Nat // i ≤ q }) => soT 8 q i.1) (stM := fun i => spM 8 (towF q (spF g i.1))) Tryd.mixed (fun _ => rfl) (fun i => (vcSo8_eq q g i).mpr ?_) i
  unfold vcSo8
  obtain ⟨i, hi⟩ := i
  refine ⟨fun h1 => ?_, fun h1 => ⟨trivial, trivial, rfl⟩⟩
  have hlt : i < q := by simpa using h1
  have hex : ∀ p : { i : Nat // i ≤ q } → Prop, p ⟨i + 1, hlt⟩ → ∃ j, p j := fun p hp => ⟨_, hp⟩
  have hw : IntKind.i64.wrap ((i : Int) + 1) = ((i + 1 : Nat) : Int) := by rw [wrap_i64 (by omega) (by omega)]; omega
  have e0 : ∀ p, incF (spF g i) i 0 p = spF g i p := fun p => by
    by_cases h : p = i
    · subst h; rw [incF_at]; simp [incR]
    · rw [incF_ne _ h]
  have e1 : spF g (i + 1) i = r77 := spF_lt g (by omega)
  have e2 : ∀ p, ¬ p = i → incF (spF g i) i (spF g i i).val.length p = spF g (i + 1) p := fun p h => by
    rw [incF_ne _ h]
    by_cases h2 : p < i
    · rw [spF_lt g h2, spF_lt g (by omega)]
    · rw [spF_ge g h2, spF_ge g (by omega)]
  have hl : (spF g i i).val.length ≤ 140737488355328 := by rw [spF_ge g (by omega)]; exact hg i hlt
  have lp := si8_loop q i (spF g i) hlt hl ⟨0, Nat.zero_le _⟩
  simp only [Int.toNat_natCast, e0]
  refine ⟨by simp, by simpa only [e0] using lp, by omega, by omega, by simp, hex _ ?_⟩
  simp only [e1]
  repeat' with_reducible apply And.intro
  all_goals first
    | with_reducible rfl
    | exact trivial
    | exact hw
    | (show _ - (i + 1) < _ - i; omega)
    | (intro p hp hq; rw [e2 p hq]; simp)
    | (simp [r77]; done)
    | exact rfl
theorem sp8_q (l : List Rec) (q : Nat) (hlq : l.length ≤ q) (hq : q ≤ 9223372036854775807) (hv : ∀ k, k < l.length → (l.getD k default).val.length ≤ 140737488355328) : spR.Sat (ACall' Tryd.prog 17 [.own 8 5 0 l.length] (spM 8 (.trow 27 5 l.length (some q) (trRs l) [] zR))) := by
  refine ctr_vc (ht := spH8 l q) Tryd.mixed rfl ?_
  rw [vcSp8_eq l q]
  unfold vcSp8
  have hg : ∀ p, p < q → (g0 l p).val.length ≤ 140737488355328 := fun p _ => by
    unfold g0
    split
    · exact hv p (by assumption)
    · simp [r0]
  have lp := so8_loop q (g0 l) hq hg ⟨0, Nat.zero_le _⟩
  have e : ∀ k, spF (g0 l) 0 k = g0 l k := fun k => spF_ge _ (by omega)
  simp only [e]
  refine ⟨by simp, ⟨by simp, ⟨⟨by simp, fun k hk => ?_⟩, trivial⟩, by simp⟩, by simpa only [e] using lp, trivial, trivial⟩
  unfold g0
  by_cases h : k < l.length
  · simp [h]
  · simp [h, r0]
    rfl
structure SpOk (l : List Rec) : Prop where
  v : ∀ k, k < l.length → (l.getD k default).val.length ≤ 140737488355328
theorem sp8_c (l : List Rec) (h : SpOk l) : spR.Sat (ACall' Tryd.prog 17 [.own 8 5 0 l.length] (spM 8 (towR l))) := by
  refine T.Sat.ret ?_
  refine ACall.anyCap (d := 8) (M := []) (c := trRs l) (zs := zR) fun q h1 h2 => ?_
  obtain ⟨a, ha, rfl⟩ := sp8_q l q h1 h2 h.v (fun a => a = (.tup [], [], [0, 1, 2, 3, 4, 5, 6, 7, 8, 9, 10, 11, 12, 13])) rfl
  exact ha
noncomputable def spC8 (l : List Rec) : Ctr Tryd.prog := ⟨17, [.own 8 5 0 l.length], spM 8 (towR l), .need (SpOk l) spR, T.Sat.need fun h => sp8_c l h⟩
end Go.Proofs.YtjmdejbijigfjaaDoor.H
