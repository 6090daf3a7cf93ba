import Derived.Test.YtfiohpojlgkmkaaGreatDoorProg
import Derived.KernelRfl
import Derived.Shelf.Strings.SlTrimAscii
import Derived.Shelf.SlIter.Nil
import Derived.Shelf.SortM.Plain
import Derived.Shelf.SortM.SortNone
import Derived.Test.YtfiohpojlgkmkaaGreatDoorE11
import Derived.Test.YtfiohpojlgkmkaaGreatDoorE12
set_option linter.unusedVariables false
set_option linter.unusedSimpArgs false
set_option linter.unusedSectionVars false
namespace Go.Proofs.YtfiohpojlgkmkaaGreatDoor
open Go.Ax
noncomputable instance glSeat : Inhabited Gl0 := ⟨⟨[(0, 127, typeHandle Tryz.prog 55)]⟩⟩
end Go.Proofs.YtfiohpojlgkmkaaGreatDoor

namespace Go.Proofs.YtfiohpojlgkmkaaGreatDoor.O
open Go.Ax
set_option maxRecDepth 1000000
theorem Tryz.mixed : Tryz.prog.follows .mixedOrders = true := by kernel_rfl
structure Fil where
  b : List Int
  syn : Int
instance : Inhabited Fil := ⟨⟨[], 0⟩⟩
structure Dsk where
  has : ByteArray → Bool
  f : ByteArray → Fil
  n : Nat
  room : Int
  used : Int
  down : Bool
  trip : Int
  fail : Int
def encB (x : Int) : List AV := [.y (.int .u8 x)]
def encI (x : Int) : List AV := [.y (.int .i64 x)]
def encS (x : ByteArray) : List AV := [.y (.string x)]
def encBs (b : Bool) (l : List Int) : AV := .ys b 1 l.length (cellsOf' encB l)
def encIs (b : Bool) (l : List Int) : AV := .ys b 1 l.length (cellsOf' encI l)
def encSs (b : Bool) (l : List ByteArray) : AV := .ys b 1 l.length (cellsOf' encS l)
def trF (x : Fil) : Tr := .box 60 0 [.frow 5 1 x.b.length (cellsOf' encB x.b), .av (.y (.int .i64 x.syn))]
def dkC (m : AV) (d : Dsk) : List AV := [m, .y (.int .i64 d.room), .y (.int .i64 d.used), .y (.bool d.down), .y (.int .i64 d.trip), .y (.int .i64 d.fail)]
def dkM (d : Dsk) : List Blk := [.box 52 (dkC (.mref 1) d), .tmap .s d.has (fun k => trF (d.f k)) d.n []]
def jM : List Nat := [2, 3, 4, 5, 6, 7, 8, 9, 10, 11, 12, 13, 14, 15, 16, 17, 18, 19, 20]
def d0 (room : Int) : Dsk := ⟨fun _ => false, fun _ => default, 0, room, 0, false, -1, -1⟩
def nwR (room : Int) : T An := .ite (decide (room < 0 ∨ 16777216 < room)) (.ret (.tup [.s (.pointer none), .s (.int .i64 1)], [], [])) (.ret (.tup [.ptr 0 0 0 0, .s (.int .i64 0)], dkM (d0 room), []))
noncomputable def nwH : HintsT Tryz.prog := withSh (hT _) (sh1 7 3 0 783 noSh)
def vcNw (room : Int) : Prop :=
  (decide (room < (0 : Int)) = true → (decide (room < (0 : Int) ∨ (16777216 : Int) < room) = true → (True ∧ (1 : Int) = (1 : Int) ∧ True) ∧ True) ∧ (decide (room < (0 : Int) ∨ (16777216 : Int) < room) = false → (False ∧ (1 : Int) = (0 : Int) ∧ True) ∧ False)) ∧ (decide (room < (0 : Int)) = false → (decide ((16777216 : Int) < room) = true → (decide (room < (0 : Int) ∨ (16777216 : Int) < room) = true → (True ∧ (1 : Int) = (1 : Int) ∧ True) ∧ True) ∧ (decide (room < (0 : Int) ∨ (16777216 : Int) < room) = false → (False ∧ (1 : Int) = (0 : Int) ∧ True) ∧ False)) ∧ (decide ((16777216 : Int) < room) = false → (decide (room < (0 : Int) ∨ (16777216 : Int) < room) = true → False) ∧ (decide (room < (0 : Int) ∨ (16777216 : Int) < room) = false → (((0 : Nat) = (0 : Nat) ∧ (0 : Nat) = (0 : Nat)) ∧ (0 : Int) = (0 : Int) ∧ True) ∧ (True ∧ room = room ∧ (0 : Int) = (0 : Int) ∧ false = false ∧ (-1 : Int) = (-1 : Int) ∧ (-1 : Int) = (-1 : Int) ∧ True) ∧ ((0 : Nat) = (0 : Nat) ∧ (∀ (x : ByteArray), false = false) ∧ ∀ (x : ByteArray), false = true → False) ∧ True)))
theorem vcNw_eq (room : Int) : (ctrVC Tryz.prog nwH 7 [.y (.int .i64 room)] [] (nwR room)) = vcNw room := by kernel_rfl
def opR (y : Dsk) (e : Int) : T An := .ret (.y (.int .i64 e), dkM y, jM)
def boR (b : Bool) : T An := .ret (.y (.bool b), [], [])
end Go.Proofs.YtfiohpojlgkmkaaGreatDoor.O

namespace Go.Proofs
open Go.Shelf
def Tryz.lays160_ren : Go.Shelf.Ren := ⟨fun | 160 => 59 | 232 => 65 | 231 => 64 | 227 => 66 | 234 => 68 | 233 => 67 | 236 => 70 | 235 => 69 | 228 => 78 | 271 => 81 | 151 => 80 | 197 => 79 | 120 => 98 | 152 => 97 | 260 => 96 | 137 => 105 | 119 => 106 | 224 => 107 | 225 => 108 | 217 => 110 | 266 => 111 | n => n, fun | 9 => 9 | 4 => 4 | 3 => 3 | 5 => 5 | 117 => 89 | 116 => 88 | 0 => 0 | 124 => 92 | 21 => 21 | 105 => 110 | 46 => 96 | 119 => 147 | 139 => 150 | 138 => 149 | n => n, fun | 3 => 1 | 4 => 2 | n => n⟩
theorem Tryz.lays160 : Go.Proofs.Lays.n160 Tryz.prog Tryz.lays160_ren := {
  mixed := by kernel_rfl
  f119 := Tryz.func106.trans (congrArg some (by kernel_rfl))
  f120 := Tryz.func98.trans (congrArg some (by kernel_rfl))
  f137 := Tryz.func105.trans (congrArg some (by kernel_rfl))
  f151 := Tryz.func80.trans (congrArg some (by kernel_rfl))
  f152 := Tryz.func97.trans (congrArg some (by kernel_rfl))
  f160 := Tryz.func59.trans (congrArg some (by kernel_rfl))
  f197 := Tryz.func79.trans (congrArg some (by kernel_rfl))
  f217 := Tryz.func110.trans (congrArg some (by kernel_rfl))
  f224 := Tryz.func107.trans (congrArg some (by kernel_rfl))
  f225 := Tryz.func108.trans (congrArg some (by kernel_rfl))
  f227 := Tryz.func66.trans (congrArg some (by kernel_rfl))
  f228 := Tryz.func78.trans (congrArg some (by kernel_rfl))
  f231 := Tryz.func64.trans (congrArg some (by kernel_rfl))
  f232 := Tryz.func65.trans (congrArg some (by kernel_rfl))
  f233 := Tryz.func67.trans (congrArg some (by kernel_rfl))
  f234 := Tryz.func68.trans (congrArg some (by kernel_rfl))
  f235 := Tryz.func69.trans (congrArg some (by kernel_rfl))
  f236 := Tryz.func70.trans (congrArg some (by kernel_rfl))
  f260 := Tryz.func96.trans (congrArg some (by kernel_rfl))
  f266 := Tryz.func111.trans (congrArg some (by kernel_rfl))
  f271 := Tryz.func81.trans (congrArg some (by kernel_rfl))
  t0 := Tryz.underlying0
  a0 := Tryz.isAgg0
  z0 := Tryz.sizeOf0
  v0 := Tryz.zeroValue0
  t3 := Tryz.underlying3
  a3 := Tryz.isAgg3
  z3 := Tryz.sizeOf3
  v3 := Tryz.zeroValue3
  t4 := Tryz.underlying4
  a4 := Tryz.isAgg4
  z4 := Tryz.sizeOf4
  v4 := Tryz.zeroValue4
  t5 := Tryz.underlying5
  a5 := Tryz.isAgg5
  z5 := Tryz.sizeOf5
  v5 := Tryz.zeroValue5
  t9 := Tryz.underlying9
  a9 := Tryz.isAgg9
  z9 := Tryz.sizeOf9
  v9 := Tryz.zeroValue9
  t21 := Tryz.underlying21
  a21 := Tryz.isAgg21
  z21 := Tryz.sizeOf21
  v21 := Tryz.zeroValue21
  t46 := Tryz.underlying96
  a46 := Tryz.isAgg96
  z46 := Tryz.sizeOf96
  v46 := Tryz.zeroValue96
  t105 := Tryz.underlying110
  a105 := Tryz.isAgg110
  z105 := Tryz.sizeOf110
  v105 := Tryz.zeroValue110
  t116 := Tryz.underlying88
  a116 := Tryz.isAgg88
  z116 := Tryz.sizeOf88
  t117 := Tryz.underlying89
  a117 := Tryz.isAgg89
  z117 := Tryz.sizeOf89
  v117 := Tryz.zeroValue89
  t119 := Tryz.underlying147
  a119 := Tryz.isAgg147
  z119 := Tryz.sizeOf147
  t124 := Tryz.underlying92
  a124 := Tryz.isAgg92
  z124 := Tryz.sizeOf92
  v124 := Tryz.zeroValue92
  t138 := Tryz.underlying149
  a138 := Tryz.isAgg149
  z138 := Tryz.sizeOf149
  v138 := Tryz.zeroValue149
  t139 := Tryz.underlying150
  a139 := Tryz.isAgg150
  z139 := Tryz.sizeOf150
  v139 := Tryz.zeroValue150
  g3 := by kernel_rfl
  g4 := by kernel_rfl }
end Go.Proofs
namespace Go.Proofs.YtfiohpojlgkmkaaGreatDoor.O
open Go.Ax
set_option maxRecDepth 1000000
def chars : List UInt8 := [97, 98, 99, 100, 101, 102, 103, 104, 105, 106, 107, 108, 109, 110, 111, 112, 113, 114, 115, 116, 117, 118, 119, 120, 121, 122, 48, 49, 50, 51, 52, 53, 54, 55, 56, 57, 45, 46]
def nmd (s : ByteArray) : Bool := !(s.data.toList == []) && (decide ((s.size : Int) ≤ 24) && Lib.trimS s.data.toList chars == [])
def trimR (s : ByteArray) : T An := .ret (.y (.string ⟨(Lib.trimS s.data.toList chars).toArray⟩), [], [])
theorem trim_c (s : ByteArray) (hs : s.size ≤ 9223372036854775807) : (trimR s).Sat (ACall' Tryz.prog 59 [.y (.string s), .s (.string ⟨chars.toArray⟩)] []) := by
  refine call_below fun w vals hv => ?_
  obtain ⟨H, E, v, l1, e1, hv1, v2, l2, e2, hv2, e3⟩ := hv
  have e3 : l2 = [] := e3
  subst e3
  subst e2
  obtain rfl := hv1.1
  obtain rfl := hv2.1
  have hvals : vals = #[.string s, .string ⟨chars.toArray⟩] := Array.ext' e1
  subst hvals
  refine (Any.strings_Trim_laid Tryz.lays160 (by kernel_rfl) s ⟨chars.toArray⟩ w hs (by decide) (Go.Proofs.ascii_of_all (by decide))).mono ?_
  rintro e w' ⟨rfl, hb⟩
  exact ⟨_, rfl, fun _ _ => ⟨rfl, rfl⟩, hb⟩
noncomputable def trimC (s : ByteArray) : Ctr Tryz.prog := ⟨59, [.y (.string s), .s (.string ⟨chars.toArray⟩)], [], .need (s.size ≤ 9223372036854775807) (trimR s), T.Sat.need fun h => trim_c s h⟩
noncomputable def nmH (s : ByteArray) : HintsT Tryz.prog := hh _ noLp (cs1 35 1 9 (trimC s) noCs) noOp
def vcNm (s : ByteArray) : Prop :=
  ((!s.data.toList == []) = true → (decide ((↑(ByteArray.size s) : Int) ≤ (24 : Int)) = true → (s = s ∧ { data := #[(97 : UInt8), (98 : UInt8), (99 : UInt8), (100 : UInt8), (101 : UInt8), (102 : UInt8), (103 : UInt8), (104 : UInt8), (105 : UInt8), (106 : UInt8), (107 : UInt8), (108 : UInt8), (109 : UInt8), (110 : UInt8), (111 : UInt8), (112 : UInt8), (113 : UInt8), (114 : UInt8), (115 : UInt8), (116 : UInt8), (117 : UInt8), (118 : UInt8), (119 : UInt8), (120 : UInt8), (121 : UInt8), (122 : UInt8), (48 : UInt8), (49 : UInt8), (50 : UInt8), (51 : UInt8), (52 : UInt8), (53 : UInt8), (54 : UInt8), (55 : UInt8), (56 : UInt8), (57 : UInt8), (45 : UInt8), (46 : UInt8)] : ByteArray } = { data := #[(97 : UInt8), (98 : UInt8), (99 : UInt8), (100 : UInt8), (101 : UInt8), (102 : UInt8), (103 : UInt8), (104 : UInt8), (105 : UInt8), (106 : UInt8), (107 : UInt8), (108 : UInt8), (109 : UInt8), (110 : UInt8), (111 : UInt8), (112 : UInt8), (113 : UInt8), (114 : UInt8), (115 : UInt8), (116 : UInt8), (117 : UInt8), (118 : UInt8), (119 : UInt8), (120 : UInt8), (121 : UInt8), (122 : UInt8), (48 : UInt8), (49 : UInt8), (50 : UInt8), (51 : UInt8), (52 : UInt8), (53 : UInt8), (54 : UInt8), (55 : UInt8), (56 : UInt8), (57 : UInt8), (45 : UInt8), (46 : UInt8)] : ByteArray } ∧ True) ∧ True ∧ ByteArray.size s ≤ (9223372036854775807 : Nat) ∧ (Lib.trimS s.data.toList [(97 : UInt8), (98 : UInt8), (99 : UInt8), (100 : UInt8), (101 : UInt8), (102 : UInt8), (103 : UInt8), (104 : UInt8), (105 : UInt8), (106 : UInt8), (107 : UInt8), (108 : UInt8), (109 : UInt8), (110 : UInt8), (111 : UInt8), (112 : UInt8), (113 : UInt8), (114 : UInt8), (115 : UInt8), (116 : UInt8), (117 : UInt8), (118 : UInt8), (119 : UInt8), (120 : UInt8), (121 : UInt8), (122 : UInt8), (48 : UInt8), (49 : UInt8), (50 : UInt8), (51 : UInt8), (52 : UInt8), (53 : UInt8), (54 : UInt8), (55 : UInt8), (56 : UInt8), (57 : UInt8), (45 : UInt8), (46 : UInt8)] == []) = nmd s ∧ True) ∧ (decide ((↑(ByteArray.size s) : Int) ≤ (24 : Int)) = false → false = nmd s ∧ True)) ∧ ((!s.data.toList == []) = false → false = nmd s ∧ True)
theorem vcNm_eq (s : ByteArray) : (ctrVC Tryz.prog (nmH s) 35 [.y (.string s)] [] (boR (nmd s))) = vcNm s := by kernel_rfl
theorem nm_c (s : ByteArray) : (boR (nmd s)).Sat (ACall' Tryz.prog 35 [.y (.string s)] []) := by
  refine ctr_vc (ht := nmH s) Tryz.mixed rfl ?_
  rw [vcNm_eq s]
  unfold vcNm nmd chars
  generalize (s.data.toList == []) = a
  generalize hb : decide ((s.size : Int) ≤ 24) = b
  generalize hc : (Lib.trimS s.data.toList _ == []) = c
  cases a <;> cases b <;> cases c <;> simp at hb ⊢ <;> omega
noncomputable def nmC (s : ByteArray) : Ctr Tryz.prog := ⟨35, [.y (.string s)], [], boR (nmd s), nm_c s⟩
def erV (s : ByteArray) (e : Int) : AV := .ifc 79 (.ip true 2 (get [.y (.string s), .ifc 25 (.y (.int .i64 e))]))
def nuR (e : Int) : T An := .ret (.y (.int .i64 e), [], [])
noncomputable def subA : HintsT Tryz.prog := { hT _ with sub := fun _ => true }
def vcNu (s : ByteArray) (e : Int) : Prop :=
  e = e ∧ True
theorem vcNu_eq (s : ByteArray) (e : Int) : (ctrVC Tryz.prog subA 50 [erV s e] [] (nuR e)) = vcNu s e := by kernel_rfl
def vcNu2 (e : Int) : Prop :=
  e = e ∧ True
theorem vcNu2_eq (e : Int) : (ctrVC Tryz.prog subA 50 [.ifc 25 (.y (.int .i64 e))] [] (nuR e)) = vcNu2 e := by kernel_rfl
end Go.Proofs.YtfiohpojlgkmkaaGreatDoor.O

namespace Go.Proofs.YtfiohpojlgkmkaaGreatDoor.O
open Go.Ax
set_option maxRecDepth 1000000
theorem nu_c (s : ByteArray) (e : Int) : (nuR e).Sat (ACall' Tryz.prog 50 [erV s e] []) := by
  refine ctr_vc (ht := subA) Tryz.mixed rfl ?_
  rw [vcNu_eq s e]
  unfold vcNu
  simp
theorem nu2_c (e : Int) : (nuR e).Sat (ACall' Tryz.prog 50 [.ifc 25 (.y (.int .i64 e))] []) := by
  refine ctr_vc (ht := subA) Tryz.mixed rfl ?_
  rw [vcNu2_eq e]
  unfold vcNu2
  simp
noncomputable def nuC (s : ByteArray) (e : Int) : Ctr Tryz.prog := ⟨50, [erV s e], [], nuR e, nu_c s e⟩
noncomputable def nu2C (e : Int) : Ctr Tryz.prog := ⟨50, [.ifc 25 (.y (.int .i64 e))], [], nuR e, nu2_c e⟩
noncomputable def nuA (s : ByteArray) (els : FuncId → Nat → Nat → List AV → List Blk → Option (Ctr Tryz.prog)) : FuncId → Nat → Nat → List AV → List Blk → Option (Ctr Tryz.prog) := fun f r p a m =>
  match Nat.beq f 33 && Nat.beq r 5 && Nat.beq p 5 with
  | true => (match a with
    | [.ifc _ (.ip _ _ c)] => (match c 1 with
      | .ifc _ (.s (.int _ e)) => some (nuC s e)
      | _ => none)
    | _ => none)
  | false => els f r p a m
noncomputable def dkH (s : ByteArray) (cs : FuncId → Nat → Nat → List AV → List Blk → Option (Ctr Tryz.prog)) (sh : FuncId → Nat → Nat → Nat) : HintsT Tryz.prog := { withSh (hh _ noLp (nuA s cs) noOp) (sh1 33 5 4 779 sh) with sub := fun _ => true }
noncomputable def apH (s : ByteArray) : HintsT Tryz.prog := dkH s (cs1 34 2 1 (nmC s) noCs) (sh1 37 1 5 1001 (sh1 37 1 7 784 (sh1 37 2 5 784 noSh)))
def vcAp_q1 (d : Dsk) (y : Dsk) (s : ByteArray) : Prop := (d.n = y.n ∧ (∀ (x : ByteArray), d.has x = y.has x) ∧ (((List.length (y.f s).b = List.length (d.f s).b ∧ contLe (List.length (y.f s).b) (1 : Nat) (cellsOf' encB (d.f s).b) (cellsOf' encB (y.f s).b)) ∧ (true = true ∧ (d.f s).syn = (y.f s).syn) ∧ True) ∧ True) ∧ ∀ (x : ByteArray), d.has x = true → ¬x = s → (List.length (d.f x).b = List.length (y.f x).b ∧ contLe (List.length (d.f x).b) (1 : Nat) (cellsOf' encB (d.f x).b) (cellsOf' encB (y.f x).b)) ∧ (d.f x).syn = (y.f x).syn ∧ True)
def vcAp_q2 (d : Dsk) (y : Dsk) : Prop := (d.n = y.n ∧ (∀ (x : ByteArray), d.has x = y.has x) ∧ ∀ (x : ByteArray), d.has x = true → (List.length (d.f x).b = List.length (y.f x).b ∧ contLe (List.length (d.f x).b) (1 : Nat) (cellsOf' encB (d.f x).b) (cellsOf' encB (y.f x).b)) ∧ (d.f x).syn = (y.f x).syn ∧ True)
def vcAp_q3 (s : ByteArray) : Prop := ((true = true ∧ (2 : Nat) ≤ (2 : Nat) ∧ cellLe (2 : Nat) (Ax.get [AV.y (Value.string s), AV.ifc (25 : Nat) (AV.s (Value.int IntKind.i64 (23 : Int)))]) (Ax.get [AV.y (Value.string s), AV.ifc (25 : Nat) (AV.y (Value.int IntKind.i64 (23 : Int)))])) ∧ True)
def vcAp_q4 (d : Dsk) (y : Dsk) : Prop := (True ∧ d.room = y.room ∧ d.used = y.used ∧ d.down = y.down ∧ d.trip = y.trip ∧ (if IntKind.wrap IntKind.i64 (d.fail - (1 : Int)) > (-1 : Int) then IntKind.wrap IntKind.i64 (d.fail - (1 : Int)) else (-1 : Int)) = y.fail ∧ True)
def vcAp_q5 (d : Dsk) (y : Dsk) (l : List Int) : Prop := (True ∧ d.room = y.room ∧ IntKind.wrap IntKind.i64 (d.used + (↑(List.length l) : Int)) = y.used ∧ d.down = y.down ∧ (if IntKind.wrap IntKind.i64 (d.trip - (1 : Int)) > (-1 : Int) then IntKind.wrap IntKind.i64 (d.trip - (1 : Int)) else (-1 : Int)) = y.trip ∧ (if IntKind.wrap IntKind.i64 (d.fail - (1 : Int)) > (-1 : Int) then IntKind.wrap IntKind.i64 (d.fail - (1 : Int)) else (-1 : Int)) = y.fail ∧ True)
def vcAp (d : Dsk) (y : Dsk) (s : ByteArray) (c : Bool) (l : List Int) (e : Int) : Prop :=
  (d.down = true → (22 : Int) = e ∧ (True ∧ d.room = y.room ∧ d.used = y.used ∧ d.down = y.down ∧ d.trip = y.trip ∧ d.fail = y.fail ∧ True) ∧ (vcAp_q2 d y) ∧ True) ∧ (d.down = false → (d.has s = true → (s = s ∧ True) ∧ True ∧ ((!nmd s) = true → ((true = true ∧ (2 : Nat) ≤ (2 : Nat) ∧ cellLe (2 : Nat) (Ax.get [AV.y (Value.string s), AV.ifc (25 : Nat) (AV.s (Value.int IntKind.i64 (21 : Int)))]) (Ax.get [AV.y (Value.string s), AV.ifc (25 : Nat) (AV.y (Value.int IntKind.i64 (21 : Int)))])) ∧ True) ∧ True ∧ (21 : Int) = e ∧ ((True ∧ d.room = y.room ∧ d.used = y.used ∧ d.down = y.down ∧ d.trip = y.trip ∧ d.fail = y.fail ∧ True) ∧ (vcAp_q1 d y s) ∧ True) ∧ True) ∧ ((!nmd s) = false → ((d.fail == (0 : Int)) = true → (vcAp_q3 s) ∧ True ∧ (23 : Int) = e ∧ ((vcAp_q4 d y) ∧ (vcAp_q1 d y s) ∧ True) ∧ True) ∧ ((d.fail == (0 : Int)) = false → (decide (IntKind.wrap IntKind.i64 (d.room - d.used) < (↑(List.length l) : Int)) = true → (vcAp_q3 s) ∧ True ∧ (23 : Int) = e ∧ ((vcAp_q4 d y) ∧ (vcAp_q1 d y s) ∧ True) ∧ True) ∧ (decide (IntKind.wrap IntKind.i64 (d.room - d.used) < (↑(List.length l) : Int)) = false → ((d.trip == (0 : Int)) = true → (22 : Int) = e ∧ ((True ∧ d.room = y.room ∧ d.used = y.used ∧ true = y.down ∧ d.trip = y.trip ∧ (if IntKind.wrap IntKind.i64 (d.fail - (1 : Int)) > (-1 : Int) then IntKind.wrap IntKind.i64 (d.fail - (1 : Int)) else (-1 : Int)) = y.fail ∧ True) ∧ (vcAp_q1 d y s) ∧ True) ∧ True) ∧ ((d.trip == (0 : Int)) = false → s = s ∧ (decide (List.length (d.f s).b = List.length (d.f s).b) && decide (List.length (d.f s).b + List.length l ≤ (9223372036854775807 : Nat)) && decide ((List.length (d.f s).b + List.length l) * (1 : Nat) ≤ (140737488355328 : Nat))) = true ∧ (0 : Int) = e ∧ ((vcAp_q5 d y l) ∧ (d.n = y.n ∧ (∀ (x : ByteArray), d.has x = y.has x) ∧ (((List.length (y.f s).b = List.length (d.f s).b + List.length l ∧ contLe (List.length (y.f s).b) (1 : Nat) (appRow (List.length (d.f s).b) (cellsOf' encB (d.f s).b) (cellsOf' encB l)) (cellsOf' encB (y.f s).b)) ∧ (true = true ∧ (d.f s).syn = (y.f s).syn) ∧ True) ∧ True) ∧ ∀ (x : ByteArray), d.has x = true → ¬x = s → (List.length (d.f x).b = List.length (y.f x).b ∧ contLe (List.length (d.f x).b) (1 : Nat) (cellsOf' encB (d.f x).b) (cellsOf' encB (y.f x).b)) ∧ (d.f x).syn = (y.f x).syn ∧ True) ∧ True) ∧ True))))) ∧ (d.has s = false → (s = s ∧ True) ∧ True ∧ ((!nmd s) = true → ((true = true ∧ (2 : Nat) ≤ (2 : Nat) ∧ cellLe (2 : Nat) (Ax.get [AV.y (Value.string s), AV.ifc (25 : Nat) (AV.s (Value.int IntKind.i64 (21 : Int)))]) (Ax.get [AV.y (Value.string s), AV.ifc (25 : Nat) (AV.y (Value.int IntKind.i64 (21 : Int)))])) ∧ True) ∧ True ∧ (21 : Int) = e ∧ (True ∧ d.room = y.room ∧ d.used = y.used ∧ d.down = y.down ∧ d.trip = y.trip ∧ d.fail = y.fail ∧ True) ∧ (vcAp_q2 d y) ∧ True) ∧ ((!nmd s) = false → ((d.fail == (0 : Int)) = true → (vcAp_q3 s) ∧ True ∧ (23 : Int) = e ∧ (vcAp_q4 d y) ∧ (vcAp_q2 d y) ∧ True) ∧ ((d.fail == (0 : Int)) = false → (((↑d.n : Int) == (64 : Int)) = true → (vcAp_q3 s) ∧ True ∧ (23 : Int) = e ∧ (vcAp_q4 d y) ∧ (vcAp_q2 d y) ∧ True) ∧ (((↑d.n : Int) == (64 : Int)) = false → (decide (IntKind.wrap IntKind.i64 (d.room - d.used) < (↑(List.length l) : Int)) = true → (vcAp_q3 s) ∧ True ∧ (23 : Int) = e ∧ (vcAp_q4 d y) ∧ (vcAp_q2 d y) ∧ True) ∧ (decide (IntKind.wrap IntKind.i64 (d.room - d.used) < (↑(List.length l) : Int)) = false → ((d.trip == (0 : Int)) = true → (22 : Int) = e ∧ (True ∧ d.room = y.room ∧ d.used = y.used ∧ true = y.down ∧ d.trip = y.trip ∧ (if IntKind.wrap IntKind.i64 (d.fail - (1 : Int)) > (-1 : Int) then IntKind.wrap IntKind.i64 (d.fail - (1 : Int)) else (-1 : Int)) = y.fail ∧ True) ∧ (vcAp_q2 d y) ∧ True) ∧ ((d.trip == (0 : Int)) = false → d.has s = false ∧ s = s ∧ (true && decide ((0 : Nat) + List.length l ≤ (9223372036854775807 : Nat)) && decide (((0 : Nat) + List.length l) * (1 : Nat) ≤ (140737488355328 : Nat))) = true ∧ (0 : Int) = e ∧ ((vcAp_q5 d y l) ∧ (d.n + (1 : Nat) = y.n ∧ (∀ (x : ByteArray), updBs d.has s x = y.has x) ∧ (((List.length (y.f s).b = (0 : Nat) + List.length l ∧ contLe (List.length (y.f s).b) (1 : Nat) (appRow (0 : Nat) (fun (x x_1 : Nat) => AV.junk) (cellsOf' encB l)) (cellsOf' encB (y.f s).b)) ∧ (true = true ∧ (0 : Int) = (y.f s).syn) ∧ True) ∧ True) ∧ ∀ (x : ByteArray), updBs d.has s x = true → ¬x = s → (List.length (d.f x).b = List.length (y.f x).b ∧ contLe (List.length (d.f x).b) (1 : Nat) (cellsOf' encB (d.f x).b) (cellsOf' encB (y.f x).b)) ∧ (d.f x).syn = (y.f x).syn ∧ True) ∧ True) ∧ True)))))))
theorem vcAp_eq (d : Dsk) (y : Dsk) (s : ByteArray) (c : Bool) (l : List Int) (e : Int) : (ctrVC Tryz.prog (apH s) 8 [.ptr 0 0 0 0, .y (.string s), encBs c l] (dkM d) (opR y e)) = vcAp d y s c l e := by kernel_rfl
noncomputable def syH (s : ByteArray) : HintsT Tryz.prog := dkH s noCs noSh
def vcSy (d : Dsk) (y : Dsk) (s : ByteArray) (e : Int) : Prop :=
  (d.down = true → (22 : Int) = e ∧ (True ∧ d.room = y.room ∧ d.used = y.used ∧ d.down = y.down ∧ d.trip = y.trip ∧ d.fail = y.fail ∧ True) ∧ (d.n = y.n ∧ (∀ (x : ByteArray), d.has x = y.has x) ∧ ∀ (x : ByteArray), d.has x = true → (List.length (d.f x).b = List.length (y.f x).b ∧ contLe (List.length (d.f x).b) (1 : Nat) (cellsOf' encB (d.f x).b) (cellsOf' encB (y.f x).b)) ∧ (d.f x).syn = (y.f x).syn ∧ True) ∧ True) ∧ (d.down = false → (d.has s = true → ((d.trip == (0 : Int)) = true → (22 : Int) = e ∧ ((True ∧ d.room = y.room ∧ d.used = y.used ∧ true = y.down ∧ d.trip = y.trip ∧ d.fail = y.fail ∧ True) ∧ (d.n = y.n ∧ (∀ (x : ByteArray), d.has x = y.has x) ∧ (((List.length (y.f s).b = List.length (d.f s).b ∧ contLe (List.length (y.f s).b) (1 : Nat) (cellsOf' encB (d.f s).b) (cellsOf' encB (y.f s).b)) ∧ (true = true ∧ (d.f s).syn = (y.f s).syn) ∧ True) ∧ True) ∧ ∀ (x : ByteArray), d.has x = true → ¬x = s → (List.length (d.f x).b = List.length (y.f x).b ∧ contLe (List.length (d.f x).b) (1 : Nat) (cellsOf' encB (d.f x).b) (cellsOf' encB (y.f x).b)) ∧ (d.f x).syn = (y.f x).syn ∧ True) ∧ True) ∧ True) ∧ ((d.trip == (0 : Int)) = false → (0 : Int) = e ∧ ((True ∧ d.room = y.room ∧ d.used = y.used ∧ d.down = y.down ∧ (if IntKind.wrap IntKind.i64 (d.trip - (1 : Int)) > (-1 : Int) then IntKind.wrap IntKind.i64 (d.trip - (1 : Int)) else (-1 : Int)) = y.trip ∧ d.fail = y.fail ∧ True) ∧ (d.n = y.n ∧ (∀ (x : ByteArray), d.has x = y.has x) ∧ (((List.length (y.f s).b = List.length (d.f s).b ∧ contLe (List.length (y.f s).b) (1 : Nat) (cellsOf' encB (d.f s).b) (cellsOf' encB (y.f s).b)) ∧ (true = true ∧ (↑(List.length (d.f s).b) : Int) = (y.f s).syn) ∧ True) ∧ True) ∧ ∀ (x : ByteArray), d.has x = true → ¬x = s → (List.length (d.f x).b = List.length (y.f x).b ∧ contLe (List.length (d.f x).b) (1 : Nat) (cellsOf' encB (d.f x).b) (cellsOf' encB (y.f x).b)) ∧ (d.f x).syn = (y.f x).syn ∧ True) ∧ True) ∧ True)) ∧ (d.has s = false → ((true = true ∧ (2 : Nat) ≤ (2 : Nat) ∧ cellLe (2 : Nat) (Ax.get [AV.y (Value.string s), AV.ifc (25 : Nat) (AV.s (Value.int IntKind.i64 (24 : Int)))]) (Ax.get [AV.y (Value.string s), AV.ifc (25 : Nat) (AV.y (Value.int IntKind.i64 (24 : Int)))])) ∧ True) ∧ True ∧ (24 : Int) = e ∧ (True ∧ d.room = y.room ∧ d.used = y.used ∧ d.down = y.down ∧ d.trip = y.trip ∧ d.fail = y.fail ∧ True) ∧ (d.n = y.n ∧ (∀ (x : ByteArray), d.has x = y.has x) ∧ ∀ (x : ByteArray), d.has x = true → (List.length (d.f x).b = List.length (y.f x).b ∧ contLe (List.length (d.f x).b) (1 : Nat) (cellsOf' encB (d.f x).b) (cellsOf' encB (y.f x).b)) ∧ (d.f x).syn = (y.f x).syn ∧ True) ∧ True))
theorem vcSy_eq (d : Dsk) (y : Dsk) (s : ByteArray) (e : Int) : (ctrVC Tryz.prog (syH s) 15 [.ptr 0 0 0 0, .y (.string s)] (dkM d) (opR y e)) = vcSy d y s e := by kernel_rfl
noncomputable def rnH (s t : ByteArray) : HintsT Tryz.prog := dkH s (cs1 38 2 4 (nmC t) noCs) (sh1 40 4 5 900 (sh1 40 5 6 784 noSh))
def vcRn (d : Dsk) (y : Dsk) (s : ByteArray) (t : ByteArray) (e : Int) : Prop :=
  (d.down = true → (22 : Int) = e ∧ (True ∧ d.room = y.room ∧ d.used = y.used ∧ d.down = y.down ∧ d.trip = y.trip ∧ d.fail = y.fail ∧ True) ∧ (d.n = y.n ∧ (∀ (x : ByteArray), d.has x = y.has x) ∧ ∀ (x : ByteArray), d.has x = true → (List.length (d.f x).b = List.length (y.f x).b ∧ contLe (List.length (d.f x).b) (1 : Nat) (cellsOf' encB (d.f x).b) (cellsOf' encB (y.f x).b)) ∧ (d.f x).syn = (y.f x).syn ∧ True) ∧ True) ∧ (d.down = false → (d.has s = true → (t = t ∧ True) ∧ True ∧ ((!nmd t) = true → ((true = true ∧ (2 : Nat) ≤ (2 : Nat) ∧ cellLe (2 : Nat) (Ax.get [AV.y (Value.string s), AV.ifc (25 : Nat) (AV.s (Value.int IntKind.i64 (21 : Int)))]) (Ax.get [AV.y (Value.string s), AV.ifc (25 : Nat) (AV.y (Value.int IntKind.i64 (21 : Int)))])) ∧ True) ∧ True ∧ (21 : Int) = e ∧ ((True ∧ d.room = y.room ∧ d.used = y.used ∧ d.down = y.down ∧ d.trip = y.trip ∧ d.fail = y.fail ∧ True) ∧ (d.n = y.n ∧ (∀ (x : ByteArray), d.has x = y.has x) ∧ (((List.length (y.f s).b = List.length (d.f s).b ∧ contLe (List.length (y.f s).b) (1 : Nat) (cellsOf' encB (d.f s).b) (cellsOf' encB (y.f s).b)) ∧ (true = true ∧ (d.f s).syn = (y.f s).syn) ∧ True) ∧ True) ∧ ∀ (x : ByteArray), d.has x = true → ¬x = s → (List.length (d.f x).b = List.length (y.f x).b ∧ contLe (List.length (d.f x).b) (1 : Nat) (cellsOf' encB (d.f x).b) (cellsOf' encB (y.f x).b)) ∧ (d.f x).syn = (y.f x).syn ∧ True) ∧ True) ∧ True) ∧ ((!nmd t) = false → ((d.trip == (0 : Int)) = true → (22 : Int) = e ∧ ((True ∧ d.room = y.room ∧ d.used = y.used ∧ true = y.down ∧ d.trip = y.trip ∧ d.fail = y.fail ∧ True) ∧ (d.n = y.n ∧ (∀ (x : ByteArray), d.has x = y.has x) ∧ (((List.length (y.f s).b = List.length (d.f s).b ∧ contLe (List.length (y.f s).b) (1 : Nat) (cellsOf' encB (d.f s).b) (cellsOf' encB (y.f s).b)) ∧ (true = true ∧ (d.f s).syn = (y.f s).syn) ∧ True) ∧ True) ∧ ∀ (x : ByteArray), d.has x = true → ¬x = s → (List.length (d.f x).b = List.length (y.f x).b ∧ contLe (List.length (d.f x).b) (1 : Nat) (cellsOf' encB (d.f x).b) (cellsOf' encB (y.f x).b)) ∧ (d.f x).syn = (y.f x).syn ∧ True) ∧ True) ∧ True) ∧ ((d.trip == (0 : Int)) = false → ((s.data.toList == t.data.toList) = true → (0 : Int) = e ∧ ((True ∧ d.room = y.room ∧ d.used = y.used ∧ d.down = y.down ∧ (if IntKind.wrap IntKind.i64 (d.trip - (1 : Int)) > (-1 : Int) then IntKind.wrap IntKind.i64 (d.trip - (1 : Int)) else (-1 : Int)) = y.trip ∧ d.fail = y.fail ∧ True) ∧ (d.n = y.n ∧ (∀ (x : ByteArray), d.has x = y.has x) ∧ (((List.length (y.f s).b = List.length (d.f s).b ∧ contLe (List.length (y.f s).b) (1 : Nat) (cellsOf' encB (d.f s).b) (cellsOf' encB (y.f s).b)) ∧ (true = true ∧ (d.f s).syn = (y.f s).syn) ∧ True) ∧ True) ∧ ∀ (x : ByteArray), d.has x = true → ¬x = s → (List.length (d.f x).b = List.length (y.f x).b ∧ contLe (List.length (d.f x).b) (1 : Nat) (cellsOf' encB (d.f x).b) (cellsOf' encB (y.f x).b)) ∧ (d.f x).syn = (y.f x).syn ∧ True) ∧ True) ∧ True) ∧ ((s.data.toList == t.data.toList) = false → ¬t = s ∧ (d.has t = true → s = s ∧ ¬s = t ∧ t = t ∧ (0 : Int) = e ∧ ((True ∧ d.room = y.room ∧ IntKind.wrap IntKind.i64 (d.used - (↑(List.length (d.f t).b) : Int)) = y.used ∧ d.down = y.down ∧ (if IntKind.wrap IntKind.i64 (d.trip - (1 : Int)) > (-1 : Int) then IntKind.wrap IntKind.i64 (d.trip - (1 : Int)) else (-1 : Int)) = y.trip ∧ d.fail = y.fail ∧ True) ∧ (d.n - (1 : Nat) = y.n ∧ (∀ (x : ByteArray), delBs d.has s x = y.has x) ∧ (((List.length (y.f t).b = List.length (d.f s).b ∧ contLe (List.length (y.f t).b) (1 : Nat) (cellsOf' encB (d.f s).b) (cellsOf' encB (y.f t).b)) ∧ (true = true ∧ (d.f s).syn = (y.f t).syn) ∧ True) ∧ True) ∧ ∀ (x : ByteArray), delBs d.has s x = true → ¬x = t → (List.length (d.f x).b = List.length (y.f x).b ∧ contLe (List.length (d.f x).b) (1 : Nat) (cellsOf' encB (d.f x).b) (cellsOf' encB (y.f x).b)) ∧ (d.f x).syn = (y.f x).syn ∧ True) ∧ True) ∧ True) ∧ (d.has t = false → s = s ∧ delBs d.has s t = false ∧ (0 : Int) = e ∧ ((True ∧ d.room = y.room ∧ d.used = y.used ∧ d.down = y.down ∧ (if IntKind.wrap IntKind.i64 (d.trip - (1 : Int)) > (-1 : Int) then IntKind.wrap IntKind.i64 (d.trip - (1 : Int)) else (-1 : Int)) = y.trip ∧ d.fail = y.fail ∧ True) ∧ (d.n - (1 : Nat) + (1 : Nat) = y.n ∧ (∀ (x : ByteArray), updBs (delBs d.has s) t x = y.has x) ∧ (((List.length (y.f t).b = List.length (d.f s).b ∧ contLe (List.length (y.f t).b) (1 : Nat) (cellsOf' encB (d.f s).b) (cellsOf' encB (y.f t).b)) ∧ (true = true ∧ (d.f s).syn = (y.f t).syn) ∧ True) ∧ True) ∧ ∀ (x : ByteArray), updBs (delBs d.has s) t x = true → ¬x = t → (List.length (d.f x).b = List.length (y.f x).b ∧ contLe (List.length (d.f x).b) (1 : Nat) (cellsOf' encB (d.f x).b) (cellsOf' encB (y.f x).b)) ∧ (d.f x).syn = (y.f x).syn ∧ True) ∧ True) ∧ True))))) ∧ (d.has s = false → ((true = true ∧ (2 : Nat) ≤ (2 : Nat) ∧ cellLe (2 : Nat) (Ax.get [AV.y (Value.string s), AV.ifc (25 : Nat) (AV.s (Value.int IntKind.i64 (24 : Int)))]) (Ax.get [AV.y (Value.string s), AV.ifc (25 : Nat) (AV.y (Value.int IntKind.i64 (24 : Int)))])) ∧ True) ∧ True ∧ (24 : Int) = e ∧ (True ∧ d.room = y.room ∧ d.used = y.used ∧ d.down = y.down ∧ d.trip = y.trip ∧ d.fail = y.fail ∧ True) ∧ (d.n = y.n ∧ (∀ (x : ByteArray), d.has x = y.has x) ∧ ∀ (x : ByteArray), d.has x = true → (List.length (d.f x).b = List.length (y.f x).b ∧ contLe (List.length (d.f x).b) (1 : Nat) (cellsOf' encB (d.f x).b) (cellsOf' encB (y.f x).b)) ∧ (d.f x).syn = (y.f x).syn ∧ True) ∧ True))
theorem vcRn_eq (d : Dsk) (y : Dsk) (s : ByteArray) (t : ByteArray) (e : Int) : (ctrVC Tryz.prog (rnH s t) 9 [.ptr 0 0 0 0, .y (.string s), .y (.string t)] (dkM d) (opR y e)) = vcRn d y s t e := by kernel_rfl
noncomputable def rmH (s : ByteArray) : HintsT Tryz.prog := dkH s noCs (sh1 44 1 5 784 noSh)
def vcRm (d : Dsk) (y : Dsk) (s : ByteArray) (e : Int) : Prop :=
  (d.down = true → (22 : Int) = e ∧ (True ∧ d.room = y.room ∧ d.used = y.used ∧ d.down = y.down ∧ d.trip = y.trip ∧ d.fail = y.fail ∧ True) ∧ (d.n = y.n ∧ (∀ (x : ByteArray), d.has x = y.has x) ∧ ∀ (x : ByteArray), d.has x = true → (List.length (d.f x).b = List.length (y.f x).b ∧ contLe (List.length (d.f x).b) (1 : Nat) (cellsOf' encB (d.f x).b) (cellsOf' encB (y.f x).b)) ∧ (d.f x).syn = (y.f x).syn ∧ True) ∧ True) ∧ (d.down = false → (d.has s = true → ((d.trip == (0 : Int)) = true → (22 : Int) = e ∧ ((True ∧ d.room = y.room ∧ d.used = y.used ∧ true = y.down ∧ d.trip = y.trip ∧ d.fail = y.fail ∧ True) ∧ (d.n = y.n ∧ (∀ (x : ByteArray), d.has x = y.has x) ∧ (((List.length (y.f s).b = List.length (d.f s).b ∧ contLe (List.length (y.f s).b) (1 : Nat) (cellsOf' encB (d.f s).b) (cellsOf' encB (y.f s).b)) ∧ (true = true ∧ (d.f s).syn = (y.f s).syn) ∧ True) ∧ True) ∧ ∀ (x : ByteArray), d.has x = true → ¬x = s → (List.length (d.f x).b = List.length (y.f x).b ∧ contLe (List.length (d.f x).b) (1 : Nat) (cellsOf' encB (d.f x).b) (cellsOf' encB (y.f x).b)) ∧ (d.f x).syn = (y.f x).syn ∧ True) ∧ True) ∧ True) ∧ ((d.trip == (0 : Int)) = false → s = s ∧ (0 : Int) = e ∧ (True ∧ d.room = y.room ∧ IntKind.wrap IntKind.i64 (d.used - (↑(List.length (d.f s).b) : Int)) = y.used ∧ d.down = y.down ∧ (if IntKind.wrap IntKind.i64 (d.trip - (1 : Int)) > (-1 : Int) then IntKind.wrap IntKind.i64 (d.trip - (1 : Int)) else (-1 : Int)) = y.trip ∧ d.fail = y.fail ∧ True) ∧ (d.n - (1 : Nat) = y.n ∧ (∀ (x : ByteArray), delBs d.has s x = y.has x) ∧ ∀ (x : ByteArray), delBs d.has s x = true → (List.length (d.f x).b = List.length (y.f x).b ∧ contLe (List.length (d.f x).b) (1 : Nat) (cellsOf' encB (d.f x).b) (cellsOf' encB (y.f x).b)) ∧ (d.f x).syn = (y.f x).syn ∧ True) ∧ True)) ∧ (d.has s = false → ((true = true ∧ (2 : Nat) ≤ (2 : Nat) ∧ cellLe (2 : Nat) (Ax.get [AV.y (Value.string s), AV.ifc (25 : Nat) (AV.s (Value.int IntKind.i64 (24 : Int)))]) (Ax.get [AV.y (Value.string s), AV.ifc (25 : Nat) (AV.y (Value.int IntKind.i64 (24 : Int)))])) ∧ True) ∧ True ∧ (24 : Int) = e ∧ (True ∧ d.room = y.room ∧ d.used = y.used ∧ d.down = y.down ∧ d.trip = y.trip ∧ d.fail = y.fail ∧ True) ∧ (d.n = y.n ∧ (∀ (x : ByteArray), d.has x = y.has x) ∧ ∀ (x : ByteArray), d.has x = true → (List.length (d.f x).b = List.length (y.f x).b ∧ contLe (List.length (d.f x).b) (1 : Nat) (cellsOf' encB (d.f x).b) (cellsOf' encB (y.f x).b)) ∧ (d.f x).syn = (y.f x).syn ∧ True) ∧ True))
theorem vcRm_eq (d : Dsk) (y : Dsk) (s : ByteArray) (e : Int) : (ctrVC Tryz.prog (rmH s) 11 [.ptr 0 0 0 0, .y (.string s)] (dkM d) (opR y e)) = vcRm d y s e := by kernel_rfl
end Go.Proofs.YtfiohpojlgkmkaaGreatDoor.O

namespace Go.Proofs.YtfiohpojlgkmkaaGreatDoor.O
open Go.Ax
set_option maxRecDepth 1000000
def mx (v : Int) : Int := if v > -1 then v else -1
def Dsk.put (d : Dsk) (s : ByteArray) (v : Fil) : Dsk := { d with has := updBs d.has s, f := fun x => if x = s then v else d.f x, n := if d.has s then d.n else d.n + 1 }
def Dsk.del (d : Dsk) (s : ByteArray) : Dsk := { d with has := delBs d.has s, n := d.n - 1 }
def Dsk.tick (d : Dsk) : Dsk := { d with trip := mx (IntKind.i64.wrap (d.trip - 1)) }
def Dsk.fld (d : Dsk) : Dsk := { d with fail := mx (IntKind.i64.wrap (d.fail - 1)) }
def Dsk.get (d : Dsk) (s : ByteArray) : Fil := if d.has s then d.f s else default
def opE (d : Dsk) (e : Int) (d1 : Dsk) : Int := if d.down then 22 else if e ≠ 0 then e else if d1.trip = 0 then 22 else 0
def opD (d : Dsk) (e : Int) (d1 y : Dsk) : Dsk := if d.down then d else if e ≠ 0 then d1 else if d1.trip = 0 then { d1 with down := true } else y
def apP (d : Dsk) (s : ByteArray) (l : List Int) : Int := if nmd s = false then 21 else if d.fail = 0 then 23 else if d.has s = false ∧ (d.n : Int) = 64 then 23 else if IntKind.i64.wrap (d.room - d.used) < l.length then 23 else 0
def apQ (d : Dsk) (s : ByteArray) : Dsk := if nmd s = false then d else d.fld
def apY (d : Dsk) (s : ByteArray) (l : List Int) : Dsk := { d.fld.tick.put s ⟨(d.get s).b ++ l, (d.get s).syn⟩ with used := IntKind.i64.wrap (d.used + l.length) }
def apE (d : Dsk) (s : ByteArray) (l : List Int) : Int := opE d (apP d s l) (apQ d s)
def apD (d : Dsk) (s : ByteArray) (l : List Int) : Dsk := opD d (apP d s l) (apQ d s) (apY d s l)
def fnP (d : Dsk) (s : ByteArray) : Int := if d.has s then 0 else 24
def syY (d : Dsk) (s : ByteArray) : Dsk := d.tick.put s { d.f s with syn := (d.f s).b.length }
def syE (d : Dsk) (s : ByteArray) : Int := opE d (fnP d s) d
def syD (d : Dsk) (s : ByteArray) : Dsk := opD d (fnP d s) d (syY d s)
def trP (d : Dsk) (s : ByteArray) (n : Int) : Int := if d.has s then (if n < 0 ∨ ((d.f s).b.length : Int) < n then 1 else 0) else 24
def trY (d : Dsk) (s : ByteArray) (n : Int) : Dsk := { d.tick.put s ⟨(d.f s).b.take n.toNat, if n < (d.f s).syn then n else (d.f s).syn⟩ with used := IntKind.i64.wrap (d.used - IntKind.i64.wrap ((d.f s).b.length - n)) }
def trD (d : Dsk) (s : ByteArray) (n : Int) : Dsk := opD d (trP d s n) d (trY d s n)
def rnP (d : Dsk) (s t : ByteArray) : Int := if d.has s then (if nmd t then 0 else 21) else 24
def rnY (d : Dsk) (s t : ByteArray) : Dsk := if s = t then d.tick else { (d.tick.del s).put t (d.f s) with used := if d.has t then IntKind.i64.wrap (d.used - (d.f t).b.length) else d.used }
def rnE (d : Dsk) (s t : ByteArray) : Int := opE d (rnP d s t) d
def rnD (d : Dsk) (s t : ByteArray) : Dsk := opD d (rnP d s t) d (rnY d s t)
def rmY (d : Dsk) (s : ByteArray) : Dsk := { d.tick.del s with used := IntKind.i64.wrap (d.used - (d.f s).b.length) }
def rmE (d : Dsk) (s : ByteArray) : Int := opE d (fnP d s) d
def rmD (d : Dsk) (s : ByteArray) : Dsk := opD d (fnP d s) d (rmY d s)
theorem err_le {s : ByteArray} {t : TypeId} {a : AV} {e : Int} (h : le0 (.ifc t a) (.ifc t (.y (.int .i64 e)))) : cellLe 2 (Ax.get [.y (.string s), .ifc t a]) (Ax.get [.y (.string s), .ifc t (.y (.int .i64 e))]) := fun j hj => match j, hj with
  | 0, _ => le0_refl _
  | 1, _ => h
theorem updBs_same {f : ByteArray → Bool} {k : ByteArray} (h : f k = true) (y : ByteArray) : updBs f k y = f y := by
  unfold updBs
  by_cases hy : k = y
  · subst hy; simp [h]
  · simp [hy]
theorem appB_le (a b : List Int) : contLe (a.length + b.length) 1 (appRow a.length (cellsOf' encB a) (cellsOf' encB b)) (cellsOf' encB (a ++ b)) := by
  intro k hk j hj
  unfold appRow cellsOf'
  by_cases h : k < a.length
  · rw [if_pos h]; simp [List.getElem?_append_left h]
  · rw [if_neg h]
    have : (a ++ b)[k]? = b[k - a.length]? := List.getElem?_append_right (by omega)
    simp [this]
theorem get_t {d : Dsk} {s : ByteArray} (h : d.has s = true) : d.get s = d.f s := by simp [Dsk.get, h]
theorem get_f {d : Dsk} {s : ByteArray} (h : d.has s = false) : d.get s = default := by simp [Dsk.get, h]
@[simp] theorem dfF1 : (default : Fil).b = [] := rfl
@[simp] theorem dfF2 : (default : Fil).syn = 0 := rfl
theorem ap_c (d : Dsk) (s : ByteArray) (c : Bool) (l : List Int) (hn0 : apP d s l = 0 → (d.get s).b.length + l.length ≤ 140737488355328) : (opR (apD d s l) (apE d s l)).Sat (ACall' Tryz.prog 8 [.ptr 0 0 0 0, .y (.string s), encBs c l] (dkM d)) := by
  refine ctr_vc (ht := apH s) Tryz.mixed rfl ?_
  rw [vcAp_eq d (apD d s l) s c l (apE d s l)]
  unfold vcAp vcAp_q5 vcAp_q4 vcAp_q3 vcAp_q2 vcAp_q1
  refine ⟨fun hd => ?_, fun hd => ?_⟩
  · have e : apE d s l = 22 := by simp [apE, opE, hd]
    have ey : apD d s l = d := by simp [apD, opD, hd]
    simp [e, ey]
  by_cases h1 : nmd s = true
  case neg =>
    have p : apP d s l = 21 := by simp [apP, h1]
    have e : apE d s l = 21 := by simp [apE, opE, hd, p]
    have ey : apD d s l = d := by simp [apD, opD, hd, p, apQ, h1]
    simp [e, ey, h1, err_le]
  by_cases h2 : d.fail = 0
  · have p : apP d s l = 23 := by simp [apP, h1, h2]
    have e : apE d s l = 23 := by simp [apE, opE, hd, p]
    have ey : apD d s l = d.fld := by simp [apD, opD, hd, p, apQ, h1]
    simp [e, ey, h1, h2, err_le, Dsk.fld, mx]
  by_cases h5 : d.has s = false ∧ (d.n : Int) = 64
  · have p : apP d s l = 23 := by simp [apP, h1, h2, h5]
    have e : apE d s l = 23 := by simp [apE, opE, hd, p]
    have ey : apD d s l = d.fld := by simp [apD, opD, hd, p, apQ, h1]
    simp [e, ey, h1, h2, h5.1, h5.2, err_le, Dsk.fld, mx]
  by_cases h3 : IntKind.i64.wrap (d.room - d.used) < l.length
  · have p : apP d s l = 23 := by unfold apP; rw [if_neg (by simp [h1]), if_neg h2, if_neg h5, if_pos h3]
    have e : apE d s l = 23 := by simp [apE, opE, hd, p]
    have ey : apD d s l = d.fld := by simp [apD, opD, hd, p, apQ, h1]
    cases hh : d.has s with
    | true => simp [e, ey, h1, h2, h3, hh, err_le, Dsk.fld, mx]
    | false =>
      have h6 : ¬(d.n : Int) = 64 := fun h => h5 ⟨hh, h⟩
      simp [e, ey, h1, h2, h3, hh, h6, err_le, Dsk.fld, mx]
  have p : apP d s l = 0 := by unfold apP; rw [if_neg (by simp [h1]), if_neg h2, if_neg h5, if_neg h3]
  by_cases h4 : d.trip = 0
  · have e : apE d s l = 22 := by simp [apE, opE, hd, p, apQ, h1, Dsk.fld, h4]
    have ey : apD d s l = { d.fld with down := true } := by simp [apD, opD, hd, p, apQ, h1, Dsk.fld, h4]
    cases hh : d.has s with
    | true => simp [e, ey, h1, h2, h3, h4, hh, Dsk.fld, mx]
    | false =>
      have h6 : ¬(d.n : Int) = 64 := fun h => h5 ⟨hh, h⟩
      simp [e, ey, h1, h2, h3, h4, hh, h6, Dsk.fld, mx]
  have hn := hn0 p
  have e : apE d s l = 0 := by simp [apE, opE, hd, p, apQ, h1, Dsk.fld, h4]
  have ey : apD d s l = apY d s l := by simp [apD, opD, hd, p, apQ, h1, Dsk.fld, h4]
  cases hh : d.has s with
  | true =>
    rw [get_t hh] at hn
    have := appB_le (d.f s).b l
    simp +contextual [e, ey, h1, h2, h3, h4, hh, Dsk.fld, mx, apY, Dsk.tick, Dsk.put, get_t hh, updBs_same hh, this]
    omega
  | false =>
    have h6 : ¬(d.n : Int) = 64 := fun h => h5 ⟨hh, h⟩
    rw [get_f hh] at hn
    have hl : l.length ≤ 140737488355328 := by simpa using hn
    simp +contextual [e, ey, h1, h2, h3, h4, hh, h6, Dsk.fld, mx, apY, Dsk.tick, Dsk.put, get_f hh]
    omega
theorem sy_c (d : Dsk) (s : ByteArray) : (opR (syD d s) (syE d s)).Sat (ACall' Tryz.prog 15 [.ptr 0 0 0 0, .y (.string s)] (dkM d)) := by
  refine ctr_vc (ht := syH s) Tryz.mixed rfl ?_
  rw [vcSy_eq d (syD d s) s (syE d s)]
  unfold vcSy
  refine ⟨fun hd => ?_, fun hd => ?_⟩
  · have e : syE d s = 22 := by simp [syE, opE, hd]
    have ey : syD d s = d := by simp [syD, opD, hd]
    simp [e, ey]
  cases hh : d.has s with
  | true =>
    by_cases h4 : d.trip = 0
    · have e : syE d s = 22 := by simp [syE, opE, hd, fnP, hh, h4]
      have ey : syD d s = { d with down := true } := by simp [syD, opD, hd, fnP, hh, h4]
      simp [e, ey, h4]
    · have e : syE d s = 0 := by simp [syE, opE, hd, fnP, hh, h4]
      have ey : syD d s = syY d s := by simp [syD, opD, hd, fnP, hh, h4]
      simp +contextual [e, ey, h4, syY, Dsk.tick, Dsk.put, hh, mx, updBs_same hh]
  | false =>
    have e : syE d s = 24 := by simp [syE, opE, hd, fnP, hh]
    have ey : syD d s = d := by simp [syD, opD, hd, fnP, hh]
    simp [e, ey, err_le]
end Go.Proofs.YtfiohpojlgkmkaaGreatDoor.O

namespace Go.Proofs.YtfiohpojlgkmkaaGreatDoor.O
open Go.Ax
set_option maxRecDepth 1000000
theorem ba_eq {s t : ByteArray} : (s.data.toList == t.data.toList) = true ↔ s = t := by
  rw [beq_iff_eq]
  constructor
  · intro h
    have : s.data = t.data := Array.ext' h
    cases s; cases t; simp at this; rw [this]
  · rintro rfl; rfl
theorem rn_c (d : Dsk) (s t : ByteArray) : (opR (rnD d s t) (rnE d s t)).Sat (ACall' Tryz.prog 9 [.ptr 0 0 0 0, .y (.string s), .y (.string t)] (dkM d)) := by
  refine ctr_vc (ht := rnH s t) Tryz.mixed rfl ?_
  rw [vcRn_eq d (rnD d s t) s t (rnE d s t)]
  unfold vcRn
  refine ⟨fun hd => ?_, fun hd => ?_⟩
  · have e : rnE d s t = 22 := by simp [rnE, opE, hd]
    have ey : rnD d s t = d := by simp [rnD, opD, hd]
    simp [e, ey]
  cases hh : d.has s with
  | false =>
    have p : rnP d s t = 24 := by simp [rnP, hh]
    have e : rnE d s t = 24 := by simp [rnE, opE, hd, p]
    have ey : rnD d s t = d := by simp [rnD, opD, hd, p]
    simp [e, ey, err_le]
  | true =>
    by_cases h1 : nmd t = true
    case neg =>
      have p : rnP d s t = 21 := by simp [rnP, hh, h1]
      have e : rnE d s t = 21 := by simp [rnE, opE, hd, p]
      have ey : rnD d s t = d := by simp [rnD, opD, hd, p]
      simp [e, ey, h1, err_le]
    have p : rnP d s t = 0 := by simp [rnP, hh, h1]
    by_cases h4 : d.trip = 0
    · have e : rnE d s t = 22 := by simp [rnE, opE, hd, p, h4]
      have ey : rnD d s t = { d with down := true } := by simp [rnD, opD, hd, p, h4]
      simp [e, ey, h1, h4]
    have e : rnE d s t = 0 := by simp [rnE, opE, hd, p, h4]
    have ey : rnD d s t = rnY d s t := by simp [rnD, opD, hd, p, h4]
    by_cases hst : s = t
    · have hb : (s.data.toList == t.data.toList) = true := ba_eq.2 hst
      subst hst
      simp +contextual [e, ey, h1, h4, rnY, Dsk.tick, mx]
    · have hb : (s.data.toList == t.data.toList) = false := by
        cases hq : (s.data.toList == t.data.toList) with
        | false => rfl
        | true => exact absurd (ba_eq.1 hq) hst
      have hts : ¬t = s := fun h => hst h.symm
      rw [e, ey]
      cases ht : d.has t with
      | true =>
        have hdt : delBs d.has s t = true := by simp [delBs, hst, ht]
        simp +contextual [h1, h4, hb, hst, hts, rnY, Dsk.tick, Dsk.put, Dsk.del, mx, ht, hdt, updBs_same hdt]
      | false =>
        have hdt : delBs d.has s t = false := by simp [delBs, ht]
        simp +contextual [h1, h4, hb, hst, hts, rnY, Dsk.tick, Dsk.put, Dsk.del, mx, ht, hdt]
theorem rm_c (d : Dsk) (s : ByteArray) : (opR (rmD d s) (rmE d s)).Sat (ACall' Tryz.prog 11 [.ptr 0 0 0 0, .y (.string s)] (dkM d)) := by
  refine ctr_vc (ht := rmH s) Tryz.mixed rfl ?_
  rw [vcRm_eq d (rmD d s) s (rmE d s)]
  unfold vcRm
  refine ⟨fun hd => ?_, fun hd => ?_⟩
  · have e : rmE d s = 22 := by simp [rmE, opE, hd]
    have ey : rmD d s = d := by simp [rmD, opD, hd]
    simp [e, ey]
  cases hh : d.has s with
  | true =>
    by_cases h4 : d.trip = 0
    · have e : rmE d s = 22 := by simp [rmE, opE, hd, fnP, hh, h4]
      have ey : rmD d s = { d with down := true } := by simp [rmD, opD, hd, fnP, hh, h4]
      simp [e, ey, h4]
    · have e : rmE d s = 0 := by simp [rmE, opE, hd, fnP, hh, h4]
      have ey : rmD d s = rmY d s := by simp [rmD, opD, hd, fnP, hh, h4]
      simp +contextual [e, ey, h4, rmY, Dsk.tick, Dsk.del, mx]
  | false =>
    have e : rmE d s = 24 := by simp [rmE, opE, hd, fnP, hh]
    have ey : rmD d s = d := by simp [rmD, opD, hd, fnP, hh]
    simp [e, ey, err_le]
def clnR (n : Nat) (c : Nat → Nat → AV) : T An := .ret (.own 0 1 0 n, [.row 5 1 n none c], [])
noncomputable def clnH : HintsT Tryz.prog := hh _ noLp noCs (op1 51 2 0 (.row 5 1) noOp)
def vcClone0 (n : Nat) (c : Nat → Nat → AV) : Prop :=
  ((0 : Nat) = (0 : Nat) ∧ (0 : Nat) = n) ∧ ((0 : Nat) = n ∧ contLe (0 : Nat) (1 : Nat) (fun (x x_1 : Nat) => AV.junk) c) ∧ True
theorem vcClone0_eq (n : Nat) (c : Nat → Nat → AV) : (ctrVC Tryz.prog clnH 51 [.s (.slice none 0 0)] [] (clnR n c)) = vcClone0 n c := by kernel_rfl
def vcClone1 (b : Bool) (n : Nat) (c : Nat → Nat → AV) : Prop :=
  (decide ((0 : Nat) + n ≤ (9223372036854775807 : Nat)) && decide (((0 : Nat) + n) * (1 : Nat) ≤ (140737488355328 : Nat))) = true ∧ ((0 : Nat) = (0 : Nat) ∧ (0 : Nat) + n = n) ∧ ((0 : Nat) + n = n ∧ contLe ((0 : Nat) + n) (1 : Nat) (appRow (0 : Nat) (fun (k j : Nat) => AV.junk) c) c) ∧ True
theorem vcClone1_eq (b : Bool) (n : Nat) (c : Nat → Nat → AV) : (ctrVC Tryz.prog clnH 51 [.yn b 1 n c] [] (clnR n c)) = vcClone1 b n c := by kernel_rfl
theorem clone_c (b : Bool) (n : Nat) (c : Nat → Nat → AV) (hl : n ≤ 140737488355328) : (clnR n c).Sat (ACall' Tryz.prog 51 [.ys b 1 n c] []) := by
  refine nil_cases (pre := []) (post := []) (fun h0 => ?_) ?_ ⟨_, rfl⟩
  · refine ctr_vc (ht := clnH) Tryz.mixed rfl ?_
    rw [List.nil_append, vcClone0_eq n c]
    unfold vcClone0
    simp [h0]
  · refine ctr_vc (ht := clnH) Tryz.mixed rfl ?_
    rw [List.nil_append, vcClone1_eq b n c]
    unfold vcClone1
    simp
    omega
noncomputable def clnC (b : Bool) (l : List Int) : Ctr Tryz.prog := ⟨51, [encBs b l], [], .need (l.length ≤ 140737488355328) (clnR l.length (cellsOf' encB l)), T.Sat.need fun h => clone_c b _ _ h⟩
def clfR (n : Nat) (c : Nat → Nat → AV) : T An := .ret (.ys true 1 n c, [], [])
noncomputable def clfB : HintsT Tryz.prog := withSh (hT _) (sh1 51 3 3 779 noSh)
def vcCb0 (n : Nat) (c : Nat → Nat → AV) : Prop :=
  n = (0 : Nat) ∧ True
theorem vcCb0_eq (n : Nat) (c : Nat → Nat → AV) : (ctrVC Tryz.prog clfB 51 [.s (.slice none 0 0)] [] (clfR n c)) = vcCb0 n c := by kernel_rfl
def vcCb1 (b : Bool) (n : Nat) (c : Nat → Nat → AV) : Prop :=
  (decide ((0 : Nat) + n ≤ (9223372036854775807 : Nat)) && decide (((0 : Nat) + n) * (1 : Nat) ≤ (140737488355328 : Nat))) = true ∧ (∀ (k : Nat), k < (0 : Nat) + n → ∀ (j : Nat), j < (1 : Nat) → tagT (appRow (0 : Nat) (fun (k j : Nat) => AV.junk) c k j) = true) ∧ (true = true ∧ (0 : Nat) + n = n ∧ contLe ((0 : Nat) + n) (1 : Nat) (Ax.rowAt (0 : Nat) (appRow (0 : Nat) (fun (k j : Nat) => AV.junk) c)) c) ∧ True
theorem vcCb1_eq (b : Bool) (n : Nat) (c : Nat → Nat → AV) : (ctrVC Tryz.prog clfB 51 [.yn b 1 n c] [] (clfR n c)) = vcCb1 b n c := by kernel_rfl
theorem clb_c (b : Bool) (n : Nat) (c : Nat → Nat → AV) (ht : ∀ k, k < n → tagT (c k 0) = true) (hl : n ≤ 140737488355328) : (clfR n c).Sat (ACall' Tryz.prog 51 [.ys b 1 n c] []) := by
  refine nil_cases (pre := []) (post := []) (fun h0 => ?_) ?_ ⟨_, rfl⟩
  · refine ctr_vc (ht := clfB) Tryz.mixed rfl ?_
    rw [List.nil_append, vcCb0_eq n c]
    unfold vcCb0
    simp [h0]
  · refine ctr_vc (ht := clfB) Tryz.mixed rfl ?_
    rw [List.nil_append, vcCb1_eq b n c]
    unfold vcCb1
    simp
    exact ⟨⟨by omega, hl⟩, ht⟩
noncomputable def clfC (b : Bool) (l : List Int) : Ctr Tryz.prog := ⟨51, [encBs b l], [], .need (l.length ≤ 140737488355328) (clfR l.length (cellsOf' encB l)), T.Sat.need fun h => clb_c b _ _ (fun _ _ => rfl) h⟩
def subO (f : FuncId) : Bool := !Nat.beq f 51
def szR (d : Dsk) (s : ByteArray) : T An := .ret (.tup [.y (.int .i64 (d.get s).b.length), .y (.int .i64 (d.get s).syn), .y (.bool (d.has s))], dkM d, jM)
def vcSz (d : Dsk) (s : ByteArray) : Prop :=
  (d.has s = true → ((↑(List.length (d.f s).b) : Int) = (↑(List.length (Dsk.get d s).b) : Int) ∧ (d.f s).syn = (Dsk.get d s).syn ∧ true = d.has s ∧ True) ∧ ((True ∧ d.room = d.room ∧ d.used = d.used ∧ d.down = d.down ∧ d.trip = d.trip ∧ d.fail = d.fail ∧ True) ∧ (d.n = d.n ∧ (∀ (x : ByteArray), d.has x = d.has x) ∧ (((List.length (d.f s).b = List.length (d.f s).b ∧ contLe (List.length (d.f s).b) (1 : Nat) (cellsOf' encB (d.f s).b) (cellsOf' encB (d.f s).b)) ∧ (true = true ∧ (d.f s).syn = (d.f s).syn) ∧ True) ∧ True) ∧ ∀ (x : ByteArray), d.has x = true → ¬x = s → (List.length (d.f x).b = List.length (d.f x).b ∧ contLe (List.length (d.f x).b) (1 : Nat) (cellsOf' encB (d.f x).b) (cellsOf' encB (d.f x).b)) ∧ (d.f x).syn = (d.f x).syn ∧ True) ∧ True) ∧ True) ∧ (d.has s = false → ((0 : Int) = (↑(List.length (Dsk.get d s).b) : Int) ∧ (0 : Int) = (Dsk.get d s).syn ∧ false = d.has s ∧ True) ∧ (True ∧ d.room = d.room ∧ d.used = d.used ∧ d.down = d.down ∧ d.trip = d.trip ∧ d.fail = d.fail ∧ True) ∧ (d.n = d.n ∧ (∀ (x : ByteArray), d.has x = d.has x) ∧ ∀ (x : ByteArray), d.has x = true → (List.length (d.f x).b = List.length (d.f x).b ∧ contLe (List.length (d.f x).b) (1 : Nat) (cellsOf' encB (d.f x).b) (cellsOf' encB (d.f x).b)) ∧ (d.f x).syn = (d.f x).syn ∧ True) ∧ True)
theorem vcSz_eq (d : Dsk) (s : ByteArray) : (ctrVC Tryz.prog subA 13 [.ptr 0 0 0 0, .y (.string s)] (dkM d) (szR d s)) = vcSz d s := by kernel_rfl
def rdE (d : Dsk) (s : ByteArray) (at' n : Int) : Int := if d.down then 22 else if d.has s then (if at' < 0 ∨ n < 0 ∨ ((d.f s).b.length : Int) < at' then 1 else 0) else 24
def rdL (d : Dsk) (s : ByteArray) (at' n : Int) : List Int := if rdE d s at' n = 0 then ((d.f s).b.drop at'.toNat).take n.toNat else []
def rdR (d : Dsk) (l : List Int) (e : Int) : T An := .ret (.tup [encBs true l, .y (.int .i64 e)], dkM d, jM)
noncomputable def rdH (l : List Int) : HintsT Tryz.prog := { withSh (hh _ noLp (cs1 17 5 1 (nu2C 24) (cs1 17 8 17 (clfC false l) noCs)) noOp) noSh with sub := subO }
def vcRd (d : Dsk) (s : ByteArray) (a : Int) (n : Int) (l : List Int) (e : Int) : Prop :=
  (d.down = true → (List.length l = (0 : Nat) ∧ (22 : Int) = e ∧ True) ∧ (True ∧ d.room = d.room ∧ d.used = d.used ∧ d.down = d.down ∧ d.trip = d.trip ∧ d.fail = d.fail ∧ True) ∧ (d.n = d.n ∧ (∀ (x : ByteArray), d.has x = d.has x) ∧ ∀ (x : ByteArray), d.has x = true → (List.length (d.f x).b = List.length (d.f x).b ∧ contLe (List.length (d.f x).b) (1 : Nat) (cellsOf' encB (d.f x).b) (cellsOf' encB (d.f x).b)) ∧ (d.f x).syn = (d.f x).syn ∧ True) ∧ True) ∧ (d.down = false → (d.has s = true → (decide (a < (0 : Int)) = true → (List.length l = (0 : Nat) ∧ (1 : Int) = e ∧ True) ∧ ((True ∧ d.room = d.room ∧ d.used = d.used ∧ d.down = d.down ∧ d.trip = d.trip ∧ d.fail = d.fail ∧ True) ∧ (d.n = d.n ∧ (∀ (x : ByteArray), d.has x = d.has x) ∧ (((List.length (d.f s).b = List.length (d.f s).b ∧ contLe (List.length (d.f s).b) (1 : Nat) (cellsOf' encB (d.f s).b) (cellsOf' encB (d.f s).b)) ∧ (true = true ∧ (d.f s).syn = (d.f s).syn) ∧ True) ∧ True) ∧ ∀ (x : ByteArray), d.has x = true → ¬x = s → (List.length (d.f x).b = List.length (d.f x).b ∧ contLe (List.length (d.f x).b) (1 : Nat) (cellsOf' encB (d.f x).b) (cellsOf' encB (d.f x).b)) ∧ (d.f x).syn = (d.f x).syn ∧ True) ∧ True) ∧ True) ∧ (decide (a < (0 : Int)) = false → (decide (n < (0 : Int)) = true → (List.length l = (0 : Nat) ∧ (1 : Int) = e ∧ True) ∧ ((True ∧ d.room = d.room ∧ d.used = d.used ∧ d.down = d.down ∧ d.trip = d.trip ∧ d.fail = d.fail ∧ True) ∧ (d.n = d.n ∧ (∀ (x : ByteArray), d.has x = d.has x) ∧ (((List.length (d.f s).b = List.length (d.f s).b ∧ contLe (List.length (d.f s).b) (1 : Nat) (cellsOf' encB (d.f s).b) (cellsOf' encB (d.f s).b)) ∧ (true = true ∧ (d.f s).syn = (d.f s).syn) ∧ True) ∧ True) ∧ ∀ (x : ByteArray), d.has x = true → ¬x = s → (List.length (d.f x).b = List.length (d.f x).b ∧ contLe (List.length (d.f x).b) (1 : Nat) (cellsOf' encB (d.f x).b) (cellsOf' encB (d.f x).b)) ∧ (d.f x).syn = (d.f x).syn ∧ True) ∧ True) ∧ True) ∧ (decide (n < (0 : Int)) = false → (decide ((↑(List.length (d.f s).b) : Int) < a) = true → (List.length l = (0 : Nat) ∧ (1 : Int) = e ∧ True) ∧ ((True ∧ d.room = d.room ∧ d.used = d.used ∧ d.down = d.down ∧ d.trip = d.trip ∧ d.fail = d.fail ∧ True) ∧ (d.n = d.n ∧ (∀ (x : ByteArray), d.has x = d.has x) ∧ (((List.length (d.f s).b = List.length (d.f s).b ∧ contLe (List.length (d.f s).b) (1 : Nat) (cellsOf' encB (d.f s).b) (cellsOf' encB (d.f s).b)) ∧ (true = true ∧ (d.f s).syn = (d.f s).syn) ∧ True) ∧ True) ∧ ∀ (x : ByteArray), d.has x = true → ¬x = s → (List.length (d.f x).b = List.length (d.f x).b ∧ contLe (List.length (d.f x).b) (1 : Nat) (cellsOf' encB (d.f x).b) (cellsOf' encB (d.f x).b)) ∧ (d.f x).syn = (d.f x).syn ∧ True) ∧ True) ∧ True) ∧ (decide ((↑(List.length (d.f s).b) : Int) < a) = false → (decide ((0 : Int) ≤ a) && decide (a ≤ IntKind.wrap IntKind.i64 (a + if IntKind.wrap IntKind.i64 ((↑(List.length (d.f s).b) : Int) - a) < n then IntKind.wrap IntKind.i64 ((↑(List.length (d.f s).b) : Int) - a) else n)) && decide (IntKind.wrap IntKind.i64 (a + if IntKind.wrap IntKind.i64 ((↑(List.length (d.f s).b) : Int) - a) < n then IntKind.wrap IntKind.i64 ((↑(List.length (d.f s).b) : Int) - a) else n) ≤ (↑(List.length (d.f s).b) : Int))) = true ∧ ((false = false ∧ Int.toNat (IntKind.wrap IntKind.i64 (a + if IntKind.wrap IntKind.i64 ((↑(List.length (d.f s).b) : Int) - a) < n then IntKind.wrap IntKind.i64 ((↑(List.length (d.f s).b) : Int) - a) else n)) - Int.toNat a = List.length l ∧ contLe (Int.toNat (IntKind.wrap IntKind.i64 (a + if IntKind.wrap IntKind.i64 ((↑(List.length (d.f s).b) : Int) - a) < n then IntKind.wrap IntKind.i64 ((↑(List.length (d.f s).b) : Int) - a) else n)) - Int.toNat a) (1 : Nat) (Ax.rowAt ((0 : Nat) + Int.toNat a) (cellsOf' encB (d.f s).b)) (cellsOf' encB l)) ∧ True) ∧ True ∧ List.length l ≤ (140737488355328 : Nat) ∧ true = true ∧ True ∧ ((true = true ∧ List.length l = List.length l ∧ contLe (List.length l) (1 : Nat) (cellsOf' encB l) (cellsOf' encB l)) ∧ (0 : Int) = e ∧ True) ∧ ((True ∧ d.room = d.room ∧ d.used = d.used ∧ d.down = d.down ∧ d.trip = d.trip ∧ d.fail = d.fail ∧ True) ∧ (d.n = d.n ∧ (∀ (x : ByteArray), d.has x = d.has x) ∧ (((List.length (d.f s).b = List.length (d.f s).b ∧ contLe (List.length (d.f s).b) (1 : Nat) (cellsOf' encB (d.f s).b) (cellsOf' encB (d.f s).b)) ∧ (true = true ∧ (d.f s).syn = (d.f s).syn) ∧ True) ∧ True) ∧ ∀ (x : ByteArray), d.has x = true → ¬x = s → (List.length (d.f x).b = List.length (d.f x).b ∧ contLe (List.length (d.f x).b) (1 : Nat) (cellsOf' encB (d.f x).b) (cellsOf' encB (d.f x).b)) ∧ (d.f x).syn = (d.f x).syn ∧ True) ∧ True) ∧ True)))) ∧ (d.has s = false → ((24 : Int) = (24 : Int) ∧ True) ∧ True ∧ (List.length l = (0 : Nat) ∧ (24 : Int) = e ∧ True) ∧ (True ∧ d.room = d.room ∧ d.used = d.used ∧ d.down = d.down ∧ d.trip = d.trip ∧ d.fail = d.fail ∧ True) ∧ (d.n = d.n ∧ (∀ (x : ByteArray), d.has x = d.has x) ∧ ∀ (x : ByteArray), d.has x = true → (List.length (d.f x).b = List.length (d.f x).b ∧ contLe (List.length (d.f x).b) (1 : Nat) (cellsOf' encB (d.f x).b) (cellsOf' encB (d.f x).b)) ∧ (d.f x).syn = (d.f x).syn ∧ True) ∧ True))
theorem vcRd_eq (d : Dsk) (s : ByteArray) (a : Int) (n : Int) (l : List Int) (e : Int) : (ctrVC Tryz.prog (rdH l) 17 [.ptr 0 0 0 0, .y (.string s), .y (.int .i64 a), .y (.int .i64 n)] (dkM d) (rdR d l e)) = vcRd d s a n l e := by kernel_rfl
def vcDn (d : Dsk) : Prop :=
  d.down = d.down ∧ (True ∧ d.room = d.room ∧ d.used = d.used ∧ d.down = d.down ∧ d.trip = d.trip ∧ d.fail = d.fail ∧ True) ∧ (d.n = d.n ∧ (∀ (x : ByteArray), d.has x = d.has x) ∧ ∀ (x : ByteArray), d.has x = true → (List.length (d.f x).b = List.length (d.f x).b ∧ contLe (List.length (d.f x).b) (1 : Nat) (cellsOf' encB (d.f x).b) (cellsOf' encB (d.f x).b)) ∧ (d.f x).syn = (d.f x).syn ∧ True) ∧ True
theorem vcDn_eq (d : Dsk) : (ctrVC Tryz.prog subA 19 [.ptr 0 0 0 0] (dkM d) (.ret (.y (.bool d.down), dkM d, jM))) = vcDn d := by kernel_rfl
def vcUs (d : Dsk) : Prop :=
  d.used = d.used ∧ (True ∧ d.room = d.room ∧ d.used = d.used ∧ d.down = d.down ∧ d.trip = d.trip ∧ d.fail = d.fail ∧ True) ∧ (d.n = d.n ∧ (∀ (x : ByteArray), d.has x = d.has x) ∧ ∀ (x : ByteArray), d.has x = true → (List.length (d.f x).b = List.length (d.f x).b ∧ contLe (List.length (d.f x).b) (1 : Nat) (cellsOf' encB (d.f x).b) (cellsOf' encB (d.f x).b)) ∧ (d.f x).syn = (d.f x).syn ∧ True) ∧ True
theorem vcUs_eq (d : Dsk) : (ctrVC Tryz.prog subA 14 [.ptr 0 0 0 0] (dkM d) (.ret (.y (.int .i64 d.used), dkM d, jM))) = vcUs d := by kernel_rfl
def vcTp (d : Dsk) (n : Int) : Prop :=
  True ∧ (True ∧ d.room = d.room ∧ d.used = d.used ∧ d.down = d.down ∧ (if n > (-1 : Int) then n else (-1 : Int)) = mx n ∧ d.fail = d.fail ∧ True) ∧ (d.n = d.n ∧ (∀ (x : ByteArray), d.has x = d.has x) ∧ ∀ (x : ByteArray), d.has x = true → (List.length (d.f x).b = List.length (d.f x).b ∧ contLe (List.length (d.f x).b) (1 : Nat) (cellsOf' encB (d.f x).b) (cellsOf' encB (d.f x).b)) ∧ (d.f x).syn = (d.f x).syn ∧ True) ∧ True
theorem vcTp_eq (d : Dsk) (n : Int) : (ctrVC Tryz.prog subA 18 [.ptr 0 0 0 0, .y (.int .i64 n)] (dkM d) (.ret (.tup [], dkM { d with trip := mx n }, jM))) = vcTp d n := by kernel_rfl
def vcFl (d : Dsk) (n : Int) : Prop :=
  True ∧ (True ∧ d.room = d.room ∧ d.used = d.used ∧ d.down = d.down ∧ d.trip = d.trip ∧ (if n > (-1 : Int) then n else (-1 : Int)) = mx n ∧ True) ∧ (d.n = d.n ∧ (∀ (x : ByteArray), d.has x = d.has x) ∧ ∀ (x : ByteArray), d.has x = true → (List.length (d.f x).b = List.length (d.f x).b ∧ contLe (List.length (d.f x).b) (1 : Nat) (cellsOf' encB (d.f x).b) (cellsOf' encB (d.f x).b)) ∧ (d.f x).syn = (d.f x).syn ∧ True) ∧ True
theorem vcFl_eq (d : Dsk) (n : Int) : (ctrVC Tryz.prog subA 20 [.ptr 0 0 0 0, .y (.int .i64 n)] (dkM d) (.ret (.tup [], dkM { d with fail := mx n }, jM))) = vcFl d n := by kernel_rfl
end Go.Proofs.YtfiohpojlgkmkaaGreatDoor.O

namespace Go.Proofs
open Go.Shelf
def Tryz.keysL_ren : Go.Shelf.Ren := ⟨fun | 7 => 46 | 10 => 62 | n => n, fun | 23 => 50 | 26 => 9 | 3 => 56 | 28 => 66 | 0 => 0 | 27 => 65 | 33 => 58 | 4 => 4 | n => n, fun | n => n⟩
theorem Tryz.keysL : Go.Proofs.SlLaysZ.n7 Tryz.prog Tryz.keysL_ren := {
  mixed := by kernel_rfl
  f7 := ⟨Tryz.f46.name, by decide, Tryz.func46.trans (congrArg some (by kernel_rfl))⟩
  f10 := ⟨Tryz.f62.name, by decide, Tryz.func62.trans (congrArg some (by kernel_rfl))⟩
  t0 := Tryz.underlying0
  a0 := Tryz.isAgg0
  z0 := Tryz.sizeOf0
  v0 := Tryz.zeroValue0
  t4 := Tryz.underlying4
  a4 := Tryz.isAgg4
  z4 := Tryz.sizeOf4
  v4 := Tryz.zeroValue4
  t23 := Tryz.underlying50
  a23 := Tryz.isAgg50
  z23 := Tryz.sizeOf50
  v23 := Tryz.zeroValue50
  t26 := Tryz.underlying9
  a26 := Tryz.isAgg9
  z26 := Tryz.sizeOf9
  v26 := Tryz.zeroValue9
  t27 := Tryz.underlying65
  a27 := Tryz.isAgg65
  z27 := Tryz.sizeOf65
  v27 := Tryz.zeroValue65
  t28 := Tryz.underlying66
  a28 := Tryz.isAgg66
  z28 := Tryz.sizeOf66
  v28 := Tryz.zeroValue66
  t33 := Tryz.underlying58
  a33 := Tryz.isAgg58
  z33 := Tryz.sizeOf58
  v33 := Tryz.zeroValue58 }
def Tryz.sortedL_ren : Go.Shelf.Ren := ⟨fun | 6 => 45 | 8 => 60 | 9 => 61 | 11 => 71 | 13 => 73 | 12 => 72 | 23 => 91 | 24 => 92 | 14 => 82 | 15 => 83 | 16 => 84 | 17 => 85 | 18 => 86 | 19 => 87 | 20 => 88 | 21 => 89 | 22 => 90 | 25 => 99 | 26 => 100 | 27 => 101 | 28 => 102 | 29 => 103 | 30 => 104 | 31 => 109 | n => n, fun | 26 => 9 | 28 => 66 | 24 => 36 | 0 => 0 | 3 => 3 | 37 => 96 | 48 => 123 | 50 => 125 | 4 => 4 | 40 => 115 | 39 => 114 | 45 => 120 | 5 => 5 | 9 => 9 | 51 => 141 | 55 => 145 | 57 => 155 | 58 => 156 | 33 => 58 | n => n, fun | n => n⟩
theorem Tryz.sortedL : Go.Proofs.SlLaysZ.n6 Tryz.prog Tryz.sortedL_ren := {
  mixed := by kernel_rfl
  f6 := ⟨Tryz.f45.name, by decide, Tryz.func45.trans (congrArg some (by kernel_rfl))⟩
  f8 := ⟨Tryz.f60.name, by decide, Tryz.func60.trans (congrArg some (by kernel_rfl))⟩
  f11 := ⟨Tryz.f71.name, by decide, Tryz.func71.trans (congrArg some (by kernel_rfl))⟩
  t0 := Tryz.underlying0
  a0 := Tryz.isAgg0
  z0 := Tryz.sizeOf0
  v0 := Tryz.zeroValue0
  t24 := Tryz.underlying36
  a24 := Tryz.isAgg36
  z24 := Tryz.sizeOf36
  v24 := Tryz.zeroValue36
  t26 := Tryz.underlying9
  a26 := Tryz.isAgg9
  z26 := Tryz.sizeOf9
  v26 := Tryz.zeroValue9
  t28 := Tryz.underlying66
  a28 := Tryz.isAgg66
  z28 := Tryz.sizeOf66
  v28 := Tryz.zeroValue66
  i26 := by kernel_rfl }
def Tryz.sortL_ren : Go.Shelf.Ren := ⟨fun | 6 => 61 | 8 => 73 | 9 => 72 | 19 => 91 | 20 => 92 | 21 => 82 | 22 => 83 | 23 => 84 | 24 => 85 | 25 => 86 | 26 => 87 | 27 => 88 | 28 => 89 | 29 => 90 | 36 => 99 | 31 => 100 | 32 => 101 | 37 => 102 | 38 => 103 | 39 => 104 | 41 => 109 | n => n, fun | 27 => 36 | 29 => 9 | 3 => 3 | 32 => 96 | 26 => 36 | 0 => 0 | 44 => 123 | 46 => 125 | 4 => 4 | 36 => 115 | 35 => 114 | 41 => 120 | 5 => 5 | 9 => 9 | 53 => 141 | 57 => 145 | 63 => 155 | 64 => 156 | n => n, fun | n => n⟩
theorem Tryz.sortL : Go.Proofs.SlLaysM.n6 Tryz.prog Tryz.sortL_ren := {
  mixed := by kernel_rfl
  f6 := ⟨Tryz.f61.name, by decide, Tryz.func61.trans (congrArg some (by kernel_rfl))⟩
  f8 := Tryz.func73.trans (congrArg some (by kernel_rfl))
  f9 := ⟨Tryz.f72.name, by decide, Tryz.func72.trans (congrArg some (by kernel_rfl))⟩
  f19 := Tryz.func91.trans (congrArg some (by kernel_rfl))
  f20 := Tryz.func92.trans (congrArg some (by kernel_rfl))
  f21 := ⟨Tryz.f82.name, by decide, Tryz.func82.trans (congrArg some (by kernel_rfl))⟩
  f22 := ⟨Tryz.f83.name, by decide, Tryz.func83.trans (congrArg some (by kernel_rfl))⟩
  f23 := ⟨Tryz.f84.name, by decide, Tryz.func84.trans (congrArg some (by kernel_rfl))⟩
  f24 := ⟨Tryz.f85.name, by decide, Tryz.func85.trans (congrArg some (by kernel_rfl))⟩
  f25 := ⟨Tryz.f86.name, by decide, Tryz.func86.trans (congrArg some (by kernel_rfl))⟩
  f26 := ⟨Tryz.f87.name, by decide, Tryz.func87.trans (congrArg some (by kernel_rfl))⟩
  f27 := ⟨Tryz.f88.name, by decide, Tryz.func88.trans (congrArg some (by kernel_rfl))⟩
  f28 := ⟨Tryz.f89.name, by decide, Tryz.func89.trans (congrArg some (by kernel_rfl))⟩
  f29 := ⟨Tryz.f90.name, by decide, Tryz.func90.trans (congrArg some (by kernel_rfl))⟩
  f31 := Tryz.func100.trans (congrArg some (by kernel_rfl))
  f32 := Tryz.func101.trans (congrArg some (by kernel_rfl))
  f36 := ⟨Tryz.f99.name, by decide, Tryz.func99.trans (congrArg some (by kernel_rfl))⟩
  f37 := ⟨Tryz.f102.name, by decide, Tryz.func102.trans (congrArg some (by kernel_rfl))⟩
  f38 := ⟨Tryz.f103.name, by decide, Tryz.func103.trans (congrArg some (by kernel_rfl))⟩
  f39 := ⟨Tryz.f104.name, by decide, Tryz.func104.trans (congrArg some (by kernel_rfl))⟩
  f41 := ⟨Tryz.f109.name, by decide, Tryz.func109.trans (congrArg some (by kernel_rfl))⟩
  t0 := Tryz.underlying0
  a0 := Tryz.isAgg0
  z0 := Tryz.sizeOf0
  v0 := Tryz.zeroValue0
  t3 := Tryz.underlying3
  a3 := Tryz.isAgg3
  z3 := Tryz.sizeOf3
  v3 := Tryz.zeroValue3
  t4 := Tryz.underlying4
  a4 := Tryz.isAgg4
  z4 := Tryz.sizeOf4
  v4 := Tryz.zeroValue4
  t5 := Tryz.underlying5
  a5 := Tryz.isAgg5
  z5 := Tryz.sizeOf5
  v5 := Tryz.zeroValue5
  t9 := Tryz.underlying9
  a9 := Tryz.isAgg9
  z9 := Tryz.sizeOf9
  v9 := Tryz.zeroValue9
  t26 := Tryz.underlying36
  a26 := Tryz.isAgg36
  z26 := Tryz.sizeOf36
  v26 := Tryz.zeroValue36
  t27 := Tryz.underlying36
  a27 := Tryz.isAgg36
  z27 := Tryz.sizeOf36
  v27 := Tryz.zeroValue36
  t29 := Tryz.underlying9
  a29 := Tryz.isAgg9
  z29 := Tryz.sizeOf9
  v29 := Tryz.zeroValue9
  t32 := Tryz.underlying96
  a32 := Tryz.isAgg96
  z32 := Tryz.sizeOf96
  v32 := Tryz.zeroValue96
  t35 := Tryz.underlying114
  a35 := Tryz.isAgg114
  z35 := Tryz.sizeOf114
  v35 := Tryz.zeroValue114
  t36 := Tryz.underlying115
  a36 := Tryz.isAgg115
  z36 := Tryz.sizeOf115
  v36 := Tryz.zeroValue115
  t41 := Tryz.underlying120
  a41 := Tryz.isAgg120
  z41 := Tryz.sizeOf120
  v41 := Tryz.zeroValue120
  t44 := Tryz.underlying123
  a44 := Tryz.isAgg123
  z44 := Tryz.sizeOf123
  v44 := Tryz.zeroValue123
  t46 := Tryz.underlying125
  a46 := Tryz.isAgg125
  z46 := Tryz.sizeOf125
  v46 := Tryz.zeroValue125
  t53 := Tryz.underlying141
  a53 := Tryz.isAgg141
  z53 := Tryz.sizeOf141
  v53 := Tryz.zeroValue141
  t57 := Tryz.underlying145
  a57 := Tryz.isAgg145
  z57 := Tryz.sizeOf145
  v57 := Tryz.zeroValue145
  t63 := Tryz.underlying155
  a63 := Tryz.isAgg155
  z63 := Tryz.sizeOf155
  v63 := Tryz.zeroValue155
  t64 := Tryz.underlying156
  a64 := Tryz.isAgg156
  z64 := Tryz.sizeOf156
  v64 := Tryz.zeroValue156 }
end Go.Proofs
namespace Go.Proofs.YtfiohpojlgkmkaaGreatDoor.O
open Go.Ax Go.Maps
set_option maxRecDepth 1000000
structure Srt (ks : List ByteArray) (has : ByteArray → Bool) : Prop where
  so : ks.Pairwise fun a b => a.data.toList < b.data.toList
  mem : ∀ x, has x = true ↔ x ∈ ks
def bl (s : ByteArray) : List UInt8 := s.data.toList
theorem bl_inj {s t : ByteArray} (h : bl s = bl t) : s = t := ba_eq.1 (by rw [beq_iff_eq]; exact h)
theorem lt_ne {a b : List UInt8} (h : a < b) : a ≠ b := by rintro rfl; exact absurd h (List.lt_irrefl a)
theorem Srt.nodup {ks : List ByteArray} {has : ByteArray → Bool} (h : Srt ks has) : (ks.map bl).Nodup := by
  refine List.pairwise_map.2 (h.so.imp fun hab => lt_ne hab)
theorem Srt.sorted {ks : List ByteArray} {has : ByteArray → Bool} (h : Srt ks has) : (ks.map bl).mergeSort (fun x y => decide (x ≤ y)) = ks.map bl := by
  refine List.mergeSort_of_pairwise (List.pairwise_map.2 (h.so.imp fun hab => ?_))
  simp only [decide_eq_true_eq]
  exact List.le_of_lt hab
def kb (e : MapEntry) : List UInt8 := match e.key with | .string s => bl s | _ => []
def RA (_ : Value) : Option (DataW Unit × List MemPlace) := some (DataW.nil, [])
theorem keys_own {w : World} {b : Nat} {ms : Array MapEntry} {ck : Nat} (hk : Tryz.prog.underlying 9 = some .string) (hb : w.heap[b]? = some (.map ms ck)) (he : EntsOk .s ms.toList ck) (hs : ∀ e ∈ ms.toList, ∀ s, e.key = .string s → s.size ≤ maxLen) (hn : ms.size ≤ maxLen) :
    ∃ D0 : DataW Unit, w.ownsMap Tryz.prog 9 RA b ms.size D0 ∧ (strKeys D0).Perm (ms.toList.map kb) ∧ Maps.size D0 = ms.size := by
  have hr : ∀ x ∈ ms.toList, Go.WideElems.rd Tryz.prog 9 RA x = some (.string (kb x), .nil) := fun x hx => by
    obtain ⟨s, hxs⟩ := he.key x hx
    have hxs : x.key = .string s := hxs
    have h1 := Go.WideMaps.keyOf_string_mk hk (hs x hx s hxs)
    unfold Go.WideElems.rd
    rw [hxs, h1]
    simp [RA, kb, hxs, bl]
  have hg : ms.toList.map (Go.WideElems.rg Tryz.prog 9 RA) = ms.toList.map fun x => (Lit.string (kb x), DataW.nil) := List.map_congr_left fun x hx => Go.WideElems.rg_of (hr x hx)
  refine ⟨_, ⟨ms, ck, hb, ⟨hn, ⟨he.lt, he.born, he.once⟩, fun x hx => ⟨_, hr x hx⟩⟩, Nat.le_refl _, rfl⟩, ?_, ?_⟩
  · show (((ms.toList.map (Go.WideElems.rg Tryz.prog 9 RA)).foldr DataW.insert []).map fun p => strOf p.1).Perm _
    refine ((Go.WideShapes.sorted_perm _).map _).trans ?_
    rw [hg, List.map_map]
    exact List.Perm.refl _
  · show ((ms.toList.map (Go.WideElems.rg Tryz.prog 9 RA)).foldr DataW.insert []).length = _
    rw [(Go.WideShapes.sorted_perm _).length_eq]
    simp
theorem sortsL (m : Nat) : AnyZ.SortsIn Tryz.prog Tryz.sortedL_ren Fence.wide m :=
  ⟨fun blk off cap ss W hH hblk hsz => callsIn_wide.2 (AnyM.slices_Sort_string Tryz.sortL blk off cap ss W hH hblk hsz),
   fun p cap W => callsIn_wide.2 (AnyM.slices_Sort_string_none Tryz.sortL p cap W)⟩
theorem undS : Tryz.prog.underlying 9 = some .string := by kernel_rfl
theorem sorted_calls {w : World} {b bb n : Nat} {ms : Array MapEntry} {ck : Nat} {vs : Array Value} {ty : TypeId} {lb : Nat × Nat} (hb : w.heap[b]? = some (.map ms ck)) (hbb : w.heap[bb]? = some (.cells vs ty lb)) (hv : vs[0]? = some (.map (some b))) (he : EntsOk .s ms.toList ck) (hs : ∀ e ∈ ms.toList, ∀ s, e.key = .string s → s.size ≤ maxLen) (hn : ms.size = n) (hm : n * 16 ≤ 140737488355328) :
    Calls Tryz.prog 45 #[.func (.func 62) #[] #[.pointer (some ⟨bb, 0, none⟩)]] w fun e w' => ∃ (v : Value) (ss : List (List UInt8)), e = .returned v ∧ ss.Perm (ms.toList.map kb) ∧
      w'.ownsRow w.heap.size 9 1 v ss.length ((ss.mergeSort (fun x y => decide (x ≤ y))).map Go.Proofs.encStr) ∧ Go.RowKit.Below w.heap.size w w' := by
  have hmax : ms.size ≤ maxLen := by unfold maxLen; omega
  obtain ⟨D0, hown, hp, hsz⟩ := keys_own undS hb he hs hmax
  have hlt : bb < w.heap.size := (Array.getElem?_eq_some_iff.1 hbb).1
  have hcell : w.cell? ⟨bb, 0, none⟩ = some (.map (some b)) := by
    unfold World.cell?
    rw [hbb]
    simpa using hv
  have hseq := AnyZ.keys_gives (ρ := Tryz.keysL_ren) { Tryz.keysL with } Fence.wide 2 trivial rfl (by omega) bb b ms.size D0 w hlt hcell hown
  have cS := AnyZ.sorted_in Tryz.sortedL Fence.wide 5 trivial trivial trivial trivial rfl (by omega) (sortsL _) (enters_of Tryz.func61 (by kernel_rfl) rfl) 62 #[.pointer (some ⟨bb, 0, none⟩)] trivial (enters_of Tryz.func62 (by kernel_rfl) rfl) _ _ (by rw [hsz]; exact hmax) (by rw [hsz]; omega) w hseq
  refine (callsIn_wide.1 cS).mono ?_
  rintro e w' ⟨v, ss, he, hS, hrow, _, hbl⟩
  exact ⟨v, ss, he, hS.trans hp, hrow, hbl⟩
end Go.Proofs.YtfiohpojlgkmkaaGreatDoor.O

namespace Go.Proofs.YtfiohpojlgkmkaaGreatDoor.O
open Go.Ax Go.Maps
set_option maxRecDepth 1000000
def soM (has : ByteArray → Bool) (c : ByteArray → Tr) (n : Nat) : List Blk := [.dead, .tmap .s has c n [], .box 50 [.mref 1]]
def soR (has : ByteArray → Bool) (c : ByteArray → Tr) (n : Nat) (ks : List ByteArray) : T An := .ret (.own 3 1 0 ks.length, soM has c n ++ [.row 9 1 ks.length none (cellsOf' encS ks)], [])
structure SrtOk (ks : List ByteArray) (has : ByteArray → Bool) (n : Nat) : Prop where
  srt : Srt ks has
  len : ks.length = n
  bnd : n * 16 ≤ 140737488355328
  key : ∀ x, has x = true → x.size ≤ maxLen
theorem kb_perm {ks : List ByteArray} {has : ByteArray → Bool} {l : List MapEntry} {ck : Nat} (hs : Srt ks has) (he : EntsOk .s l ck) (hk : ∀ x, has x = true ↔ ∃ v, mgetK .s x l v) : (l.map kb).Perm (ks.map bl) := by
  refine (List.perm_ext_iff_of_nodup ?_ hs.nodup).2 fun x => ?_
  · have := he.once
    rw [List.nodup_iff_pairwise_ne, List.pairwise_map] at this ⊢
    refine this.imp_of_mem fun {a b} ha hb hne e => hne ?_
    obtain ⟨s, hs⟩ := he.key a ha
    obtain ⟨t, ht⟩ := he.key b hb
    have hs : a.key = .string s := hs
    have ht : b.key = .string t := ht
    simp only [kb, hs, ht] at e
    rw [hs, ht, bl_inj e]
  · rw [List.mem_map, List.mem_map]
    constructor
    · rintro ⟨e, hel, rfl⟩
      obtain ⟨s, hes⟩ := he.key e hel
      refine ⟨s, (hs.mem s).1 ((hk s).2 ⟨e.val, e, hel, hes, rfl⟩), ?_⟩
      have hes : e.key = .string s := hes
      simp [kb, hes]
    · rintro ⟨s, hsk, rfl⟩
      obtain ⟨v, e, hel, hes, _⟩ := (hk s).1 ((hs.mem s).2 hsk)
      have hes : e.key = .string s := hes
      exact ⟨e, hel, by simp [kb, hes]⟩
theorem so_c (has : ByteArray → Bool) (c : ByteArray → Tr) (n : Nat) (ks : List ByteArray) (h : SrtOk ks has n) : (soR has c n ks).Sat (ACall' Tryz.prog 45 [.fn (.func 62) [] [.ptr 2 0 0 0]] (soM has c n)) := by
  refine T.Sat.ret fun H E w vals hC hargs => ?_
  obtain ⟨v0, r0, e0, hf, er⟩ := hargs
  have er : r0 = [] := er
  subst er
  obtain ⟨x, y, rfl, hx, hy⟩ := hf
  have hx : x.toList = [] := hx
  obtain ⟨p, r1, ey, hp, er1⟩ := hy
  have er1 : r1 = [] := er1
  subst er1
  obtain ⟨hl2, bb, hbb, rfl⟩ := hp
  have hvals : vals = #[.func (.func 62) #[] #[.pointer (some ⟨bb, 0, none⟩)]] := by
    have h1 : x = #[] := Array.ext' hx
    have h2 : y = #[.pointer (some ⟨bb, 0, none⟩)] := Array.ext' (by simpa using ey)
    apply Array.ext'
    rw [e0, h1, h2]
  subst hvals
  have hB2 := hC.blk 2
  obtain ⟨_, bb', vs, g1, g2, g3, g4⟩ := (hB2 : BlkOk H E w 2 (.box 50 [.mref 1]))
  rw [hbb] at g1; cases g1
  obtain ⟨u, r2, ev, hu, er2⟩ := g4
  obtain ⟨hl1, b, hb, rfl⟩ := hu
  have hB1 := hC.blk 1
  obtain ⟨_, b', ms, ck, F, k1, k2, k3, k4⟩ := (hB1 : BlkOk H E w 1 (.tmap .s has c n []))
  rw [hb] at k1; cases k1
  have hperm := kb_perm h.srt k4.ents k4.hasK
  have hsz : ms.size = n := by simpa using k4.size
  have hlen : ∀ e ∈ ms.toList, ∀ s, e.key = .string s → s.size ≤ maxLen := fun e he s hs => h.key s ((k4.hasK s).2 ⟨e.val, e, he, hs, rfl⟩)
  have hv0 : vs[0]? = some (.map (some b)) := by
    have : vs.toList[0]? = some (.map (some b)) := by rw [ev]; rfl
    simpa using this
  refine (sorted_calls k3 g2 hv0 k4.ents hlen hsz h.bnd).mono ?_
  rintro e w' ⟨v, ss, he, hS, hrow, hbl⟩
  have hsort : ss.mergeSort (fun x y => decide (x ≤ y)) = ks.map bl := by
    rw [← h.srt.sorted]
    exact mergeSort_of_perm (hS.trans hperm)
  have hssl : ss.length = ks.length := by
    have := (hS.trans hperm).length_eq
    simpa using this
  rw [hsort, hssl] at hrow
  obtain ⟨hC1, hE1⟩ := conc_below hC hbl
  obtain ⟨hxs, hrow⟩ := hrow
  have hd3 : getM (soM has c n) 3 = .dead := rfl
  have hks := h.len
  rcases hrow with ⟨rfl, h0⟩ | ⟨g, cap, cur, rfl, hg, hcur, hc1, hc2, hc3, hc4⟩
  · obtain ⟨s1, s2, s3, s4⟩ := E.set_same 3 none 0 0
    obtain ⟨hC2, hE2⟩ := hC.new (w' := w') (i := 3) (κ := 0) (η := 0) (bo := none) (B := .row 9 1 ks.length none (cellsOf' encS ks)) hd3 hbl.os hbl.tape hbl.output hbl.size hbl.block (fun b hb => by cases hb)
      ⟨s1, by rw [s3, s4, h0]; exact ⟨rfl, Nat.le_refl _⟩, by rw [s3]; exact Nat.zero_le _, (fun q hq => by cases hq), by rw [s2]; exact s3⟩
    exact ⟨_, H, _, he, ⟨s1, by rw [s3, s4, h0]; exact ⟨Nat.le_refl _, Nat.le_refl _⟩, by rw [s2]; exact ⟨rfl, h0, rfl⟩⟩, hC2, hE2⟩
  · obtain ⟨s1, s2, s3, s4⟩ := E.set_same 3 (some g) cap ks.length
    have hcells : ∀ k, k < ks.length → cur[k]? = some (.string (ks.getD k default)) := fun k hk => by
      have h1 : (cur.toList.take (ks.length * 1))[k]? = (((ks.map bl).map Go.Proofs.encStr))[k]? := by rw [hc4]
      rw [List.getElem?_take, if_pos (by omega)] at h1
      have h2 : cur[k]? = cur.toList[k]? := by simp
      rw [h2, h1]
      simp [Go.Proofs.encStr, bl, hk]
    obtain ⟨hC2, hE2⟩ := hC.new (w' := w') (i := 3) (κ := cap) (η := ks.length) (bo := some g) (B := .row 9 1 ks.length none (cellsOf' encS ks)) hd3 hbl.os hbl.tape hbl.output hbl.size hbl.block (fun b hb => by cases hb; exact hg)
      ⟨s1, by rw [s3, s4]; exact ⟨rfl, hc1⟩, by rw [s3]; exact hc2, (fun q hq => by cases hq), by
        rw [s2, s3]
        refine ⟨cur, hcur, fun x hx => ?_, hc3, fun k hk j hj => ?_⟩
        · rw [hc4, List.map_map] at hx
          obtain ⟨y, _, rfl⟩ := List.mem_map.1 hx
          rfl
        · obtain rfl : j = 0 := by omega
          exact ⟨_, by simpa using hcells k hk, ⟨rfl, rfl⟩⟩⟩
    refine ⟨_, H, _, he, ⟨s1, by rw [s3, s4]; exact ⟨by omega, hc1⟩, ?_⟩, hC2, hE2⟩
    rw [s2, s3]
    exact ⟨_, rfl, fun _ => by simp, by simp⟩
noncomputable def soC (d : Dsk) (ks : List ByteArray) : Ctr Tryz.prog := ⟨45, [.fn (.func 62) [] [.ptr 2 0 0 0]], soM d.has (fun k => trF (d.f k)) d.n, .need (SrtOk ks d.has d.n) (soR d.has (fun k => trF (d.f k)) d.n ks), T.Sat.need fun h => so_c _ _ _ _ h⟩
def liR (d : Dsk) (ks : List ByteArray) : T An := .ret (encSs true ks, dkM d, jM)
noncomputable def liH (d : Dsk) (ks : List ByteArray) : HintsT Tryz.prog := { withSh (hh _ noLp (cs1 12 1 5 (soC d ks) noCs) noOp) (sh1 12 1 6 779 noSh) with sub := fun _ => true }
def vcLi (d : Dsk) (ks : List ByteArray) : Prop :=
  ((True ∧ ((0 : Nat) = (0 : Nat) ∧ (0 : Nat) = (0 : Nat)) ∧ True) ∧ True) ∧ ((d.n = d.n ∧ (∀ (x : ByteArray), d.has x = d.has x) ∧ ∀ (x : ByteArray), d.has x = true → (List.length (d.f x).b = List.length (d.f x).b ∧ contLe (List.length (d.f x).b) (1 : Nat) (cellsOf' encB (d.f x).b) (cellsOf' encB (d.f x).b)) ∧ (d.f x).syn = (d.f x).syn ∧ True) ∧ (True ∧ True) ∧ True) ∧ SrtOk ks d.has d.n ∧ (∀ (k : Nat), k < List.length ks → ∀ (j : Nat), j < (1 : Nat) → tagT (cellsOf' encS ks k j) = true) ∧ (true = true ∧ List.length ks = List.length ks ∧ contLe (List.length ks) (1 : Nat) (Ax.rowAt (0 : Nat) (cellsOf' encS ks)) (cellsOf' encS ks)) ∧ (True ∧ d.room = d.room ∧ d.used = d.used ∧ d.down = d.down ∧ d.trip = d.trip ∧ d.fail = d.fail ∧ True) ∧ (d.n = d.n ∧ (∀ (x : ByteArray), d.has x = d.has x) ∧ ∀ (x : ByteArray), d.has x = true → (List.length (d.f x).b = List.length (d.f x).b ∧ contLe (List.length (d.f x).b) (1 : Nat) (cellsOf' encB (d.f x).b) (cellsOf' encB (d.f x).b)) ∧ (d.f x).syn = (d.f x).syn ∧ True) ∧ True
theorem vcLi_eq (d : Dsk) (ks : List ByteArray) : (ctrVC Tryz.prog (liH d ks) 12 [.ptr 0 0 0 0] (dkM d) (liR d ks)) = vcLi d ks := by kernel_rfl
end Go.Proofs.YtfiohpojlgkmkaaGreatDoor.O
