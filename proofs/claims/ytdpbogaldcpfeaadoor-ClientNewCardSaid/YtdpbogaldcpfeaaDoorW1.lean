import Derived.Test.YtdpbogaldcpfeaaDoorProg
import Derived.KernelRfl
import Derived.Shelf.Strings.SlTrimAscii
import Derived.Test.YtdpbogaldcpfeaaDoorE9
import Derived.Test.YtdpbogaldcpfeaaDoorE10
set_option linter.unusedVariables false
set_option linter.unusedSimpArgs false
set_option linter.unusedSectionVars false
/-! Variables of the program's that hold a handle from the first (errors.errorType), where a law's calls read them. -/
namespace Go.Proofs.YtdpbogaldcpfeaaDoor
open Go.Ax
end Go.Proofs.YtdpbogaldcpfeaaDoor

/-! Records: data; one record in new memory; ranges of keys. -/
namespace Go.Proofs.YtdpbogaldcpfeaaDoor
open Go.Ax
set_option maxRecDepth 1000000
structure Rec where
  off : Int
  key : ByteArray
  val : List Int
  prod : Int
  seq : Int
instance : Inhabited Rec := ⟨⟨0, ByteArray.empty, [], 0, 0⟩⟩
structure Rng where
  lo : ByteArray
  hi : ByteArray
instance : Inhabited Rng := ⟨⟨ByteArray.empty, ByteArray.empty⟩⟩
def encB (x : Int) : List AV := [.y (.int .u8 x)]
def encU (x : Int) : List AV := [.y (.int .u64 x)]
def encI (x : Int) : List AV := [.y (.int .i64 x)]
def encBs (b : Bool) (l : List Int) : AV := .ys b 1 l.length (cellsOf' encB l)
def encUs (b : Bool) (l : List Int) : AV := .ys b 1 l.length (cellsOf' encU l)
def encR (x : Rec) : List AV := [.y (.int .u64 x.off), .y (.string x.key), encBs true x.val, .y (.int .u64 x.prod), .y (.int .u64 x.seq)]
def encRs (b : Bool) (l : List Rec) : AV := .ys b 5 l.length (cellsOf' encR l)
def encG (r : Rng) : List AV := [.y (.string r.lo), .y (.string r.hi)]
theorem Tryd.mixed : Tryd.prog.follows .mixedOrders = true := by kernel_rfl
def boolR (b : Bool) : T An := .ret (.y (.bool b), [], [])
def intR (k : Int) : T An := .ret (.y (.int .i64 k), [], [])
/-! slices.Clone of bytes -/
/-! a record with another offset -/
def Rec.to (x : Rec) (o : Int) : Rec := ⟨o, x.key, x.val, x.prod, x.seq⟩
/-! ranges -/
def lt (a b : ByteArray) : Bool := Op.bytesLess a.data.toList b.data.toList
def chkK (r : Rng) : Int := if 32 < r.lo.size ∨ 32 < r.hi.size then 131 else if (!r.hi.data.toList == []) = true ∧ (lt r.hi r.lo || r.hi.data.toList == r.lo.data.toList) = true then 132 else 0
def vcChk (r : Rng) : Prop :=
  (decide ((32 : Int) < (↑(ByteArray.size r.lo) : Int)) = true → (131 : Int) = chkK r ∧ True) ∧ (decide ((32 : Int) < (↑(ByteArray.size r.lo) : Int)) = false → (decide ((32 : Int) < (↑(ByteArray.size r.hi) : Int)) = true → (131 : Int) = chkK r ∧ True) ∧ (decide ((32 : Int) < (↑(ByteArray.size r.hi) : Int)) = false → ((!r.hi.data.toList == []) = true → ((Op.bytesLess r.hi.data.toList r.lo.data.toList || r.hi.data.toList == r.lo.data.toList) = true → (132 : Int) = chkK r ∧ True) ∧ ((Op.bytesLess r.hi.data.toList r.lo.data.toList || r.hi.data.toList == r.lo.data.toList) = false → (0 : Int) = chkK r ∧ True)) ∧ ((!r.hi.data.toList == []) = false → (0 : Int) = chkK r ∧ True)))
set_option maxRecDepth 1000000 in
theorem vcChk_eq (r : Rng) : (ctrVC Tryd.prog (hT _) 98 [.agg (encG r)] [] (intR (chkK r))) = vcChk r := by kernel_rfl
end Go.Proofs.YtdpbogaldcpfeaaDoor

/-! Records: a range has a key; may records be a log? -/
namespace Go.Proofs.YtdpbogaldcpfeaaDoor
open Go.Ax
set_option maxRecDepth 1000000
theorem chk_c (r : Rng) : (intR (chkK r)).Sat (ACall' Tryd.prog 98 [.agg (encG r)] []) := by
  refine ctr_vc (ht := hT _) Tryd.mixed rfl ?_
  rw [vcChk_eq r]
  unfold vcChk chkK lt
  simp
  grind
noncomputable def chkC (r : Rng) : Ctr Tryd.prog := ⟨98, [.agg (encG r)], [], intR (chkK r), chk_c r⟩
def hasK (r : Rng) (k : ByteArray) : Bool := chkK r == 0 && (decide ((k.size : Int) ≤ 32) && ((lt r.lo k || r.lo.data.toList == k.data.toList) && (r.hi.data.toList == [] || lt k r.hi)))
noncomputable def hasH (r : Rng) : HintsT Tryd.prog := hh _ noLp (cs1 87 1 1 (chkC r) noCs) noOp
def vcHas (r : Rng) (k : ByteArray) : Prop :=
  ((r.lo = r.lo ∧ r.hi = r.hi ∧ True) ∧ True) ∧ True ∧ ((chkK r == (0 : Int)) = true → (decide ((↑(ByteArray.size k) : Int) ≤ (32 : Int)) = true → ((Op.bytesLess r.lo.data.toList k.data.toList || r.lo.data.toList == k.data.toList) = true → ((r.hi.data.toList == []) = true → true = hasK r k ∧ True) ∧ ((r.hi.data.toList == []) = false → Op.bytesLess k.data.toList r.hi.data.toList = hasK r k ∧ True)) ∧ ((Op.bytesLess r.lo.data.toList k.data.toList || r.lo.data.toList == k.data.toList) = false → false = hasK r k ∧ True)) ∧ (decide ((↑(ByteArray.size k) : Int) ≤ (32 : Int)) = false → false = hasK r k ∧ True)) ∧ ((chkK r == (0 : Int)) = false → false = hasK r k ∧ True)
set_option maxRecDepth 1000000 in
theorem vcHas_eq (r : Rng) (k : ByteArray) : (ctrVC Tryd.prog (hasH r) 87 [.agg (encG r), .y (.string k)] [] (boolR (hasK r k))) = vcHas r k := by kernel_rfl
theorem has_c (r : Rng) (k : ByteArray) : (boolR (hasK r k)).Sat (ACall' Tryd.prog 87 [.agg (encG r), .y (.string k)] []) := by
  refine ctr_vc (ht := hasH r) Tryd.mixed rfl ?_
  rw [vcHas_eq r k]
  unfold vcHas
  unfold hasK lt
  generalize (chkK r == 0) = a
  generalize decide ((k.size : Int) ≤ 32) = b
  generalize Op.bytesLess r.lo.data.toList k.data.toList = c
  generalize (r.lo.data.toList == k.data.toList) = d
  generalize (r.hi.data.toList == []) = e
  generalize Op.bytesLess k.data.toList r.hi.data.toList = f
  cases a <;> cases b <;> cases c <;> cases d <;> cases e <;> cases f <;> simp
end Go.Proofs.YtdpbogaldcpfeaaDoor

/-! Records: may records be a log? has a list a lower one? -/
namespace Go.Proofs.YtdpbogaldcpfeaaDoor
open Go.Ax
set_option maxRecDepth 1000000
/-! one of the same producer with a lower number -/
def below (x y : Rec) : Bool := y.prod == x.prod && decide (y.seq < x.seq)
def lowR (l : List Rec) (x : Rec) : Bool := l.any (below x)
end Go.Proofs.YtdpbogaldcpfeaaDoor

/-! Records: the contracts of Log, wait, lower. -/
namespace Go.Proofs.YtdpbogaldcpfeaaDoor
open Go.Ax
set_option maxRecDepth 1000000
end Go.Proofs.YtdpbogaldcpfeaaDoor

/-! Records: two logs as one. -/
namespace Go.Proofs.YtdpbogaldcpfeaaDoor
open Go.Ax
set_option maxRecDepth 1000000
def hd (l : List Rec) : Rec := l.getD 0 default
structure Jo where
  (a b out : List Rec) (ta tb : List Int)
def Jo.tA (s : Jo) : Bool := !s.a.isEmpty && !lowR s.b (hd s.a)
def Jo.tB (s : Jo) : Bool := !s.b.isEmpty && !lowR s.a (hd s.b)
def Jo.at (s : Jo) : Int := IntKind.u64.wrap (s.out.length : Nat)
def Jo.goA (s : Jo) : Jo := ⟨s.a.tail, s.b, s.out ++ [(hd s.a).to s.at], s.ta ++ [s.at], s.tb⟩
def Jo.goB (s : Jo) : Jo := ⟨s.a, s.b.tail, s.out ++ [(hd s.b).to s.at], s.ta, s.tb ++ [s.at]⟩
def joinN : Nat → Jo → Option Jo
  | 0, s => some s
  | n + 1, s => if s.tA then joinN n s.goA else if s.tB then joinN n s.goB else none
def Jo.run (s : Jo) : Option Jo := joinN (s.a.length + s.b.length) s
/-! the program's loop -/
structure Jo.Ok (s : Jo) : Prop where
  a : ∀ x ∈ s.a, x.val.length ≤ 256
  b : ∀ x ∈ s.b, x.val.length ≤ 256
  n : s.a.length + s.b.length + s.out.length ≤ 4096
  ta : s.ta.length ≤ s.out.length
  tb : s.tb.length ≤ s.out.length
/-! the document's loop -/
def Jo.end (s : Jo) : Jo := ⟨s.a, s.b, s.out, s.ta ++ [s.at], s.tb ++ [s.at]⟩
end Go.Proofs.YtdpbogaldcpfeaaDoor

/-! Records: the contracts of Join. -/
namespace Go.Proofs.YtdpbogaldcpfeaaDoor
open Go.Ax
set_option maxRecDepth 1000000
end Go.Proofs.YtdpbogaldcpfeaaDoor

/-! Records: the contracts of Join: the document's loop; both. -/
namespace Go.Proofs.YtdpbogaldcpfeaaDoor
open Go.Ax
set_option maxRecDepth 1000000
end Go.Proofs.YtdpbogaldcpfeaaDoor

/-! Records: names. -/
namespace Go.Proofs
open Go.Shelf
def Tryd.lays160_ren : Go.Shelf.Ren := ⟨fun | 160 => 61 | 232 => 81 | 231 => 80 | 227 => 82 | 234 => 84 | 233 => 83 | 236 => 86 | 235 => 85 | 228 => 94 | 271 => 97 | 151 => 96 | 197 => 95 | 120 => 101 | 152 => 100 | 260 => 99 | 137 => 102 | 119 => 103 | 224 => 104 | 225 => 105 | 217 => 106 | 266 => 107 | n => n, fun | 9 => 9 | 4 => 4 | 3 => 3 | 5 => 5 | 117 => 140 | 116 => 139 | 0 => 0 | 124 => 143 | 21 => 21 | 105 => 154 | 46 => 95 | 119 => 158 | 139 => 161 | 138 => 160 | n => n, fun | 3 => 0 | 4 => 1 | n => n⟩
theorem Tryd.lays160 : Go.Proofs.Lays.n160 Tryd.prog Tryd.lays160_ren := {
  mixed := by kernel_rfl
  f119 := Tryd.func103.trans (congrArg some (by kernel_rfl))
  f120 := Tryd.func101.trans (congrArg some (by kernel_rfl))
  f137 := Tryd.func102.trans (congrArg some (by kernel_rfl))
  f151 := Tryd.func96.trans (congrArg some (by kernel_rfl))
  f152 := Tryd.func100.trans (congrArg some (by kernel_rfl))
  f160 := Tryd.func61.trans (congrArg some (by kernel_rfl))
  f197 := Tryd.func95.trans (congrArg some (by kernel_rfl))
  f217 := Tryd.func106.trans (congrArg some (by kernel_rfl))
  f224 := Tryd.func104.trans (congrArg some (by kernel_rfl))
  f225 := Tryd.func105.trans (congrArg some (by kernel_rfl))
  f227 := Tryd.func82.trans (congrArg some (by kernel_rfl))
  f228 := Tryd.func94.trans (congrArg some (by kernel_rfl))
  f231 := Tryd.func80.trans (congrArg some (by kernel_rfl))
  f232 := Tryd.func81.trans (congrArg some (by kernel_rfl))
  f233 := Tryd.func83.trans (congrArg some (by kernel_rfl))
  f234 := Tryd.func84.trans (congrArg some (by kernel_rfl))
  f235 := Tryd.func85.trans (congrArg some (by kernel_rfl))
  f236 := Tryd.func86.trans (congrArg some (by kernel_rfl))
  f260 := Tryd.func99.trans (congrArg some (by kernel_rfl))
  f266 := Tryd.func107.trans (congrArg some (by kernel_rfl))
  f271 := Tryd.func97.trans (congrArg some (by kernel_rfl))
  t0 := Tryd.underlying0
  a0 := Tryd.isAgg0
  z0 := Tryd.sizeOf0
  v0 := Tryd.zeroValue0
  t3 := Tryd.underlying3
  a3 := Tryd.isAgg3
  z3 := Tryd.sizeOf3
  v3 := Tryd.zeroValue3
  t4 := Tryd.underlying4
  a4 := Tryd.isAgg4
  z4 := Tryd.sizeOf4
  v4 := Tryd.zeroValue4
  t5 := Tryd.underlying5
  a5 := Tryd.isAgg5
  z5 := Tryd.sizeOf5
  v5 := Tryd.zeroValue5
  t9 := Tryd.underlying9
  a9 := Tryd.isAgg9
  z9 := Tryd.sizeOf9
  v9 := Tryd.zeroValue9
  t21 := Tryd.underlying21
  a21 := Tryd.isAgg21
  z21 := Tryd.sizeOf21
  v21 := Tryd.zeroValue21
  t46 := Tryd.underlying95
  a46 := Tryd.isAgg95
  z46 := Tryd.sizeOf95
  v46 := Tryd.zeroValue95
  t105 := Tryd.underlying154
  a105 := Tryd.isAgg154
  z105 := Tryd.sizeOf154
  v105 := Tryd.zeroValue154
  t116 := Tryd.underlying139
  a116 := Tryd.isAgg139
  z116 := Tryd.sizeOf139
  t117 := Tryd.underlying140
  a117 := Tryd.isAgg140
  z117 := Tryd.sizeOf140
  v117 := Tryd.zeroValue140
  t119 := Tryd.underlying158
  a119 := Tryd.isAgg158
  z119 := Tryd.sizeOf158
  t124 := Tryd.underlying143
  a124 := Tryd.isAgg143
  z124 := Tryd.sizeOf143
  v124 := Tryd.zeroValue143
  t138 := Tryd.underlying160
  a138 := Tryd.isAgg160
  z138 := Tryd.sizeOf160
  v138 := Tryd.zeroValue160
  t139 := Tryd.underlying161
  a139 := Tryd.isAgg161
  z139 := Tryd.sizeOf161
  v139 := Tryd.zeroValue161
  g3 := by kernel_rfl
  g4 := by kernel_rfl }
end Go.Proofs
namespace Go.Proofs.YtdpbogaldcpfeaaDoor
open Go.Ax
set_option maxRecDepth 1000000
def chars : List UInt8 := [97, 98, 99, 100, 101, 102, 103, 104, 105, 106, 107, 108, 109, 110, 111, 112, 113, 114, 115, 116, 117, 118, 119, 120, 121, 122, 48, 49, 50, 51, 52, 53, 54, 55, 56, 57, 45, 95, 46]
def isCh (b : UInt8) : Bool := chars.contains b
def nameOk (s : ByteArray) : Bool := !(s.data.toList == []) && (decide ((s.size : Int) ≤ 32) && s.data.toList.all isCh)
theorem drop_all {l : List UInt8} {p : UInt8 → Bool} : (l.dropWhile p == []) = l.all p := by
  induction l with
  | nil => rfl
  | cons a l ih =>
    rw [List.dropWhile_cons, List.all_cons]
    cases h : p a
    · simp
    · simpa using ih
theorem trim_all (l : List UInt8) : (Lib.trimS l chars == []) = l.all isCh := by
  unfold Lib.trimS Lib.trimLeftS Lib.trimRightS
  rw [drop_all]
  cases h : l.all isCh
  · rw [Bool.eq_false_iff]
    intro h2
    have h3 : ∀ m : List UInt8, (m.dropWhile isCh).all isCh = true → m.all isCh = true := by
      intro m
      induction m with
      | nil => exact fun _ => rfl
      | cons a m ih =>
        rw [List.dropWhile_cons]
        cases ha : isCh a
        · intro h; simp at h; simp [ha] at h
        · intro h; simp only [List.all_cons, ha, Bool.true_and]; exact ih h
    have h4 : (l.reverse.dropWhile isCh).all isCh = true := by
      rw [← List.all_reverse]; exact h2
    have h5 := h3 _ h4
    rw [List.all_reverse] at h5
    rw [h5] at h; cases h
  · rw [List.all_reverse]
    have : l.reverse.dropWhile isCh = [] := by
      have := drop_all (l := l.reverse) (p := isCh)
      rw [List.all_reverse, h] at this
      simpa using this
    have e : l.reverse.dropWhile (fun x => chars.contains x) = [] := this
    rw [e]; rfl
def trimR (s : ByteArray) : T An := .ret (.y (.string ⟨(Lib.trimS s.data.toList chars).toArray⟩), [], [])
theorem trim_c (s : ByteArray) (hs : s.size ≤ 9223372036854775807) : (trimR s).Sat (ACall' Tryd.prog 61 [.y (.string s), .s (.string ⟨chars.toArray⟩)] []) := by
  refine call_below fun w vals hv => ?_
  obtain ⟨H, E, v, l1, e1, hv1, v2, l2, e2, hv2, e3⟩ := hv
  have e3 : l2 = [] := e3
  subst e3
  subst e2
  obtain rfl := hv1.1
  obtain rfl := hv2.1
  have hvals : vals = #[.string s, .string ⟨chars.toArray⟩] := Array.ext' e1
  subst hvals
  refine (Any.strings_Trim_laid Tryd.lays160 (by kernel_rfl) s ⟨chars.toArray⟩ w hs (by decide) (Go.Proofs.ascii_of_all (by decide))).mono ?_
  rintro e w' ⟨rfl, hb⟩
  exact ⟨_, rfl, fun _ _ => ⟨rfl, rfl⟩, hb⟩
noncomputable def trimC (s : ByteArray) : Ctr Tryd.prog := ⟨61, [.y (.string s), .s (.string ⟨chars.toArray⟩)], [], .need (s.size ≤ 9223372036854775807) (trimR s), T.Sat.need fun h => trim_c s h⟩
noncomputable def nameH (s : ByteArray) : HintsT Tryd.prog := hh _ noLp (cs1 40 1 9 (trimC s) noCs) noOp
def vcName (s : ByteArray) : Prop :=
  ((!s.data.toList == []) = true → (decide ((↑(ByteArray.size s) : Int) ≤ (32 : Int)) = true → (s = s ∧ { data := #[(97 : UInt8), (98 : UInt8), (99 : UInt8), (100 : UInt8), (101 : UInt8), (102 : UInt8), (103 : UInt8), (104 : UInt8), (105 : UInt8), (106 : UInt8), (107 : UInt8), (108 : UInt8), (109 : UInt8), (110 : UInt8), (111 : UInt8), (112 : UInt8), (113 : UInt8), (114 : UInt8), (115 : UInt8), (116 : UInt8), (117 : UInt8), (118 : UInt8), (119 : UInt8), (120 : UInt8), (121 : UInt8), (122 : UInt8), (48 : UInt8), (49 : UInt8), (50 : UInt8), (51 : UInt8), (52 : UInt8), (53 : UInt8), (54 : UInt8), (55 : UInt8), (56 : UInt8), (57 : UInt8), (45 : UInt8), (95 : UInt8), (46 : UInt8)] : ByteArray } = { data := #[(97 : UInt8), (98 : UInt8), (99 : UInt8), (100 : UInt8), (101 : UInt8), (102 : UInt8), (103 : UInt8), (104 : UInt8), (105 : UInt8), (106 : UInt8), (107 : UInt8), (108 : UInt8), (109 : UInt8), (110 : UInt8), (111 : UInt8), (112 : UInt8), (113 : UInt8), (114 : UInt8), (115 : UInt8), (116 : UInt8), (117 : UInt8), (118 : UInt8), (119 : UInt8), (120 : UInt8), (121 : UInt8), (122 : UInt8), (48 : UInt8), (49 : UInt8), (50 : UInt8), (51 : UInt8), (52 : UInt8), (53 : UInt8), (54 : UInt8), (55 : UInt8), (56 : UInt8), (57 : UInt8), (45 : UInt8), (95 : UInt8), (46 : UInt8)] : ByteArray } ∧ True) ∧ True ∧ ByteArray.size s ≤ (9223372036854775807 : Nat) ∧ (Lib.trimS s.data.toList [(97 : UInt8), (98 : UInt8), (99 : UInt8), (100 : UInt8), (101 : UInt8), (102 : UInt8), (103 : UInt8), (104 : UInt8), (105 : UInt8), (106 : UInt8), (107 : UInt8), (108 : UInt8), (109 : UInt8), (110 : UInt8), (111 : UInt8), (112 : UInt8), (113 : UInt8), (114 : UInt8), (115 : UInt8), (116 : UInt8), (117 : UInt8), (118 : UInt8), (119 : UInt8), (120 : UInt8), (121 : UInt8), (122 : UInt8), (48 : UInt8), (49 : UInt8), (50 : UInt8), (51 : UInt8), (52 : UInt8), (53 : UInt8), (54 : UInt8), (55 : UInt8), (56 : UInt8), (57 : UInt8), (45 : UInt8), (95 : UInt8), (46 : UInt8)] == []) = nameOk s ∧ True) ∧ (decide ((↑(ByteArray.size s) : Int) ≤ (32 : Int)) = false → false = nameOk s ∧ True)) ∧ ((!s.data.toList == []) = false → false = nameOk s ∧ True)
set_option maxRecDepth 1000000 in
theorem vcName_eq (s : ByteArray) : (ctrVC Tryd.prog (nameH s) 40 [.y (.string s)] [] (boolR (nameOk s))) = vcName s := by kernel_rfl
/-! the document's -/
end Go.Proofs.YtdpbogaldcpfeaaDoor

/-! Records: names: the contracts. -/
namespace Go.Proofs.YtdpbogaldcpfeaaDoor
open Go.Ax
set_option maxRecDepth 1000000
theorem name_c (s : ByteArray) : (boolR (nameOk s)).Sat (ACall' Tryd.prog 40 [.y (.string s)] []) := by
  refine ctr_vc (ht := nameH s) Tryd.mixed rfl ?_
  rw [vcName_eq s]
  unfold vcName
  have e := trim_all s.data.toList
  unfold chars at e
  simp only [e, nameOk]
  generalize (s.data.toList == []) = a
  generalize hb : decide ((s.size : Int) ≤ 32) = b
  generalize s.data.toList.all isCh = c
  cases a <;> cases b <;> cases c <;> simp at hb ⊢ <;> omega
noncomputable def nameC (s : ByteArray) : Ctr Tryd.prog := ⟨40, [.y (.string s)], [], boolR (nameOk s), name_c s⟩
end Go.Proofs.YtdpbogaldcpfeaaDoor

/-! A client: data; lists in new memory. -/
namespace Go.Proofs.YtdpbogaldcpfeaaDoor.C
open Go.Ax
set_option maxRecDepth 1000000
structure Adm where
  kind : Int
  prod : Int
  seq : Int
  topic : ByteArray
  nodes : List Int
  group : Int
  other : Int
  key : ByteArray
  fr : Int
  to : Int
  plan : Int
  step : Int
structure Cal where
  kind : Int
  topic : ByteArray
  key : ByteArray
  val : List Int
  off : Int
  most : Int
  name : ByteArray
  adm : Adm
structure Shd where
  group : Int
  rng : Rng
  epoch : Int
  nodes : List Int
  past : List Int
  plan : Int
structure Tpc where
  name : ByteArray
  shards : List Shd
structure Sit where
  group : Int
  node : Int
structure Clt where
  id : Int
  servers : List Int
  prod : Int
  seq : Int
  topics : List Tpc
  leaders : List Sit
  busy : Bool
  call : Cal
  number : Int
  route : Bool
  group : Int
  tries : Int
  waited : Int
  again : Bool
  at' : Int
structure Cmd where
  kind : Int
  epoch : Int
  prod : Int
  seq : Int
  key : ByteArray
  val : List Int
  off : Int
  most : Int
  name : ByteArray
  plan : Int
structure Req where
  id : Int
  kind : Int
  group : Int
  part : Cmd
  adm : Adm
  topic : ByteArray
structure Rep where
  id : Int
  err : Int
  leader : Int
  rerr : Int
  roff : Int
  rold : Bool
  recs : List Rec
  number : Int
  shards : List Shd
  group : Int
  index : Int
  term : Int
structure Out where
  send : Bool
  to : Int
  req : Req
  done : Bool
  rep : Rep
structure Inp where
  kind : Int
  call : Cal
  rep : Rep
instance : Inhabited Adm := ⟨⟨0, 0, 0, ByteArray.empty, [], 0, 0, ByteArray.empty, 0, 0, 0, 0⟩⟩
instance : Inhabited Cal := ⟨⟨0, ByteArray.empty, ByteArray.empty, [], 0, 0, ByteArray.empty, default⟩⟩
instance : Inhabited Shd := ⟨⟨0, default, 0, [], [], 0⟩⟩
instance : Inhabited Tpc := ⟨⟨ByteArray.empty, []⟩⟩
instance : Inhabited Sit := ⟨⟨0, 0⟩⟩
instance : Inhabited Clt := ⟨⟨0, [], 0, 0, [], [], false, default, 0, false, 0, 0, 0, false, 0⟩⟩
instance : Inhabited Cmd := ⟨⟨0, 0, 0, 0, ByteArray.empty, [], 0, 0, ByteArray.empty, 0⟩⟩
instance : Inhabited Req := ⟨⟨0, 0, 0, default, default, ByteArray.empty⟩⟩
instance : Inhabited Rep := ⟨⟨0, 0, 0, 0, 0, false, [], 0, [], 0, 0, 0⟩⟩
instance : Inhabited Out := ⟨⟨false, 0, default, false, default⟩⟩
instance : Inhabited Inp := ⟨⟨0, default, default⟩⟩
def encIs (b : Bool) (l : List Int) : AV := .ys b 1 l.length (cellsOf' encI l)
def encAd (a : Adm) : List AV := [.y (.int .i64 a.kind), .y (.int .u64 a.prod), .y (.int .u64 a.seq), .y (.string a.topic), encIs true a.nodes, .y (.int .u64 a.group), .y (.int .u64 a.other), .y (.string a.key), .y (.int .i64 a.fr), .y (.int .i64 a.to), .y (.int .u64 a.plan), .y (.int .i64 a.step)]
def encCl (c : Cal) : List AV := [.y (.int .i64 c.kind), .y (.string c.topic), .y (.string c.key), encBs true c.val, .y (.int .u64 c.off), .y (.int .i64 c.most), .y (.string c.name), .y (.int .i64 c.adm.kind), .y (.int .u64 c.adm.prod), .y (.int .u64 c.adm.seq), .y (.string c.adm.topic), encIs true c.adm.nodes, .y (.int .u64 c.adm.group), .y (.int .u64 c.adm.other), .y (.string c.adm.key), .y (.int .i64 c.adm.fr), .y (.int .i64 c.adm.to), .y (.int .u64 c.adm.plan), .y (.int .i64 c.adm.step)]
def encSh (s : Shd) : List AV := [.y (.int .u64 s.group), .y (.string s.rng.lo), .y (.string s.rng.hi), .y (.int .u64 s.epoch), encIs true s.nodes, encIs true s.past, .y (.int .u64 s.plan)]
def encShs (b : Bool) (l : List Shd) : AV := .ys b 7 l.length (cellsOf' encSh l)
def encTp (t : Tpc) : List AV := [.y (.string t.name), encShs true t.shards]
def encTps (b : Bool) (l : List Tpc) : AV := .ys b 2 l.length (cellsOf' encTp l)
def encSi (s : Sit) : List AV := [.y (.int .u64 s.group), .y (.int .i64 s.node)]
def encSis (b : Bool) (l : List Sit) : AV := .ys b 2 l.length (cellsOf' encSi l)
/-- a client whose topics and leaders are at hand -/
def encCt (tp ld : AV) (c : Clt) : List AV := [.y (.int .i64 c.id), encIs true c.servers, .y (.int .u64 c.prod), .y (.int .u64 c.seq), tp, ld, .y (.bool c.busy)] ++ encCl c.call ++ [.y (.int .u64 c.number), .y (.bool c.route), .y (.int .u64 c.group), .y (.int .i64 c.tries), .y (.int .i64 c.waited), .y (.bool c.again), .y (.int .i64 c.at')]
def encC0 (b : Bool) (c : Clt) : List AV := encCt (encTps b c.topics) (encSis b c.leaders) c
def encCm (c : Cmd) : List AV := [.y (.int .i64 c.kind), .y (.int .u64 c.epoch), .y (.int .u64 c.prod), .y (.int .u64 c.seq), .y (.string c.key), encBs true c.val, .y (.int .u64 c.off), .y (.int .i64 c.most), .y (.string c.name), .y (.int .u64 c.plan)]
def encRq (r : Req) : List AV := [.y (.int .u64 r.id), .y (.int .i64 r.kind), .y (.int .u64 r.group)] ++ encCm r.part ++ encAd r.adm ++ [.y (.string r.topic)]
def encRp (r : Rep) : List AV := [.y (.int .u64 r.id), .y (.int .i64 r.err), .y (.int .i64 r.leader), .y (.int .i64 r.rerr), .y (.int .u64 r.roff), .y (.bool r.rold), encRs true r.recs, .y (.int .u64 r.number), encShs true r.shards, .y (.int .u64 r.group), .y (.int .u64 r.index), .y (.int .u64 r.term)]
def encOu (o : Out) : List AV := [.y (.bool o.send), .y (.int .i64 o.to)] ++ encRq o.req ++ [.y (.bool o.done)] ++ encRp o.rep
def encIn (i : Inp) : List AV := [.y (.int .i64 i.kind)] ++ encCl i.call ++ encRp i.rep
/-! slices.Clone, frozen -/
def clfR (n : Nat) (c : Nat → Nat → AV) : T An := .ret (.ys true 1 n c, [], [])
noncomputable def clfI : HintsT Tryd.prog := withSh (hT _) (sh1 16 3 3 779 noSh)
def vcCi0 (n : Nat) (c : Nat → Nat → AV) : Prop :=
  n = (0 : Nat) ∧ True
set_option maxRecDepth 1000000 in
theorem vcCi0_eq (n : Nat) (c : Nat → Nat → AV) : (ctrVC Tryd.prog clfI 16 [.s (.slice none 0 0)] [] (clfR n c)) = vcCi0 n c := by kernel_rfl
def vcCi1 (b : Bool) (n : Nat) (c : Nat → Nat → AV) : Prop :=
  (decide ((0 : Nat) + n ≤ (9223372036854775807 : Nat)) && decide (((0 : Nat) + n) * (8 : Nat) ≤ (140737488355328 : Nat))) = true ∧ (∀ (k : Nat), k < (0 : Nat) + n → ∀ (j : Nat), j < (1 : Nat) → tagT (appRow (0 : Nat) (fun (k j : Nat) => AV.junk) c k j) = true) ∧ (true = true ∧ (0 : Nat) + n = n ∧ contLe ((0 : Nat) + n) (1 : Nat) (Ax.rowAt (0 : Nat) (appRow (0 : Nat) (fun (k j : Nat) => AV.junk) c)) c) ∧ True
set_option maxRecDepth 1000000 in
theorem vcCi1_eq (b : Bool) (n : Nat) (c : Nat → Nat → AV) : (ctrVC Tryd.prog clfI 16 [.yn b 1 n c] [] (clfR n c)) = vcCi1 b n c := by kernel_rfl
noncomputable def clfB : HintsT Tryd.prog := withSh (hT _) (sh1 58 3 3 779 noSh)
def vcCb0 (n : Nat) (c : Nat → Nat → AV) : Prop :=
  n = (0 : Nat) ∧ True
set_option maxRecDepth 1000000 in
theorem vcCb0_eq (n : Nat) (c : Nat → Nat → AV) : (ctrVC Tryd.prog clfB 58 [.s (.slice none 0 0)] [] (clfR n c)) = vcCb0 n c := by kernel_rfl
def vcCb1 (b : Bool) (n : Nat) (c : Nat → Nat → AV) : Prop :=
  (decide ((0 : Nat) + n ≤ (9223372036854775807 : Nat)) && decide (((0 : Nat) + n) * (1 : Nat) ≤ (140737488355328 : Nat))) = true ∧ (∀ (k : Nat), k < (0 : Nat) + n → ∀ (j : Nat), j < (1 : Nat) → tagT (appRow (0 : Nat) (fun (k j : Nat) => AV.junk) c k j) = true) ∧ (true = true ∧ (0 : Nat) + n = n ∧ contLe ((0 : Nat) + n) (1 : Nat) (Ax.rowAt (0 : Nat) (appRow (0 : Nat) (fun (k j : Nat) => AV.junk) c)) c) ∧ True
set_option maxRecDepth 1000000 in
theorem vcCb1_eq (b : Bool) (n : Nat) (c : Nat → Nat → AV) : (ctrVC Tryd.prog clfB 58 [.yn b 1 n c] [] (clfR n c)) = vcCb1 b n c := by kernel_rfl
end Go.Proofs.YtdpbogaldcpfeaaDoor.C

/-! A client: calls, shards, topics in new memory: the conditions. -/
namespace Go.Proofs.YtdpbogaldcpfeaaDoor.C
open Go.Ax
set_option maxRecDepth 1000000
theorem clfI_c (b : Bool) (n : Nat) (c : Nat → Nat → AV) (hl : n * 8 ≤ 140737488355328) (ht : ∀ k, k < n → tagT (c k 0) = true) : (clfR n c).Sat (ACall' Tryd.prog 16 [.ys b 1 n c] []) := by
  refine nil_cases (pre := []) (post := []) (fun h0 => ?_) ?_ ⟨_, rfl⟩
  · refine ctr_vc (ht := clfI) Tryd.mixed rfl ?_
    rw [List.nil_append, vcCi0_eq n c]
    unfold vcCi0
    simp [h0]
  · refine ctr_vc (ht := clfI) Tryd.mixed rfl ?_
    rw [List.nil_append, vcCi1_eq b n c]
    unfold vcCi1
    simp
    exact ⟨⟨by omega, hl⟩, ht⟩
theorem clfB_c (b : Bool) (n : Nat) (c : Nat → Nat → AV) (hl : n ≤ 140737488355328) (ht : ∀ k, k < n → tagT (c k 0) = true) : (clfR n c).Sat (ACall' Tryd.prog 58 [.ys b 1 n c] []) := by
  refine nil_cases (pre := []) (post := []) (fun h0 => ?_) ?_ ⟨_, rfl⟩
  · refine ctr_vc (ht := clfB) Tryd.mixed rfl ?_
    rw [List.nil_append, vcCb0_eq n c]
    unfold vcCb0
    simp [h0]
  · refine ctr_vc (ht := clfB) Tryd.mixed rfl ?_
    rw [List.nil_append, vcCb1_eq b n c]
    unfold vcCb1
    simp
    exact ⟨⟨by omega, hl⟩, ht⟩
noncomputable def clI (b : Bool) (l : List Int) : Ctr Tryd.prog := ⟨16, [encIs b l], [], .need (l.length * 8 ≤ 140737488355328) (.ret (encIs true l, [], [])), T.Sat.need fun h => clfI_c b _ _ h fun _ _ => rfl⟩
noncomputable def clB (b : Bool) (l : List Int) : Ctr Tryd.prog := ⟨58, [encBs b l], [], .need (l.length ≤ 140737488355328) (.ret (encBs true l, [], [])), T.Sat.need fun h => clfB_c b _ _ h fun _ _ => rfl⟩
/-! slices.Clone of sites -/
def cnR (l : List Sit) : T An := .ret (.own 0 2 0 l.length, [.row 83 2 l.length none (cellsOf' encSi l)], [])
noncomputable def cnH : HintsT Tryd.prog := hh _ noLp noCs (op1 35 2 0 (.row 83 2) noOp)
def vcCn0 (l : List Sit) : Prop :=
  ((0 : Nat) = (0 : Nat) ∧ (0 : Nat) = List.length l) ∧ ((0 : Nat) = List.length l ∧ contLe (0 : Nat) (2 : Nat) (fun (x x_1 : Nat) => AV.junk) (cellsOf' encSi l)) ∧ True
set_option maxRecDepth 1000000 in
theorem vcCn0_eq (l : List Sit) : (ctrVC Tryd.prog cnH 35 [.s (.slice none 0 0)] [] (cnR l)) = vcCn0 l := by kernel_rfl
def vcCn1 (b : Bool) (l : List Sit) : Prop :=
  (decide ((0 : Nat) + List.length l ≤ (9223372036854775807 : Nat)) && decide (((0 : Nat) + List.length l) * (16 : Nat) ≤ (140737488355328 : Nat))) = true ∧ ((0 : Nat) = (0 : Nat) ∧ (0 : Nat) + List.length l = List.length l) ∧ ((0 : Nat) + List.length l = List.length l ∧ contLe ((0 : Nat) + List.length l) (2 : Nat) (appRow (0 : Nat) (fun (k j : Nat) => AV.junk) (cellsOf' encSi l)) (cellsOf' encSi l)) ∧ True
set_option maxRecDepth 1000000 in
theorem vcCn1_eq (b : Bool) (l : List Sit) : (ctrVC Tryd.prog cnH 35 [.yn b 2 l.length (cellsOf' encSi l)] [] (cnR l)) = vcCn1 b l := by kernel_rfl
theorem cn_c (b : Bool) (l : List Sit) (hl : l.length * 16 ≤ 140737488355328) : (cnR l).Sat (ACall' Tryd.prog 35 [encSis b l] []) := by
  refine nil_cases (pre := []) (post := []) (fun h0 => ?_) ?_ ⟨_, rfl⟩
  · refine ctr_vc (ht := cnH) Tryd.mixed rfl ?_
    rw [List.nil_append, vcCn0_eq l]
    unfold vcCn0
    simp [h0]
  · refine ctr_vc (ht := cnH) Tryd.mixed rfl ?_
    rw [List.nil_append, vcCn1_eq b l]
    unfold vcCn1
    simp
    omega
noncomputable def cnC (b : Bool) (l : List Sit) : Ctr Tryd.prog := ⟨35, [encSis b l], [], .need (l.length * 16 ≤ 140737488355328) (cnR l), T.Sat.need fun h => cn_c b l h⟩
/-! a call -/
def calR (c : Cal) : T An := .ret (.agg (encCl c), [], [])
noncomputable def calH (c : Cal) : HintsT Tryd.prog := hh _ noLp (cs1 36 1 2 (clB true c.val) (cs1 36 1 6 (clI true c.adm.nodes) noCs)) noOp
def vcCal (c : Cal) : Prop :=
  ((true = true ∧ List.length c.val = List.length c.val ∧ contLe (List.length c.val) (1 : Nat) (cellsOf' encB c.val) (cellsOf' encB c.val)) ∧ True) ∧ True ∧ List.length c.val ≤ (140737488355328 : Nat) ∧ ((true = true ∧ List.length c.adm.nodes = List.length c.adm.nodes ∧ contLe (List.length c.adm.nodes) (1 : Nat) (cellsOf' encI c.adm.nodes) (cellsOf' encI c.adm.nodes)) ∧ True) ∧ True ∧ List.length c.adm.nodes * (8 : Nat) ≤ (140737488355328 : Nat) ∧ (c.kind = c.kind ∧ c.topic = c.topic ∧ c.key = c.key ∧ (true = true ∧ List.length c.val = List.length c.val ∧ contLe (List.length c.val) (1 : Nat) (cellsOf' encB c.val) (cellsOf' encB c.val)) ∧ c.off = c.off ∧ c.most = c.most ∧ c.name = c.name ∧ c.adm.kind = c.adm.kind ∧ c.adm.prod = c.adm.prod ∧ c.adm.seq = c.adm.seq ∧ c.adm.topic = c.adm.topic ∧ (true = true ∧ List.length c.adm.nodes = List.length c.adm.nodes ∧ contLe (List.length c.adm.nodes) (1 : Nat) (cellsOf' encI c.adm.nodes) (cellsOf' encI c.adm.nodes)) ∧ c.adm.group = c.adm.group ∧ c.adm.other = c.adm.other ∧ c.adm.key = c.adm.key ∧ c.adm.fr = c.adm.fr ∧ c.adm.to = c.adm.to ∧ c.adm.plan = c.adm.plan ∧ c.adm.step = c.adm.step ∧ True) ∧ True
set_option maxRecDepth 1000000 in
theorem vcCal_eq (c : Cal) : (ctrVC Tryd.prog (calH c) 36 [.agg (encCl c)] [] (calR c)) = vcCal c := by kernel_rfl
/-! a shard, shards -/
def shR (s : Shd) : T An := .ret (.agg (encSh s), [], [])
noncomputable def shH (s : Shd) : HintsT Tryd.prog := hh _ noLp (cs1 60 1 2 (clI true s.nodes) (cs1 60 1 5 (clI true s.past) noCs)) noOp
def vcSh (s : Shd) : Prop :=
  ((true = true ∧ List.length s.nodes = List.length s.nodes ∧ contLe (List.length s.nodes) (1 : Nat) (cellsOf' encI s.nodes) (cellsOf' encI s.nodes)) ∧ True) ∧ True ∧ List.length s.nodes * (8 : Nat) ≤ (140737488355328 : Nat) ∧ ((true = true ∧ List.length s.past = List.length s.past ∧ contLe (List.length s.past) (1 : Nat) (cellsOf' encI s.past) (cellsOf' encI s.past)) ∧ True) ∧ True ∧ List.length s.past * (8 : Nat) ≤ (140737488355328 : Nat) ∧ (s.group = s.group ∧ s.rng.lo = s.rng.lo ∧ s.rng.hi = s.rng.hi ∧ s.epoch = s.epoch ∧ (true = true ∧ List.length s.nodes = List.length s.nodes ∧ contLe (List.length s.nodes) (1 : Nat) (cellsOf' encI s.nodes) (cellsOf' encI s.nodes)) ∧ (true = true ∧ List.length s.past = List.length s.past ∧ contLe (List.length s.past) (1 : Nat) (cellsOf' encI s.past) (cellsOf' encI s.past)) ∧ s.plan = s.plan ∧ True) ∧ True
set_option maxRecDepth 1000000 in
theorem vcSh_eq (s : Shd) : (ctrVC Tryd.prog (shH s) 60 [.agg (encSh s)] [] (shR s)) = vcSh s := by kernel_rfl
structure CalOk (c : Cal) : Prop where
  v : c.val.length ≤ 140737488355328
  n : c.adm.nodes.length * 8 ≤ 140737488355328
structure ShOk (s : Shd) : Prop where
  n : s.nodes.length * 8 ≤ 140737488355328
  p : s.past.length * 8 ≤ 140737488355328
theorem cal_c (c : Cal) (h : CalOk c) : (calR c).Sat (ACall' Tryd.prog 36 [.agg (encCl c)] []) := by
  refine ctr_vc (ht := calH c) Tryd.mixed rfl ?_
  rw [vcCal_eq c]
  unfold vcCal
  have h1 := h.v
  have h2 := h.n
  simp [h1, h2]
theorem sh_c (s : Shd) (h : ShOk s) : (shR s).Sat (ACall' Tryd.prog 60 [.agg (encSh s)] []) := by
  refine ctr_vc (ht := shH s) Tryd.mixed rfl ?_
  rw [vcSh_eq s]
  unfold vcSh
  have h1 := h.n
  have h2 := h.p
  simp [h1, h2]
noncomputable def calC (c : Cal) : Ctr Tryd.prog := ⟨36, [.agg (encCl c)], [], .need (CalOk c) (calR c), T.Sat.need fun h => cal_c c h⟩
noncomputable def shC (s : Shd) : Ctr Tryd.prog := ⟨60, [.agg (encSh s)], [], .need (ShOk s) (shR s), T.Sat.need fun h => sh_c s h⟩
/-- what is there behind k rounds -/
def sofar {α : Type} [Inhabited α] (l : List α) (k : Nat) : List α := l.take k ++ List.replicate (l.length - k) default
def fnS : AV := .fn (.func 60) [] []
def esT (b : Bool) (l : List Shd) (k : Nat) : List AV := mkT 26 [(1, fnS), (5, .own 0 7 0 l.length), (11, encShs b l), (12, .y (.int .i64 l.length)), (13, .y (.int .i64 k))]
def esM (l : List Shd) (k : Nat) : List Blk := [.row 68 7 l.length none (cellsOf' encSh (sofar l k))]
def esS (l : List Shd) (_ : Unit) : Exit × List AV × List Blk := (.exit 0, mkT 26 [(5, .own 0 7 0 l.length)], [.row 68 7 l.length none (cellsOf' encSh l)])
noncomputable def esH (l : List Shd) (k : Nat) : HintsT Tryd.prog := hh _ noLp (cs1 59 5 4 (shC (l.getD k default)) noCs) noOp
def vcEsL (b : Bool) (l : List Shd) (k : Nat) : Prop :=
  (decide ((↑k : Int) < (↑(List.length l) : Int)) = true → (true && decide ((↑k : Int) < (↑(List.length l) : Int))) = true ∧ (((List.getD l (Int.toNat (↑k : Int)) (@default Shd instInhabitedShd)).group = (List.getD l k (@default Shd instInhabitedShd)).group ∧ (List.getD l (Int.toNat (↑k : Int)) (@default Shd instInhabitedShd)).rng.lo = (List.getD l k (@default Shd instInhabitedShd)).rng.lo ∧ (List.getD l (Int.toNat (↑k : Int)) (@default Shd instInhabitedShd)).rng.hi = (List.getD l k (@default Shd instInhabitedShd)).rng.hi ∧ (List.getD l (Int.toNat (↑k : Int)) (@default Shd instInhabitedShd)).epoch = (List.getD l k (@default Shd instInhabitedShd)).epoch ∧ (true = true ∧ List.length (List.getD l (Int.toNat (↑k : Int)) (@default Shd instInhabitedShd)).nodes = List.length (List.getD l k (@default Shd instInhabitedShd)).nodes ∧ contLe (List.length (List.getD l (Int.toNat (↑k : Int)) (@default Shd instInhabitedShd)).nodes) (1 : Nat) (cellsOf' encI (List.getD l (Int.toNat (↑k : Int)) (@default Shd instInhabitedShd)).nodes) (cellsOf' encI (List.getD l k (@default Shd instInhabitedShd)).nodes)) ∧ (true = true ∧ List.length (List.getD l (Int.toNat (↑k : Int)) (@default Shd instInhabitedShd)).past = List.length (List.getD l k (@default Shd instInhabitedShd)).past ∧ contLe (List.length (List.getD l (Int.toNat (↑k : Int)) (@default Shd instInhabitedShd)).past) (1 : Nat) (cellsOf' encI (List.getD l (Int.toNat (↑k : Int)) (@default Shd instInhabitedShd)).past) (cellsOf' encI (List.getD l k (@default Shd instInhabitedShd)).past)) ∧ (List.getD l (Int.toNat (↑k : Int)) (@default Shd instInhabitedShd)).plan = (List.getD l k (@default Shd instInhabitedShd)).plan ∧ True) ∧ True) ∧ True ∧ ShOk (List.getD l k (@default Shd instInhabitedShd)) ∧ (true && decide ((↑k : Int) < (↑(List.length l) : Int))) = true ∧ decide ((0 : Nat) + Int.toNat (↑k : Int) < List.length l) = true ∧ ∃ (j : Nat), List.length l - j < List.length l - k ∧ (((True ∧ True) ∧ ((0 : Nat) = (0 : Nat) ∧ List.length l = List.length l) ∧ (b = b ∧ List.length l = List.length l ∧ contLe (List.length l) (7 : Nat) (cellsOf' encSh l) (cellsOf' encSh l)) ∧ (↑(List.length l) : Int) = (↑(List.length l) : Int) ∧ IntKind.wrap IntKind.i64 ((↑k : Int) + (1 : Int)) = (↑j : Int) ∧ True) ∧ ((List.length l = List.length l ∧ contLe (List.length l) (7 : Nat) (wrRow (cellsOf' encSh (sofar l k)) ((0 : Nat) + Int.toNat (↑k : Int)) (0 : Nat) [AV.y (Value.int IntKind.u64 (List.getD l k (@default Shd instInhabitedShd)).group), AV.y (Value.string (List.getD l k (@default Shd instInhabitedShd)).rng.lo), AV.y (Value.string (List.getD l k (@default Shd instInhabitedShd)).rng.hi), AV.y (Value.int IntKind.u64 (List.getD l k (@default Shd instInhabitedShd)).epoch), AV.ys true (1 : Nat) (List.length (List.getD l k (@default Shd instInhabitedShd)).nodes) (cellsOf' encI (List.getD l k (@default Shd instInhabitedShd)).nodes), AV.ys true (1 : Nat) (List.length (List.getD l k (@default Shd instInhabitedShd)).past) (cellsOf' encI (List.getD l k (@default Shd instInhabitedShd)).past), AV.y (Value.int IntKind.u64 (List.getD l k (@default Shd instInhabitedShd)).plan)]) (cellsOf' encSh (sofar l j))) ∧ True) ∧ true = true) ∧ true = true ∧ () = ()) ∧ (decide ((↑k : Int) < (↑(List.length l) : Int)) = false → (((0 : Nat) = (0 : Nat) ∧ List.length l = List.length l) ∧ True) ∧ ((List.length l = List.length l ∧ contLe (List.length l) (7 : Nat) (cellsOf' encSh (sofar l k)) (cellsOf' encSh l)) ∧ True) ∧ true = true)
set_option maxRecDepth 1000000 in
theorem vcEsL_eq (b : Bool) (l : List Shd) (k : Nat) : (loopVC Tryd.prog (esH l k) 59 3 (fun k => l.length - k) (esT b l) (esM l) [0, 1, 2, 3, 4] (fun _ => .ret ()) (esS l) k) = vcEsL b l k := by kernel_rfl
def esR (l : List Shd) : T An := .ret (.own 0 7 0 l.length, [.row 68 7 l.length none (cellsOf' encSh l)], [])
noncomputable def eseH (b : Bool) (l : List Shd) : HintsT Tryd.prog := hh _ (lp1 59 3 (jobOf (esT b l) (esM l) [0, 1, 2, 3, 4] (fun _ => .ret ()) (esS l) 0) noLp) noCs noOp
def vcEs (b : Bool) (l : List Shd) : Prop :=
  (0 : Int) ≤ (↑(List.length l) : Int) ∧ (↑(List.length l) : Int) ≤ (↑(List.length l) : Int) ∧ (104 : Int) * (↑(List.length l) : Int) ≤ (281474976710656 : Int) ∧ (↑(List.length l) : Int) ≤ (9223372036854775807 : Int) ∧ (((True ∧ True) ∧ ((0 : Nat) = (0 : Nat) ∧ Int.toNat (↑(List.length l) : Int) = List.length l) ∧ (b = b ∧ List.length l = List.length l ∧ contLe (List.length l) (7 : Nat) (cellsOf' encSh l) (cellsOf' encSh l)) ∧ (↑(List.length l) : Int) = (↑(List.length l) : Int) ∧ (0 : Int) = (0 : Int) ∧ True) ∧ ((Int.toNat (↑(List.length l) : Int) = List.length l ∧ contLe (Int.toNat (↑(List.length l) : Int)) (7 : Nat) (fun (x j : Nat) => Ax.get [AV.s (Value.int IntKind.u64 (0 : Int)), AV.s (Value.string { data := #[] : ByteArray }), AV.s (Value.string { data := #[] : ByteArray }), AV.s (Value.int IntKind.u64 (0 : Int)), AV.s (Value.slice none (0 : Nat) (0 : Nat)), AV.s (Value.slice none (0 : Nat) (0 : Nat)), AV.s (Value.int IntKind.u64 (0 : Int))] j) (cellsOf' encSh (sofar l (0 : Nat)))) ∧ True) ∧ true = true) ∧ LoopOk Tryd.prog (59 : Nat) (3 : Nat) (loopAt Tryd.prog (59 : Nat) (3 : Nat)) { t := esT b l (0 : Nat), m := esM l (0 : Nat), mv := [] : St } (T.map (lout [(0 : Nat), (1 : Nat), (2 : Nat), (3 : Nat), (4 : Nat)] (esS l)) ((fun (x : Nat) => T.ret ()) (0 : Nat))) ∧ ((0 : Nat) = (0 : Nat) ∧ List.length l = List.length l) ∧ (List.length l = List.length l ∧ contLe (List.length l) (7 : Nat) (cellsOf' encSh l) (cellsOf' encSh l)) ∧ True
set_option maxRecDepth 1000000 in
theorem vcEs_eq (b : Bool) (l : List Shd) : (ctrVC Tryd.prog (eseH b l) 59 [encShs b l, fnS] [] (esR l)) = vcEs b l := by kernel_rfl
end Go.Proofs.YtdpbogaldcpfeaaDoor.C

/-! A client: shards in new memory; topics: the conditions. -/
namespace Go.Proofs.YtdpbogaldcpfeaaDoor.C
open Go.Ax
set_option maxRecDepth 1000000
theorem sofar_len {α : Type} [Inhabited α] (l : List α) {k : Nat} (h : k ≤ l.length) : (sofar l k).length = l.length := by
  unfold sofar
  simp
  omega
theorem sofar_end {α : Type} [Inhabited α] (l : List α) {k : Nat} (h : l.length ≤ k) : sofar l k = l := by
  unfold sofar
  rw [List.take_of_length_le h, show l.length - k = 0 by omega]
  simp
theorem sofar_set {α : Type} [Inhabited α] {l : List α} {k : Nat} (h : k < l.length) : (sofar l k).set k (l.getD k default) = sofar l (k + 1) := by
  unfold sofar
  have hk : (l.take k).length = k := by simp; omega
  rw [show l.length - k = (l.length - (k + 1)) + 1 by omega, List.replicate_succ, List.set_append, if_neg (by omega), hk, Nat.sub_self, List.set_cons_zero]
  have e : l.getD k default = l[k] := by simp [h]
  rw [e, List.take_succ_eq_append_getElem h, List.append_assoc]
  rfl
theorem sofar_0 {α : Type} [Inhabited α] (l : List α) (i : Nat) : (sofar l 0).getD i default = default := by
  unfold sofar
  simp [List.getElem?_replicate]
  split <;> rfl
theorem zero_sh (l : List Shd) : contLe l.length 7 (fun (_ j : Nat) => Ax.get [AV.s (Value.int IntKind.u64 0), AV.s (Value.string { data := #[] }), AV.s (Value.string { data := #[] }), AV.s (Value.int IntKind.u64 0), AV.s (Value.slice none 0 0), AV.s (Value.slice none 0 0), AV.s (Value.int IntKind.u64 0)] j) (cellsOf' encSh (sofar l 0)) := by
  intro i _ j hj
  unfold cellsOf'
  rw [sofar_0]
  match j, hj with
  | 0, _ => exact rfl
  | 1, _ => exact rfl
  | 2, _ => exact rfl
  | 3, _ => exact rfl
  | 4, _ => exact rfl
  | 5, _ => exact rfl
  | 6, _ => exact rfl
theorem es_loop (b : Bool) (l : List Shd) (hl : l.length ≤ 9223372036854775806) (ho : ∀ x ∈ l, ShOk x) (k : Nat) : LoopOk Tryd.prog 59 3 (loopAt Tryd.prog 59 3) ⟨esT b l k, esM l k, []⟩ (T.map (lout [0, 1, 2, 3, 4] (esS l)) (.ret ())) := by
  refine loop_vcH (o := fun _ => .ret ()) (ht := esH l) (stT := esT b l) (stM := esM l) Tryd.mixed (fun _ => rfl) (fun k => (vcEsL_eq b l k).mpr ?_) k
  unfold vcEsL
  by_cases hk : k < l.length
  · have hz : decide ((k : Int) < l.length) = true := by simp; omega
    have hw : IntKind.i64.wrap ((k : Int) + 1) = ((k + 1 : Nat) : Int) := by rw [wrap_i64 (by omega) (by omega)]; omega
    have h1 := ho (l.getD k default) (by simp [hk])
    have hs := wr_le (enc := encSh) (l := sofar l k) (n := l.length) (sz := 7) (i := k) (x := l.getD k default) (cs := encSh (l.getD k default)) (sofar_len l (by omega)).symm (by rw [sofar_len l (by omega)]; exact hk) rfl (fun _ _ => le0_refl _)
    rw [sofar_set hk] at hs
    rw [Int.toNat_natCast]
    simp only [hz, hw]
    generalize l.getD k default = x at *
    simp [h1, hk]
    refine ⟨k + 1, by omega, by omega, ?_⟩
    exact hs
  · have hz : decide ((k : Int) < l.length) = false := by simp; omega
    have e1 := sofar_end l (show l.length ≤ k by omega)
    simp only [hz]
    simp [e1]
theorem es_c (b : Bool) (l : List Shd) (hl : l.length * 104 ≤ 281474976710656) (ho : ∀ x ∈ l, ShOk x) : (esR l).Sat (ACall' Tryd.prog 59 [encShs b l, fnS] []) := by
  refine ctr_vc (ht := eseH b l) Tryd.mixed rfl ?_
  rw [vcEs_eq b l]
  unfold vcEs
  have lp := es_loop b l (by omega) ho 0
  simp [lp]
  exact ⟨by omega, by omega, zero_sh l⟩
noncomputable def esC (b : Bool) (l : List Shd) : Ctr Tryd.prog := ⟨59, [encShs b l, fnS], [], .need (l.length * 104 ≤ 281474976710656 ∧ ∀ x ∈ l, ShOk x) (esR l), T.Sat.need fun h => es_c b l h.1 h.2⟩
def shsR (l : List Shd) : T An := .ret (encShs true l, [], [])
noncomputable def shsH (b : Bool) (l : List Shd) : HintsT Tryd.prog := withSh (hh _ noLp (cs1 39 1 1 (esC b l) noCs) noOp) (sh1 39 1 2 779 noSh)
def vcShs (b : Bool) (l : List Shd) : Prop :=
  ((b = b ∧ List.length l = List.length l ∧ contLe (List.length l) (7 : Nat) (cellsOf' encSh l) (cellsOf' encSh l)) ∧ (True ∧ True) ∧ True) ∧ True ∧ (List.length l * (104 : Nat) ≤ (281474976710656 : Nat) ∧ ∀ (x : Shd), x ∈ l → ShOk x) ∧ (∀ (k : Nat), k < List.length l → ∀ (j : Nat), j < (7 : Nat) → tagT (cellsOf' encSh l k j) = true) ∧ (true = true ∧ List.length l = List.length l ∧ contLe (List.length l) (7 : Nat) (Ax.rowAt (0 : Nat) (cellsOf' encSh l)) (cellsOf' encSh l)) ∧ True
set_option maxRecDepth 1000000 in
theorem vcShs_eq (b : Bool) (l : List Shd) : (ctrVC Tryd.prog (shsH b l) 39 [encShs b l] [] (shsR l)) = vcShs b l := by kernel_rfl
theorem tag_sh (l : List Shd) : ∀ (k : Nat), k < l.length → ∀ (j : Nat), j < 7 → tagT (cellsOf' encSh l k j) = true := fun k _ j hj => by
  match j, hj with
  | 0, _ => rfl
  | 1, _ => rfl
  | 2, _ => rfl
  | 3, _ => rfl
  | 4, _ => rfl
  | 5, _ => rfl
  | 6, _ => rfl
theorem shs_c (b : Bool) (l : List Shd) (h : l.length * 104 ≤ 281474976710656 ∧ ∀ x ∈ l, ShOk x) : (shsR l).Sat (ACall' Tryd.prog 39 [encShs b l] []) := by
  refine ctr_vc (ht := shsH b l) Tryd.mixed rfl ?_
  rw [vcShs_eq b l]
  unfold vcShs
  have ht := tag_sh l
  obtain ⟨h1, h2⟩ := h
  simp
  exact ⟨⟨h1, h2⟩, ht⟩
noncomputable def shsC (b : Bool) (l : List Shd) : Ctr Tryd.prog := ⟨39, [encShs b l], [], .need (l.length * 104 ≤ 281474976710656 ∧ ∀ x ∈ l, ShOk x) (shsR l), T.Sat.need fun h => shs_c b l h⟩
/-! topics -/
structure TpOk (t : Tpc) : Prop where
  n : t.shards.length * 104 ≤ 281474976710656
  s : ∀ x ∈ t.shards, ShOk x
def tpR (t : Tpc) : T An := .ret (.agg (encTp t), [], [])
noncomputable def tpH (t : Tpc) : HintsT Tryd.prog := hh _ noLp (cs1 38 1 4 (shsC true t.shards) noCs) noOp
def vcTp (t : Tpc) : Prop :=
  ((true = true ∧ List.length t.shards = List.length t.shards ∧ contLe (List.length t.shards) (7 : Nat) (cellsOf' encSh t.shards) (cellsOf' encSh t.shards)) ∧ True) ∧ True ∧ (List.length t.shards * (104 : Nat) ≤ (281474976710656 : Nat) ∧ ∀ (x : Shd), x ∈ t.shards → ShOk x) ∧ (t.name = t.name ∧ (true = true ∧ List.length t.shards = List.length t.shards ∧ contLe (List.length t.shards) (7 : Nat) (cellsOf' encSh t.shards) (cellsOf' encSh t.shards)) ∧ True) ∧ True
set_option maxRecDepth 1000000 in
theorem vcTp_eq (t : Tpc) : (ctrVC Tryd.prog (tpH t) 38 [.agg (encTp t)] [] (tpR t)) = vcTp t := by kernel_rfl
theorem tp_c (t : Tpc) (h : TpOk t) : (tpR t).Sat (ACall' Tryd.prog 38 [.agg (encTp t)] []) := by
  refine ctr_vc (ht := tpH t) Tryd.mixed rfl ?_
  rw [vcTp_eq t]
  unfold vcTp
  obtain ⟨h1, h2⟩ := h
  simp
  exact ⟨h1, h2⟩
noncomputable def tpC (t : Tpc) : Ctr Tryd.prog := ⟨38, [.agg (encTp t)], [], .need (TpOk t) (tpR t), T.Sat.need fun h => tp_c t h⟩
def fnT : AV := .fn (.func 38) [] []
def etT (b : Bool) (l : List Tpc) (k : Nat) : List AV := mkT 26 [(1, fnT), (5, .own 0 2 0 l.length), (11, encTps b l), (12, .y (.int .i64 l.length)), (13, .y (.int .i64 k))]
def etM (l : List Tpc) (k : Nat) : List Blk := [.row 81 2 l.length none (cellsOf' encTp (sofar l k))]
def etS (l : List Tpc) (_ : Unit) : Exit × List AV × List Blk := (.exit 0, mkT 26 [(5, .own 0 2 0 l.length)], [.row 81 2 l.length none (cellsOf' encTp l)])
noncomputable def etH (l : List Tpc) (k : Nat) : HintsT Tryd.prog := hh _ noLp (cs1 37 5 4 (tpC (l.getD k default)) noCs) noOp
def vcEtL (b : Bool) (l : List Tpc) (k : Nat) : Prop :=
  (decide ((↑k : Int) < (↑(List.length l) : Int)) = true → (true && decide ((↑k : Int) < (↑(List.length l) : Int))) = true ∧ (((List.getD l (Int.toNat (↑k : Int)) (@default Tpc instInhabitedTpc)).name = (List.getD l k (@default Tpc instInhabitedTpc)).name ∧ (true = true ∧ List.length (List.getD l (Int.toNat (↑k : Int)) (@default Tpc instInhabitedTpc)).shards = List.length (List.getD l k (@default Tpc instInhabitedTpc)).shards ∧ contLe (List.length (List.getD l (Int.toNat (↑k : Int)) (@default Tpc instInhabitedTpc)).shards) (7 : Nat) (cellsOf' encSh (List.getD l (Int.toNat (↑k : Int)) (@default Tpc instInhabitedTpc)).shards) (cellsOf' encSh (List.getD l k (@default Tpc instInhabitedTpc)).shards)) ∧ True) ∧ True) ∧ True ∧ TpOk (List.getD l k (@default Tpc instInhabitedTpc)) ∧ (true && decide ((↑k : Int) < (↑(List.length l) : Int))) = true ∧ decide ((0 : Nat) + Int.toNat (↑k : Int) < List.length l) = true ∧ ∃ (j : Nat), List.length l - j < List.length l - k ∧ (((True ∧ True) ∧ ((0 : Nat) = (0 : Nat) ∧ List.length l = List.length l) ∧ (b = b ∧ List.length l = List.length l ∧ contLe (List.length l) (2 : Nat) (cellsOf' encTp l) (cellsOf' encTp l)) ∧ (↑(List.length l) : Int) = (↑(List.length l) : Int) ∧ IntKind.wrap IntKind.i64 ((↑k : Int) + (1 : Int)) = (↑j : Int) ∧ True) ∧ ((List.length l = List.length l ∧ contLe (List.length l) (2 : Nat) (wrRow (cellsOf' encTp (sofar l k)) ((0 : Nat) + Int.toNat (↑k : Int)) (0 : Nat) [AV.y (Value.string (List.getD l k (@default Tpc instInhabitedTpc)).name), AV.ys true (7 : Nat) (List.length (List.getD l k (@default Tpc instInhabitedTpc)).shards) (cellsOf' encSh (List.getD l k (@default Tpc instInhabitedTpc)).shards)]) (cellsOf' encTp (sofar l j))) ∧ True) ∧ true = true) ∧ true = true ∧ () = ()) ∧ (decide ((↑k : Int) < (↑(List.length l) : Int)) = false → (((0 : Nat) = (0 : Nat) ∧ List.length l = List.length l) ∧ True) ∧ ((List.length l = List.length l ∧ contLe (List.length l) (2 : Nat) (cellsOf' encTp (sofar l k)) (cellsOf' encTp l)) ∧ True) ∧ true = true)
set_option maxRecDepth 1000000 in
theorem vcEtL_eq (b : Bool) (l : List Tpc) (k : Nat) : (loopVC Tryd.prog (etH l k) 37 3 (fun k => l.length - k) (etT b l) (etM l) [0, 1, 2, 3, 4] (fun _ => .ret ()) (etS l) k) = vcEtL b l k := by kernel_rfl
def etR (l : List Tpc) : T An := .ret (.own 0 2 0 l.length, [.row 81 2 l.length none (cellsOf' encTp l)], [])
noncomputable def eteH (b : Bool) (l : List Tpc) : HintsT Tryd.prog := hh _ (lp1 37 3 (jobOf (etT b l) (etM l) [0, 1, 2, 3, 4] (fun _ => .ret ()) (etS l) 0) noLp) noCs noOp
def vcEt (b : Bool) (l : List Tpc) : Prop :=
  (0 : Int) ≤ (↑(List.length l) : Int) ∧ (↑(List.length l) : Int) ≤ (↑(List.length l) : Int) ∧ (40 : Int) * (↑(List.length l) : Int) ≤ (281474976710656 : Int) ∧ (↑(List.length l) : Int) ≤ (9223372036854775807 : Int) ∧ (((True ∧ True) ∧ ((0 : Nat) = (0 : Nat) ∧ Int.toNat (↑(List.length l) : Int) = List.length l) ∧ (b = b ∧ List.length l = List.length l ∧ contLe (List.length l) (2 : Nat) (cellsOf' encTp l) (cellsOf' encTp l)) ∧ (↑(List.length l) : Int) = (↑(List.length l) : Int) ∧ (0 : Int) = (0 : Int) ∧ True) ∧ ((Int.toNat (↑(List.length l) : Int) = List.length l ∧ contLe (Int.toNat (↑(List.length l) : Int)) (2 : Nat) (fun (x j : Nat) => Ax.get [AV.s (Value.string { data := #[] : ByteArray }), AV.s (Value.slice none (0 : Nat) (0 : Nat))] j) (cellsOf' encTp (sofar l (0 : Nat)))) ∧ True) ∧ true = true) ∧ LoopOk Tryd.prog (37 : Nat) (3 : Nat) (loopAt Tryd.prog (37 : Nat) (3 : Nat)) { t := etT b l (0 : Nat), m := etM l (0 : Nat), mv := [] : St } (T.map (lout [(0 : Nat), (1 : Nat), (2 : Nat), (3 : Nat), (4 : Nat)] (etS l)) ((fun (x : Nat) => T.ret ()) (0 : Nat))) ∧ ((0 : Nat) = (0 : Nat) ∧ List.length l = List.length l) ∧ (List.length l = List.length l ∧ contLe (List.length l) (2 : Nat) (cellsOf' encTp l) (cellsOf' encTp l)) ∧ True
set_option maxRecDepth 1000000 in
theorem vcEt_eq (b : Bool) (l : List Tpc) : (ctrVC Tryd.prog (eteH b l) 37 [encTps b l, fnT] [] (etR l)) = vcEt b l := by kernel_rfl
theorem zero_tp (l : List Tpc) : contLe l.length 2 (fun (_ j : Nat) => Ax.get [AV.s (Value.string { data := #[] }), AV.s (Value.slice none 0 0)] j) (cellsOf' encTp (sofar l 0)) := by
  intro i _ j hj
  unfold cellsOf'
  rw [sofar_0]
  match j, hj with
  | 0, _ => exact rfl
  | 1, _ => exact rfl
theorem et_loop (b : Bool) (l : List Tpc) (hl : l.length ≤ 9223372036854775806) (ho : ∀ x ∈ l, TpOk x) (k : Nat) : LoopOk Tryd.prog 37 3 (loopAt Tryd.prog 37 3) ⟨etT b l k, etM l k, []⟩ (T.map (lout [0, 1, 2, 3, 4] (etS l)) (.ret ())) := by
  refine loop_vcH (o := fun _ => .ret ()) (ht := etH l) (stT := etT b l) (stM := etM l) Tryd.mixed (fun _ => rfl) (fun k => (vcEtL_eq b l k).mpr ?_) k
  unfold vcEtL
  by_cases hk : k < l.length
  · have hz : decide ((k : Int) < l.length) = true := by simp; omega
    have hw : IntKind.i64.wrap ((k : Int) + 1) = ((k + 1 : Nat) : Int) := by rw [wrap_i64 (by omega) (by omega)]; omega
    have h1 := ho (l.getD k default) (by simp [hk])
    have hs := wr_le (enc := encTp) (l := sofar l k) (n := l.length) (sz := 2) (i := k) (x := l.getD k default) (cs := encTp (l.getD k default)) (sofar_len l (by omega)).symm (by rw [sofar_len l (by omega)]; exact hk) rfl (fun _ _ => le0_refl _)
    rw [sofar_set hk] at hs
    rw [Int.toNat_natCast]
    simp only [hz, hw]
    generalize l.getD k default = x at *
    simp [h1, hk]
    refine ⟨k + 1, by omega, by omega, ?_⟩
    exact hs
  · have hz : decide ((k : Int) < l.length) = false := by simp; omega
    have e1 := sofar_end l (show l.length ≤ k by omega)
    simp only [hz]
    simp [e1]
theorem et_c (b : Bool) (l : List Tpc) (hl : l.length * 40 ≤ 281474976710656) (ho : ∀ x ∈ l, TpOk x) : (etR l).Sat (ACall' Tryd.prog 37 [encTps b l, fnT] []) := by
  refine ctr_vc (ht := eteH b l) Tryd.mixed rfl ?_
  rw [vcEt_eq b l]
  unfold vcEt
  have lp := et_loop b l (by omega) ho 0
  simp [lp]
  exact ⟨by omega, by omega, zero_tp l⟩
noncomputable def etC (b : Bool) (l : List Tpc) : Ctr Tryd.prog := ⟨37, [encTps b l, fnT], [], .need (l.length * 40 ≤ 281474976710656 ∧ ∀ x ∈ l, TpOk x) (etR l), T.Sat.need fun h => et_c b l h.1 h.2⟩
/-! a client in new memory -/
structure CltOk (c : Clt) : Prop where
  s : c.servers.length * 8 ≤ 140737488355328
  l : c.leaders.length * 16 ≤ 140737488355328
  k : CalOk c.call
  n : c.topics.length * 40 ≤ 281474976710656
  t : ∀ x ∈ c.topics, TpOk x
/-- what is handed back: topics and leaders are its own -/
def copR (c : Clt) : T An := .ret (.agg (encCt (.own 0 2 0 c.topics.length) (.own 1 2 0 c.leaders.length) c), [.row 81 2 c.topics.length none (cellsOf' encTp c.topics), .row 83 2 c.leaders.length none (cellsOf' encSi c.leaders)], [])
noncomputable def copH (b : Bool) (c : Clt) : HintsT Tryd.prog := hh _ noLp (cs1 25 1 2 (clI true c.servers) (cs1 25 1 5 (cnC b c.leaders) (cs1 25 1 8 (calC c.call) (cs1 25 2 2 (etC b c.topics) noCs)))) noOp
def vcCop (b : Bool) (c : Clt) : Prop :=
  ((true = true ∧ List.length c.servers = List.length c.servers ∧ contLe (List.length c.servers) (1 : Nat) (cellsOf' encI c.servers) (cellsOf' encI c.servers)) ∧ True) ∧ True ∧ List.length c.servers * (8 : Nat) ≤ (140737488355328 : Nat) ∧ ((b = b ∧ List.length c.leaders = List.length c.leaders ∧ contLe (List.length c.leaders) (2 : Nat) (cellsOf' encSi c.leaders) (cellsOf' encSi c.leaders)) ∧ True) ∧ True ∧ List.length c.leaders * (16 : Nat) ≤ (140737488355328 : Nat) ∧ ((c.call.kind = c.call.kind ∧ c.call.topic = c.call.topic ∧ c.call.key = c.call.key ∧ (true = true ∧ List.length c.call.val = List.length c.call.val ∧ contLe (List.length c.call.val) (1 : Nat) (cellsOf' encB c.call.val) (cellsOf' encB c.call.val)) ∧ c.call.off = c.call.off ∧ c.call.most = c.call.most ∧ c.call.name = c.call.name ∧ c.call.adm.kind = c.call.adm.kind ∧ c.call.adm.prod = c.call.adm.prod ∧ c.call.adm.seq = c.call.adm.seq ∧ c.call.adm.topic = c.call.adm.topic ∧ (true = true ∧ List.length c.call.adm.nodes = List.length c.call.adm.nodes ∧ contLe (List.length c.call.adm.nodes) (1 : Nat) (cellsOf' encI c.call.adm.nodes) (cellsOf' encI c.call.adm.nodes)) ∧ c.call.adm.group = c.call.adm.group ∧ c.call.adm.other = c.call.adm.other ∧ c.call.adm.key = c.call.adm.key ∧ c.call.adm.fr = c.call.adm.fr ∧ c.call.adm.to = c.call.adm.to ∧ c.call.adm.plan = c.call.adm.plan ∧ c.call.adm.step = c.call.adm.step ∧ True) ∧ True) ∧ True ∧ CalOk c.call ∧ ((b = b ∧ List.length c.topics = List.length c.topics ∧ contLe (List.length c.topics) (2 : Nat) (cellsOf' encTp c.topics) (cellsOf' encTp c.topics)) ∧ (True ∧ True) ∧ True) ∧ True ∧ (List.length c.topics * (40 : Nat) ≤ (281474976710656 : Nat) ∧ ∀ (x : Tpc), x ∈ c.topics → TpOk x) ∧ (c.id = c.id ∧ (true = true ∧ List.length c.servers = List.length c.servers ∧ contLe (List.length c.servers) (1 : Nat) (cellsOf' encI c.servers) (cellsOf' encI c.servers)) ∧ c.prod = c.prod ∧ c.seq = c.seq ∧ ((0 : Nat) = (0 : Nat) ∧ List.length c.topics = List.length c.topics) ∧ ((0 : Nat) = (0 : Nat) ∧ List.length c.leaders = List.length c.leaders) ∧ c.busy = c.busy ∧ c.call.kind = c.call.kind ∧ c.call.topic = c.call.topic ∧ c.call.key = c.call.key ∧ (true = true ∧ List.length c.call.val = List.length c.call.val ∧ contLe (List.length c.call.val) (1 : Nat) (cellsOf' encB c.call.val) (cellsOf' encB c.call.val)) ∧ c.call.off = c.call.off ∧ c.call.most = c.call.most ∧ c.call.name = c.call.name ∧ c.call.adm.kind = c.call.adm.kind ∧ c.call.adm.prod = c.call.adm.prod ∧ c.call.adm.seq = c.call.adm.seq ∧ c.call.adm.topic = c.call.adm.topic ∧ (true = true ∧ List.length c.call.adm.nodes = List.length c.call.adm.nodes ∧ contLe (List.length c.call.adm.nodes) (1 : Nat) (cellsOf' encI c.call.adm.nodes) (cellsOf' encI c.call.adm.nodes)) ∧ c.call.adm.group = c.call.adm.group ∧ c.call.adm.other = c.call.adm.other ∧ c.call.adm.key = c.call.adm.key ∧ c.call.adm.fr = c.call.adm.fr ∧ c.call.adm.to = c.call.adm.to ∧ c.call.adm.plan = c.call.adm.plan ∧ c.call.adm.step = c.call.adm.step ∧ c.number = c.number ∧ c.route = c.route ∧ c.group = c.group ∧ c.tries = c.tries ∧ c.waited = c.waited ∧ c.again = c.again ∧ c.at' = c.at' ∧ True) ∧ (List.length c.topics = List.length c.topics ∧ contLe (List.length c.topics) (2 : Nat) (cellsOf' encTp c.topics) (cellsOf' encTp c.topics)) ∧ (List.length c.leaders = List.length c.leaders ∧ contLe (List.length c.leaders) (2 : Nat) (cellsOf' encSi c.leaders) (cellsOf' encSi c.leaders)) ∧ True
set_option maxRecDepth 1000000 in
theorem vcCop_eq (b : Bool) (c : Clt) : (ctrVC Tryd.prog (copH b c) 25 [.agg (encC0 b c)] [] (copR c)) = vcCop b c := by kernel_rfl
theorem cop_c (b : Bool) (c : Clt) (h : CltOk c) : (copR c).Sat (ACall' Tryd.prog 25 [.agg (encC0 b c)] []) := by
  refine ctr_vc (ht := copH b c) Tryd.mixed rfl ?_
  rw [vcCop_eq b c]
  unfold vcCop
  obtain ⟨h1, h2, h3, h4, h5⟩ := h
  simp [h1, h2, h3, h4]
  exact h5
noncomputable def copC (b : Bool) (c : Clt) : Ctr Tryd.prog := ⟨25, [.agg (encC0 b c)], [], .need (CltOk c) (copR c), T.Sat.need fun h => cop_c b c h⟩
end Go.Proofs.YtdpbogaldcpfeaaDoor.C

/-! Records: alike; grown; the law RecordsFull: the conditions. -/
namespace Go.Proofs.YtdpbogaldcpfeaaDoor
open Go.Ax
set_option maxRecDepth 1000000
def smT (b1 b2 : Bool) (a : List Rec) (k : Nat) : List AV := mkT 82 [(0, encRs b1 a), (1, encRs b2 a), (5, .y (.int .i64 k))]
def smS (_ : Unit) : Exit × List AV × List Blk := (.exit 0, mkT 82 [], [])
def stT (b1 b2 : Bool) (a : List Int) (k : Nat) : List AV := mkT 26 [(0, encUs b1 a), (1, encUs b2 a), (5, .y (.int .i64 k))]
/-! grown out of nothing -/
def kB : ByteArray := ⟨#[107]⟩
end Go.Proofs.YtdpbogaldcpfeaaDoor

/-! Records: the law RecordsFull. -/
namespace Go.Proofs.YtdpbogaldcpfeaaDoor
open Go.Ax
set_option maxRecDepth 1000000
/-! numbers that do not go down -/
end Go.Proofs.YtdpbogaldcpfeaaDoor

/-! Records: what is kept of a log. -/
namespace Go.Proofs.YtdpbogaldcpfeaaDoor
open Go.Ax
set_option maxRecDepth 1000000
noncomputable def hasC (r : Rng) (k : ByteArray) : Ctr Tryd.prog := ⟨87, [.agg (encG r), .y (.string k)], [], boolR (hasK r k), has_c r k⟩
structure Ke where
  (out : List Rec) (to : List Int)
def Ke.step (r : Rng) (s : Ke) (x : Rec) : Ke := ⟨if hasK r x.key then s.out ++ [x.to (IntKind.u64.wrap (s.out.length : Nat))] else s.out, s.to ++ [IntKind.u64.wrap (s.out.length : Nat)]⟩
def Ke.end (s : Ke) : Ke := ⟨s.out, s.to ++ [IntKind.u64.wrap (s.out.length : Nat)]⟩
end Go.Proofs.YtdpbogaldcpfeaaDoor

/-! A client: the topic of a call, the shard of its key: the conditions. -/
namespace Go.Proofs.YtdpbogaldcpfeaaDoor.C
open Go.Ax
set_option maxRecDepth 1000000
/-- a client that goes on, and what it does -/
structure Nod where
  c : Clt
  o : Out
instance : Inhabited Nod := ⟨⟨default, default⟩⟩
def encNd (tp ld : AV) (x : Nod) : List AV := encCt tp ld x.c ++ encOu x.o
def ndV (x : Nod) : AV := .ip false 74 (get (encNd (encTps false x.c.topics) (encSis false x.c.leaders) x))
def tpE (x : Nod) : List AV := [.ip false 1 (get [ndV x])]
def isT (s : ByteArray) (t : Tpc) : Bool := t.name.data.toList == s.data.toList
def vcTp1 (x : Nod) (t : Tpc) : Prop :=
  (t.name.data.toList == x.c.call.topic.data.toList) = isT x.c.call.topic t ∧ True
set_option maxRecDepth 1000000 in
theorem vcTp1_eq (x : Nod) (t : Tpc) : (ctrVC Tryd.prog (hT _) 92 ([.agg (encTp t)] ++ tpE x) [] (boolR (isT x.c.call.topic t))) = vcTp1 x t := by kernel_rfl
theorem tp1_c (x : Nod) (t : Tpc) : (boolR (isT x.c.call.topic t)).Sat (ACall' Tryd.prog 92 ([.agg (encTp t)] ++ tpE x) []) := by
  refine ctr_vc (ht := hT _) Tryd.mixed rfl ?_
  rw [vcTp1_eq x t]
  unfold vcTp1 isT
  simp
/-! slices.IndexFunc, ContainsFunc over gazette/api.Topic by (*gazette/client.node).topic$1 -/
def tiFn (nd : Nod) : AV := .fn (.func 92) [] (tpE nd)
def tiAny (nd : Nod) (l : List Tpc) : Bool := l.any (isT nd.c.call.topic)
theorem tiAny_nil (nd : Nod) : tiAny nd [] = false := rfl
theorem tiAny_cons (nd : Nod) (y : Tpc) (l : List Tpc) : tiAny nd (y :: l) = (isT nd.c.call.topic y || tiAny nd l) := rfl
noncomputable def tiC (nd : Nod) (x : Tpc) : Ctr Tryd.prog := ⟨92, [.agg (encTp x)] ++ (tpE nd), [], .need (True) (boolR (isT nd.c.call.topic x)), T.Sat.need fun h => tp1_c nd x⟩
def tiT (nd : Nod) (bb : Bool) (l : List Tpc) (k : Nat) : List AV := mkT 19 [(0, .ys bb 2 l.length (cellsOf' encTp l)), (1, tiFn nd), (4, .s (.int .i64 0)), (7, .y (.int .i64 l.length)), (8, .y (.int .i64 k))]
def tiS (r : Bool × Nat) : Exit × List AV × List Blk := match r.1 with
  | true => (.ret, mkT 19 [(4, .y (.int .i64 r.2))], [])
  | false => (.exit 0, mkT 19 [], [])
def tiO (nd : Nod) (l : List Tpc) (k : Nat) : T (Bool × Nat) := .ite (tiAny nd (l.drop k)) (.ret (true, k + (l.drop k).findIdx (isT nd.c.call.topic))) (.ret (false, 0))
noncomputable def tiHL (nd : Nod) (l : List Tpc) (k : Nat) : HintsT Tryd.prog := hh _ noLp (cs1 91 4 5 (tiC nd (l.getD k default)) noCs) noOp
def vctiL_q1 (nd : Nod) : Prop := (false = false ∧ (1 : Nat) ≤ (1 : Nat) ∧ cellLe (1 : Nat) (Ax.get [AV.ip false (74 : Nat) (Ax.get [AV.y (Value.int IntKind.i64 nd.c.id), AV.ys true (1 : Nat) (List.length nd.c.servers) (cellsOf' encI nd.c.servers), AV.y (Value.int IntKind.u64 nd.c.prod), AV.y (Value.int IntKind.u64 nd.c.seq), AV.ys false (2 : Nat) (List.length nd.c.topics) (cellsOf' encTp nd.c.topics), AV.ys false (2 : Nat) (List.length nd.c.leaders) (cellsOf' encSi nd.c.leaders), AV.y (Value.bool nd.c.busy), AV.y (Value.int IntKind.i64 nd.c.call.kind), AV.y (Value.string nd.c.call.topic), AV.y (Value.string nd.c.call.key), AV.ys true (1 : Nat) (List.length nd.c.call.val) (cellsOf' encB nd.c.call.val), AV.y (Value.int IntKind.u64 nd.c.call.off), AV.y (Value.int IntKind.i64 nd.c.call.most), AV.y (Value.string nd.c.call.name), AV.y (Value.int IntKind.i64 nd.c.call.adm.kind), AV.y (Value.int IntKind.u64 nd.c.call.adm.prod), AV.y (Value.int IntKind.u64 nd.c.call.adm.seq), AV.y (Value.string nd.c.call.adm.topic), AV.ys true (1 : Nat) (List.length nd.c.call.adm.nodes) (cellsOf' encI nd.c.call.adm.nodes), AV.y (Value.int IntKind.u64 nd.c.call.adm.group), AV.y (Value.int IntKind.u64 nd.c.call.adm.other), AV.y (Value.string nd.c.call.adm.key), AV.y (Value.int IntKind.i64 nd.c.call.adm.fr), AV.y (Value.int IntKind.i64 nd.c.call.adm.to), AV.y (Value.int IntKind.u64 nd.c.call.adm.plan), AV.y (Value.int IntKind.i64 nd.c.call.adm.step), AV.y (Value.int IntKind.u64 nd.c.number), AV.y (Value.bool nd.c.route), AV.y (Value.int IntKind.u64 nd.c.group), AV.y (Value.int IntKind.i64 nd.c.tries), AV.y (Value.int IntKind.i64 nd.c.waited), AV.y (Value.bool nd.c.again), AV.y (Value.int IntKind.i64 nd.c.at'), AV.y (Value.bool nd.o.send), AV.y (Value.int IntKind.i64 nd.o.to), AV.y (Value.int IntKind.u64 nd.o.req.id), AV.y (Value.int IntKind.i64 nd.o.req.kind), AV.y (Value.int IntKind.u64 nd.o.req.group), AV.y (Value.int IntKind.i64 nd.o.req.part.kind), AV.y (Value.int IntKind.u64 nd.o.req.part.epoch), AV.y (Value.int IntKind.u64 nd.o.req.part.prod), AV.y (Value.int IntKind.u64 nd.o.req.part.seq), AV.y (Value.string nd.o.req.part.key), AV.ys true (1 : Nat) (List.length nd.o.req.part.val) (cellsOf' encB nd.o.req.part.val), AV.y (Value.int IntKind.u64 nd.o.req.part.off), AV.y (Value.int IntKind.i64 nd.o.req.part.most), AV.y (Value.string nd.o.req.part.name), AV.y (Value.int IntKind.u64 nd.o.req.part.plan), AV.y (Value.int IntKind.i64 nd.o.req.adm.kind), AV.y (Value.int IntKind.u64 nd.o.req.adm.prod), AV.y (Value.int IntKind.u64 nd.o.req.adm.seq), AV.y (Value.string nd.o.req.adm.topic), AV.ys true (1 : Nat) (List.length nd.o.req.adm.nodes) (cellsOf' encI nd.o.req.adm.nodes), AV.y (Value.int IntKind.u64 nd.o.req.adm.group), AV.y (Value.int IntKind.u64 nd.o.req.adm.other), AV.y (Value.string nd.o.req.adm.key), AV.y (Value.int IntKind.i64 nd.o.req.adm.fr), AV.y (Value.int IntKind.i64 nd.o.req.adm.to), AV.y (Value.int IntKind.u64 nd.o.req.adm.plan), AV.y (Value.int IntKind.i64 nd.o.req.adm.step), AV.y (Value.string nd.o.req.topic), AV.y (Value.bool nd.o.done), AV.y (Value.int IntKind.u64 nd.o.rep.id), AV.y (Value.int IntKind.i64 nd.o.rep.err), AV.y (Value.int IntKind.i64 nd.o.rep.leader), AV.y (Value.int IntKind.i64 nd.o.rep.rerr), AV.y (Value.int IntKind.u64 nd.o.rep.roff), AV.y (Value.bool nd.o.rep.rold), AV.ys true (5 : Nat) (List.length nd.o.rep.recs) (cellsOf' encR nd.o.rep.recs), AV.y (Value.int IntKind.u64 nd.o.rep.number), AV.ys true (7 : Nat) (List.length nd.o.rep.shards) (cellsOf' encSh nd.o.rep.shards), AV.y (Value.int IntKind.u64 nd.o.rep.group), AV.y (Value.int IntKind.u64 nd.o.rep.index), AV.y (Value.int IntKind.u64 nd.o.rep.term)])]) (Ax.get [AV.ip false (74 : Nat) (Ax.get [AV.y (Value.int IntKind.i64 nd.c.id), AV.ys true (1 : Nat) (List.length nd.c.servers) (cellsOf' encI nd.c.servers), AV.y (Value.int IntKind.u64 nd.c.prod), AV.y (Value.int IntKind.u64 nd.c.seq), AV.ys false (2 : Nat) (List.length nd.c.topics) (cellsOf' encTp nd.c.topics), AV.ys false (2 : Nat) (List.length nd.c.leaders) (cellsOf' encSi nd.c.leaders), AV.y (Value.bool nd.c.busy), AV.y (Value.int IntKind.i64 nd.c.call.kind), AV.y (Value.string nd.c.call.topic), AV.y (Value.string nd.c.call.key), AV.ys true (1 : Nat) (List.length nd.c.call.val) (cellsOf' encB nd.c.call.val), AV.y (Value.int IntKind.u64 nd.c.call.off), AV.y (Value.int IntKind.i64 nd.c.call.most), AV.y (Value.string nd.c.call.name), AV.y (Value.int IntKind.i64 nd.c.call.adm.kind), AV.y (Value.int IntKind.u64 nd.c.call.adm.prod), AV.y (Value.int IntKind.u64 nd.c.call.adm.seq), AV.y (Value.string nd.c.call.adm.topic), AV.ys true (1 : Nat) (List.length nd.c.call.adm.nodes) (cellsOf' encI nd.c.call.adm.nodes), AV.y (Value.int IntKind.u64 nd.c.call.adm.group), AV.y (Value.int IntKind.u64 nd.c.call.adm.other), AV.y (Value.string nd.c.call.adm.key), AV.y (Value.int IntKind.i64 nd.c.call.adm.fr), AV.y (Value.int IntKind.i64 nd.c.call.adm.to), AV.y (Value.int IntKind.u64 nd.c.call.adm.plan), AV.y (Value.int IntKind.i64 nd.c.call.adm.step), AV.y (Value.int IntKind.u64 nd.c.number), AV.y (Value.bool nd.c.route), AV.y (Value.int IntKind.u64 nd.c.group), AV.y (Value.int IntKind.i64 nd.c.tries), AV.y (Value.int IntKind.i64 nd.c.waited), AV.y (Value.bool nd.c.again), AV.y (Value.int IntKind.i64 nd.c.at'), AV.y (Value.bool nd.o.send), AV.y (Value.int IntKind.i64 nd.o.to), AV.y (Value.int IntKind.u64 nd.o.req.id), AV.y (Value.int IntKind.i64 nd.o.req.kind), AV.y (Value.int IntKind.u64 nd.o.req.group), AV.y (Value.int IntKind.i64 nd.o.req.part.kind), AV.y (Value.int IntKind.u64 nd.o.req.part.epoch), AV.y (Value.int IntKind.u64 nd.o.req.part.prod), AV.y (Value.int IntKind.u64 nd.o.req.part.seq), AV.y (Value.string nd.o.req.part.key), AV.ys true (1 : Nat) (List.length nd.o.req.part.val) (cellsOf' encB nd.o.req.part.val), AV.y (Value.int IntKind.u64 nd.o.req.part.off), AV.y (Value.int IntKind.i64 nd.o.req.part.most), AV.y (Value.string nd.o.req.part.name), AV.y (Value.int IntKind.u64 nd.o.req.part.plan), AV.y (Value.int IntKind.i64 nd.o.req.adm.kind), AV.y (Value.int IntKind.u64 nd.o.req.adm.prod), AV.y (Value.int IntKind.u64 nd.o.req.adm.seq), AV.y (Value.string nd.o.req.adm.topic), AV.ys true (1 : Nat) (List.length nd.o.req.adm.nodes) (cellsOf' encI nd.o.req.adm.nodes), AV.y (Value.int IntKind.u64 nd.o.req.adm.group), AV.y (Value.int IntKind.u64 nd.o.req.adm.other), AV.y (Value.string nd.o.req.adm.key), AV.y (Value.int IntKind.i64 nd.o.req.adm.fr), AV.y (Value.int IntKind.i64 nd.o.req.adm.to), AV.y (Value.int IntKind.u64 nd.o.req.adm.plan), AV.y (Value.int IntKind.i64 nd.o.req.adm.step), AV.y (Value.string nd.o.req.topic), AV.y (Value.bool nd.o.done), AV.y (Value.int IntKind.u64 nd.o.rep.id), AV.y (Value.int IntKind.i64 nd.o.rep.err), AV.y (Value.int IntKind.i64 nd.o.rep.leader), AV.y (Value.int IntKind.i64 nd.o.rep.rerr), AV.y (Value.int IntKind.u64 nd.o.rep.roff), AV.y (Value.bool nd.o.rep.rold), AV.ys true (5 : Nat) (List.length nd.o.rep.recs) (cellsOf' encR nd.o.rep.recs), AV.y (Value.int IntKind.u64 nd.o.rep.number), AV.ys true (7 : Nat) (List.length nd.o.rep.shards) (cellsOf' encSh nd.o.rep.shards), AV.y (Value.int IntKind.u64 nd.o.rep.group), AV.y (Value.int IntKind.u64 nd.o.rep.index), AV.y (Value.int IntKind.u64 nd.o.rep.term)])]))
def vctiL (nd : Nod) (bb : Bool) (l : List Tpc) (k : Nat) : Prop :=
  (decide ((↑k : Int) < (↑(List.length l) : Int)) = true → (true && decide ((↑k : Int) < (↑(List.length l) : Int))) = true ∧ (((List.getD l (Int.toNat (↑k : Int)) (@default Tpc instInhabitedTpc)).name = (List.getD l k (@default Tpc instInhabitedTpc)).name ∧ (true = true ∧ List.length (List.getD l (Int.toNat (↑k : Int)) (@default Tpc instInhabitedTpc)).shards = List.length (List.getD l k (@default Tpc instInhabitedTpc)).shards ∧ contLe (List.length (List.getD l (Int.toNat (↑k : Int)) (@default Tpc instInhabitedTpc)).shards) (7 : Nat) (cellsOf' encSh (List.getD l (Int.toNat (↑k : Int)) (@default Tpc instInhabitedTpc)).shards) (cellsOf' encSh (List.getD l k (@default Tpc instInhabitedTpc)).shards)) ∧ True) ∧ (vctiL_q1 nd) ∧ True) ∧ True ∧ True ∧ (isT nd.c.call.topic (List.getD l k (@default Tpc instInhabitedTpc)) = true → (tiAny nd (List.drop k l) = true → ((↑k : Int) = (↑(k + List.findIdx (isT nd.c.call.topic) (List.drop k l)) : Int) ∧ True) ∧ True ∧ true = true) ∧ (tiAny nd (List.drop k l) = false → False)) ∧ (isT nd.c.call.topic (List.getD l k (@default Tpc instInhabitedTpc)) = false → ∃ (j : Nat), List.length l - j < List.length l - k ∧ (((bb = bb ∧ List.length l = List.length l ∧ contLe (List.length l) (2 : Nat) (cellsOf' encTp l) (cellsOf' encTp l)) ∧ (True ∧ (vctiL_q1 nd) ∧ True) ∧ (0 : Int) = (0 : Int) ∧ (↑(List.length l) : Int) = (↑(List.length l) : Int) ∧ IntKind.wrap IntKind.i64 ((↑k : Int) + (1 : Int)) = (↑j : Int) ∧ True) ∧ True ∧ true = true) ∧ true = true ∧ (tiAny nd (List.drop j l) = true → (tiAny nd (List.drop k l) = true → (true, j + List.findIdx (isT nd.c.call.topic) (List.drop j l)) = (true, k + List.findIdx (isT nd.c.call.topic) (List.drop k l))) ∧ (tiAny nd (List.drop k l) = false → (true, j + List.findIdx (isT nd.c.call.topic) (List.drop j l)) = (false, (0 : Nat)))) ∧ (tiAny nd (List.drop j l) = false → (tiAny nd (List.drop k l) = true → (false, (0 : Nat)) = (true, k + List.findIdx (isT nd.c.call.topic) (List.drop k l))) ∧ (tiAny nd (List.drop k l) = false → (false, (0 : Nat)) = (false, (0 : Nat)))))) ∧ (decide ((↑k : Int) < (↑(List.length l) : Int)) = false → (tiAny nd (List.drop k l) = true → False) ∧ (tiAny nd (List.drop k l) = false → True ∧ True ∧ true = true))
set_option maxRecDepth 1000000 in
theorem vctiL_eq (nd : Nod) (bb : Bool) (l : List Tpc) (k : Nat) : (loopVC Tryd.prog (tiHL nd l k) 91 2 (fun k => l.length - k) (tiT nd bb l) (fun _ => []) [0] (tiO nd l) tiS k) = vctiL nd bb l k := by kernel_rfl
theorem ti_loop (nd : Nod) (bb : Bool) (l : List Tpc) (hl : l.length ≤ 9223372036854775806) (hn : ∀ k, k < l.length → True) (k : Nat) : LoopOk Tryd.prog 91 2 (loopAt Tryd.prog 91 2) ⟨tiT nd bb l k, [], []⟩ ((tiO nd l k).map (lout [0] tiS)) := by
  refine loop_vcH (ht := fun k => tiHL nd l k) Tryd.mixed (fun _ => rfl) (fun k => (vctiL_eq nd bb l k).mpr ?_) k
  unfold vctiL vctiL_q1
  by_cases h : k < l.length
  · have hw : IntKind.i64.wrap ((k : Int) + 1) = ((k + 1 : Nat) : Int) := by rw [wrap_i64 (by omega) (by omega)]; omega
    have hz : decide ((k : Int) < l.length) = true := by simp; omega
    have hd : l.drop k = l.getD k default :: l.drop (k + 1) := by rw [drop_cons h]; simp
    have hk := hn k h
    rw [Int.toNat_natCast]
    simp only [hz, hd, tiAny_cons, List.findIdx_cons]
    generalize l.getD k default = y at *
    cases hp : isT nd.c.call.topic y
    · simp [hw, hk]
      exact ⟨k + 1, by omega, by omega, by grind⟩
    · simp [hk]
  · have hz : decide ((k : Int) < l.length) = false := by simp; omega
    simp only [hz, drop_end (Nat.le_of_not_lt h), tiAny_nil]
    simp
noncomputable def tiH (nd : Nod) (bb : Bool) (l : List Tpc) : HintsT Tryd.prog := hh _ (lp1 91 2 (jobOf (tiT nd bb l) (fun _ => []) [0] (tiO nd l) tiS 0) noLp) noCs noOp
def tiIdxT (nd : Nod) (l : List Tpc) : T An := .ite (tiAny nd l) (.ret (.y (.int .i64 (l.findIdx (isT nd.c.call.topic))), [], [])) (.ret (.s (.int .i64 (-1)), [], []))
def vctiI (nd : Nod) (bb : Bool) (l : List Tpc) : Prop :=
  (((bb = bb ∧ List.length l = List.length l ∧ contLe (List.length l) (2 : Nat) (cellsOf' encTp l) (cellsOf' encTp l)) ∧ (True ∧ (false = false ∧ (1 : Nat) ≤ (1 : Nat) ∧ cellLe (1 : Nat) (Ax.get [AV.ip false (74 : Nat) (Ax.get [AV.y (Value.int IntKind.i64 nd.c.id), AV.ys true (1 : Nat) (List.length nd.c.servers) (cellsOf' encI nd.c.servers), AV.y (Value.int IntKind.u64 nd.c.prod), AV.y (Value.int IntKind.u64 nd.c.seq), AV.ys false (2 : Nat) (List.length nd.c.topics) (cellsOf' encTp nd.c.topics), AV.ys false (2 : Nat) (List.length nd.c.leaders) (cellsOf' encSi nd.c.leaders), AV.y (Value.bool nd.c.busy), AV.y (Value.int IntKind.i64 nd.c.call.kind), AV.y (Value.string nd.c.call.topic), AV.y (Value.string nd.c.call.key), AV.ys true (1 : Nat) (List.length nd.c.call.val) (cellsOf' encB nd.c.call.val), AV.y (Value.int IntKind.u64 nd.c.call.off), AV.y (Value.int IntKind.i64 nd.c.call.most), AV.y (Value.string nd.c.call.name), AV.y (Value.int IntKind.i64 nd.c.call.adm.kind), AV.y (Value.int IntKind.u64 nd.c.call.adm.prod), AV.y (Value.int IntKind.u64 nd.c.call.adm.seq), AV.y (Value.string nd.c.call.adm.topic), AV.ys true (1 : Nat) (List.length nd.c.call.adm.nodes) (cellsOf' encI nd.c.call.adm.nodes), AV.y (Value.int IntKind.u64 nd.c.call.adm.group), AV.y (Value.int IntKind.u64 nd.c.call.adm.other), AV.y (Value.string nd.c.call.adm.key), AV.y (Value.int IntKind.i64 nd.c.call.adm.fr), AV.y (Value.int IntKind.i64 nd.c.call.adm.to), AV.y (Value.int IntKind.u64 nd.c.call.adm.plan), AV.y (Value.int IntKind.i64 nd.c.call.adm.step), AV.y (Value.int IntKind.u64 nd.c.number), AV.y (Value.bool nd.c.route), AV.y (Value.int IntKind.u64 nd.c.group), AV.y (Value.int IntKind.i64 nd.c.tries), AV.y (Value.int IntKind.i64 nd.c.waited), AV.y (Value.bool nd.c.again), AV.y (Value.int IntKind.i64 nd.c.at'), AV.y (Value.bool nd.o.send), AV.y (Value.int IntKind.i64 nd.o.to), AV.y (Value.int IntKind.u64 nd.o.req.id), AV.y (Value.int IntKind.i64 nd.o.req.kind), AV.y (Value.int IntKind.u64 nd.o.req.group), AV.y (Value.int IntKind.i64 nd.o.req.part.kind), AV.y (Value.int IntKind.u64 nd.o.req.part.epoch), AV.y (Value.int IntKind.u64 nd.o.req.part.prod), AV.y (Value.int IntKind.u64 nd.o.req.part.seq), AV.y (Value.string nd.o.req.part.key), AV.ys true (1 : Nat) (List.length nd.o.req.part.val) (cellsOf' encB nd.o.req.part.val), AV.y (Value.int IntKind.u64 nd.o.req.part.off), AV.y (Value.int IntKind.i64 nd.o.req.part.most), AV.y (Value.string nd.o.req.part.name), AV.y (Value.int IntKind.u64 nd.o.req.part.plan), AV.y (Value.int IntKind.i64 nd.o.req.adm.kind), AV.y (Value.int IntKind.u64 nd.o.req.adm.prod), AV.y (Value.int IntKind.u64 nd.o.req.adm.seq), AV.y (Value.string nd.o.req.adm.topic), AV.ys true (1 : Nat) (List.length nd.o.req.adm.nodes) (cellsOf' encI nd.o.req.adm.nodes), AV.y (Value.int IntKind.u64 nd.o.req.adm.group), AV.y (Value.int IntKind.u64 nd.o.req.adm.other), AV.y (Value.string nd.o.req.adm.key), AV.y (Value.int IntKind.i64 nd.o.req.adm.fr), AV.y (Value.int IntKind.i64 nd.o.req.adm.to), AV.y (Value.int IntKind.u64 nd.o.req.adm.plan), AV.y (Value.int IntKind.i64 nd.o.req.adm.step), AV.y (Value.string nd.o.req.topic), AV.y (Value.bool nd.o.done), AV.y (Value.int IntKind.u64 nd.o.rep.id), AV.y (Value.int IntKind.i64 nd.o.rep.err), AV.y (Value.int IntKind.i64 nd.o.rep.leader), AV.y (Value.int IntKind.i64 nd.o.rep.rerr), AV.y (Value.int IntKind.u64 nd.o.rep.roff), AV.y (Value.bool nd.o.rep.rold), AV.ys true (5 : Nat) (List.length nd.o.rep.recs) (cellsOf' encR nd.o.rep.recs), AV.y (Value.int IntKind.u64 nd.o.rep.number), AV.ys true (7 : Nat) (List.length nd.o.rep.shards) (cellsOf' encSh nd.o.rep.shards), AV.y (Value.int IntKind.u64 nd.o.rep.group), AV.y (Value.int IntKind.u64 nd.o.rep.index), AV.y (Value.int IntKind.u64 nd.o.rep.term)])]) (Ax.get [AV.ip false (74 : Nat) (Ax.get [AV.y (Value.int IntKind.i64 nd.c.id), AV.ys true (1 : Nat) (List.length nd.c.servers) (cellsOf' encI nd.c.servers), AV.y (Value.int IntKind.u64 nd.c.prod), AV.y (Value.int IntKind.u64 nd.c.seq), AV.ys false (2 : Nat) (List.length nd.c.topics) (cellsOf' encTp nd.c.topics), AV.ys false (2 : Nat) (List.length nd.c.leaders) (cellsOf' encSi nd.c.leaders), AV.y (Value.bool nd.c.busy), AV.y (Value.int IntKind.i64 nd.c.call.kind), AV.y (Value.string nd.c.call.topic), AV.y (Value.string nd.c.call.key), AV.ys true (1 : Nat) (List.length nd.c.call.val) (cellsOf' encB nd.c.call.val), AV.y (Value.int IntKind.u64 nd.c.call.off), AV.y (Value.int IntKind.i64 nd.c.call.most), AV.y (Value.string nd.c.call.name), AV.y (Value.int IntKind.i64 nd.c.call.adm.kind), AV.y (Value.int IntKind.u64 nd.c.call.adm.prod), AV.y (Value.int IntKind.u64 nd.c.call.adm.seq), AV.y (Value.string nd.c.call.adm.topic), AV.ys true (1 : Nat) (List.length nd.c.call.adm.nodes) (cellsOf' encI nd.c.call.adm.nodes), AV.y (Value.int IntKind.u64 nd.c.call.adm.group), AV.y (Value.int IntKind.u64 nd.c.call.adm.other), AV.y (Value.string nd.c.call.adm.key), AV.y (Value.int IntKind.i64 nd.c.call.adm.fr), AV.y (Value.int IntKind.i64 nd.c.call.adm.to), AV.y (Value.int IntKind.u64 nd.c.call.adm.plan), AV.y (Value.int IntKind.i64 nd.c.call.adm.step), AV.y (Value.int IntKind.u64 nd.c.number), AV.y (Value.bool nd.c.route), AV.y (Value.int IntKind.u64 nd.c.group), AV.y (Value.int IntKind.i64 nd.c.tries), AV.y (Value.int IntKind.i64 nd.c.waited), AV.y (Value.bool nd.c.again), AV.y (Value.int IntKind.i64 nd.c.at'), AV.y (Value.bool nd.o.send), AV.y (Value.int IntKind.i64 nd.o.to), AV.y (Value.int IntKind.u64 nd.o.req.id), AV.y (Value.int IntKind.i64 nd.o.req.kind), AV.y (Value.int IntKind.u64 nd.o.req.group), AV.y (Value.int IntKind.i64 nd.o.req.part.kind), AV.y (Value.int IntKind.u64 nd.o.req.part.epoch), AV.y (Value.int IntKind.u64 nd.o.req.part.prod), AV.y (Value.int IntKind.u64 nd.o.req.part.seq), AV.y (Value.string nd.o.req.part.key), AV.ys true (1 : Nat) (List.length nd.o.req.part.val) (cellsOf' encB nd.o.req.part.val), AV.y (Value.int IntKind.u64 nd.o.req.part.off), AV.y (Value.int IntKind.i64 nd.o.req.part.most), AV.y (Value.string nd.o.req.part.name), AV.y (Value.int IntKind.u64 nd.o.req.part.plan), AV.y (Value.int IntKind.i64 nd.o.req.adm.kind), AV.y (Value.int IntKind.u64 nd.o.req.adm.prod), AV.y (Value.int IntKind.u64 nd.o.req.adm.seq), AV.y (Value.string nd.o.req.adm.topic), AV.ys true (1 : Nat) (List.length nd.o.req.adm.nodes) (cellsOf' encI nd.o.req.adm.nodes), AV.y (Value.int IntKind.u64 nd.o.req.adm.group), AV.y (Value.int IntKind.u64 nd.o.req.adm.other), AV.y (Value.string nd.o.req.adm.key), AV.y (Value.int IntKind.i64 nd.o.req.adm.fr), AV.y (Value.int IntKind.i64 nd.o.req.adm.to), AV.y (Value.int IntKind.u64 nd.o.req.adm.plan), AV.y (Value.int IntKind.i64 nd.o.req.adm.step), AV.y (Value.string nd.o.req.topic), AV.y (Value.bool nd.o.done), AV.y (Value.int IntKind.u64 nd.o.rep.id), AV.y (Value.int IntKind.i64 nd.o.rep.err), AV.y (Value.int IntKind.i64 nd.o.rep.leader), AV.y (Value.int IntKind.i64 nd.o.rep.rerr), AV.y (Value.int IntKind.u64 nd.o.rep.roff), AV.y (Value.bool nd.o.rep.rold), AV.ys true (5 : Nat) (List.length nd.o.rep.recs) (cellsOf' encR nd.o.rep.recs), AV.y (Value.int IntKind.u64 nd.o.rep.number), AV.ys true (7 : Nat) (List.length nd.o.rep.shards) (cellsOf' encSh nd.o.rep.shards), AV.y (Value.int IntKind.u64 nd.o.rep.group), AV.y (Value.int IntKind.u64 nd.o.rep.index), AV.y (Value.int IntKind.u64 nd.o.rep.term)])])) ∧ True) ∧ (0 : Int) = (0 : Int) ∧ (↑(List.length l) : Int) = (↑(List.length l) : Int) ∧ (0 : Int) = (0 : Int) ∧ True) ∧ True ∧ true = true) ∧ LoopOk Tryd.prog (91 : Nat) (2 : Nat) (loopAt Tryd.prog (91 : Nat) (2 : Nat)) { t := tiT nd bb l (0 : Nat), m := [], mv := [] : St } (T.map (lout [(0 : Nat)] tiS) (tiO nd l (0 : Nat))) ∧ (tiAny nd (List.drop (0 : Nat) l) = true → (tiAny nd l = true → (↑((0 : Nat) + List.findIdx (isT nd.c.call.topic) (List.drop (0 : Nat) l)) : Int) = (↑(List.findIdx (isT nd.c.call.topic) l) : Int) ∧ True) ∧ (tiAny nd l = false → (↑((0 : Nat) + List.findIdx (isT nd.c.call.topic) (List.drop (0 : Nat) l)) : Int) = (-1 : Int) ∧ True)) ∧ (tiAny nd (List.drop (0 : Nat) l) = false → (tiAny nd l = true → (-1 : Int) = (↑(List.findIdx (isT nd.c.call.topic) l) : Int) ∧ True) ∧ (tiAny nd l = false → (-1 : Int) = (-1 : Int) ∧ True))
set_option maxRecDepth 1000000 in
theorem vctiI_eq (nd : Nod) (bb : Bool) (l : List Tpc) : (ctrVC Tryd.prog (tiH nd bb l) 91 [.ys bb 2 l.length (cellsOf' encTp l), tiFn nd] [] (tiIdxT nd l)) = vctiI nd bb l := by kernel_rfl
theorem ti_idx (nd : Nod) (bb : Bool) (l : List Tpc) (hl : l.length ≤ 9223372036854775806) (hn : ∀ k, k < l.length → True) : (tiIdxT nd l).Sat (ACall' Tryd.prog 91 [.ys bb 2 l.length (cellsOf' encTp l), tiFn nd] []) := by
  refine ctr_vc (ht := tiH nd bb l) Tryd.mixed rfl ?_
  rw [vctiI_eq nd bb l]
  unfold vctiI
  have := ti_loop nd bb l hl hn 0
  simp [this]
noncomputable def tiIdx (nd : Nod) (bb : Bool) (l : List Tpc) : Ctr Tryd.prog := ⟨91, [.ys bb 2 l.length (cellsOf' encTp l), tiFn nd], [], .need (l.length ≤ 9223372036854775806 ∧ ∀ k, k < l.length → True) (tiIdxT nd l), T.Sat.need fun h => ti_idx nd bb l h.1 h.2⟩
end Go.Proofs.YtdpbogaldcpfeaaDoor.C
