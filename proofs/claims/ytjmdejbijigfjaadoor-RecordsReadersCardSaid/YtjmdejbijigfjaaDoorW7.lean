/- PROVED: where consumers read on is the document's -/
import Derived.Test.YtjmdejbijigfjaaDoorRows
import Derived.Test.YtjmdejbijigfjaaDoorTie
import Derived.Test.YtjmdejbijigfjaaDoorCards
import Derived.OpenShut
import Derived.Lay
import Derived.Handed
import Derived.SevenTiedAt
import Derived.Test.YtjmdejbijigfjaaDoorE8
import Derived.Test.YtjmdejbijigfjaaDoorW3
import Derived.Test.YtjmdejbijigfjaaDoorW4
import Derived.Test.YtjmdejbijigfjaaDoorW6
set_option linter.unusedVariables false
set_option linter.unusedSimpArgs false
/-! Records: the law RecordsReaders. -/
namespace Go.Proofs.YtjmdejbijigfjaaDoor
open Go.Ax
set_option maxRecDepth 1000000
def rowP (p : Bool) (r : List Con) (e : Int) : T An := match p with
  | true => .ret (.tup [.own 0 2 0 r.length, .s (.int .i64 0)], [rowC r], [])
  | false => .ret (.tup [.s (.slice none 0 0), .y (.int .i64 e)], [], [])
theorem rowP_of {p : Bool} {r : List Con} {e : Int} {X : An → Prop} (h : (rowE r e).Sat X) (hp : (e == 0) = p) : (rowP p r e).Sat X := by
  intro Q hq
  refine h Q ?_
  unfold rowE
  rw [hp]
  cases p
  · exact ⟨(fun e2 => nomatch e2), (fun _ => hq)⟩
  · exact ⟨(fun _ => hq), (fun e2 => nomatch e2)⟩
noncomputable def cmP (p b : Bool) (l : List Con) (x : Con) (e : Int) : Ctr Tryd.prog := ⟨32, [encCs b l, .agg (encC x), .y (.int .u64 e)], [], .need (l.length ≤ 9223372036854775806 ∧ (comE l x e == 0) = p) (rowP p (putL l x) (comE l x e)), T.Sat.need fun h => rowP_of (cm_c b l x e h.1) h.2⟩
noncomputable def ckP (p b : Bool) (l : List Con) (x : Con) (e : Int) : Ctr Tryd.prog := ⟨33, [encCs b l, .agg (encC x), .y (.int .u64 e)], [], .need (l.length ≤ 9223372036854775806 ∧ (comE l x e == 0) = p) (rowP p (putL l x) (comE l x e)), T.Sat.need fun h => rowP_of (ck_c b l x e h.1) h.2⟩
noncomputable def boP (p b1 b2 b3 b4 : Bool) (a b : List Con) (ta tb : List Int) : Ctr Tryd.prog := ⟨39, [encCs b1 a, encCs b2 b, encUs b3 ta, encUs b4 tb], [], .need ((a.length ≤ 9223372036854775806 ∧ b.length ≤ 9223372036854775806 ∧ wfC a ∧ wfC b ∧ ta.length ≤ 9223372036854775806 ∧ tb.length ≤ 9223372036854775806) ∧ (bothE a b ta tb == 0) = p) (rowP p (boU a b ta tb (a ++ b).length) (bothE a b ta tb)), T.Sat.need fun ⟨⟨h1, h2, h3, h4, h5, h6⟩, h7⟩ => rowP_of (both_c b1 b2 b3 b4 a b ta tb h1 h2 h3 h4 h5 h6) h7⟩
noncomputable def rbP (p b1 b2 b3 b4 : Bool) (a b : List Con) (ta tb : List Int) : Ctr Tryd.prog := ⟨40, [encCs b1 a, encCs b2 b, encUs b3 ta, encUs b4 tb], [], .need ((a.length ≤ 9223372036854775806 ∧ b.length ≤ 9223372036854775806 ∧ wfC a ∧ wfC b ∧ ta.length ≤ 9223372036854775806 ∧ tb.length ≤ 9223372036854775806) ∧ (bothE a b ta tb == 0) = p) (rowP p (boU a b ta tb (a ++ b).length) (bothE a b ta tb)), T.Sat.need fun ⟨⟨h1, h2, h3, h4, h5, h6⟩, h7⟩ => rowP_of (rb_c b1 b2 b3 b4 a b ta tb h1 h2 h3 h4 h5 h6) h7⟩
structure Rdr where
  a : List Con
  b : List Con
  c : Con
  e : Int
  ta : List Int
  tb : List Int
instance : Inhabited Rdr := ⟨⟨[], [], default, 0, [], []⟩⟩
def encO (o : Rdr) : List AV := [encCs true o.a, encCs true o.b, .y (.string o.c.name), .y (.int .u64 o.c.off), .y (.int .u64 o.e), encUs true o.ta, encUs true o.tb]
def bumpC (x : Con) : Con := ⟨x.name, IntKind.u64.wrap (x.off + 1)⟩
def bumpL (l : List Con) (k : Nat) : List Con := (l.take k).map bumpC ++ l.drop k
def rlB (o : Rdr) (r : List (Nat × AV)) : List AV := mkT 167 ([(3, .y (.bool true)), (4, encCs true o.a), (5, encCs true o.b), (6, .ptr 1 0 0 0), (8, encUs true o.ta), (9, encUs true o.tb), (10, .own 2 2 0 o.a.length), (12, .s (.int .i64 0)), (14, .s (.int .i64 0)), (15, .y (.bool true))] ++ r)
def rlT (o : Rdr) (k : Nat) : List AV := rlB o [(11, .own 3 2 0 (putL o.a o.c).length), (16, .y (.int .i64 k))]
def rlM (o : Rdr) (k : Nat) : List Blk := [.dead, .box 59 (encC o.c), rowC o.a, rowC (bumpL (putL o.a o.c) k)]
def rlS (o : Rdr) (_ : Unit) : Exit × List AV × List Blk := (.exit 0, rlB o [], [.dead, .box 59 (encC o.c), rowC o.a])
def rlX : List Nat := [0, 1, 2, 3, 4, 5, 6, 7, 8, 9]
def vcRlL (o : Rdr) (k : Nat) : Prop :=
  (decide ((↑k : Int) < (↑(List.length (putL o.a o.c)) : Int)) = true → (true && decide ((↑k : Int) < (↑(List.length (putL o.a o.c)) : Int))) = true ∧ decide ((0 : Nat) + Int.toNat (↑k : Int) < List.length (bumpL (putL o.a o.c) k)) = true ∧ (true && decide ((↑k : Int) < (↑(List.length (putL o.a o.c)) : Int))) = true ∧ decide ((0 : Nat) + Int.toNat (↑k : Int) < List.length (bumpL (putL o.a o.c) k)) = true ∧ ∃ (j : Nat), List.length (putL o.a o.c) - j < List.length (putL o.a o.c) - k ∧ ((true = true ∧ (true = true ∧ List.length o.a = List.length o.a ∧ contLe (List.length o.a) (2 : Nat) (cellsOf' encC o.a) (cellsOf' encC o.a)) ∧ (true = true ∧ List.length o.b = List.length o.b ∧ contLe (List.length o.b) (2 : Nat) (cellsOf' encC o.b) (cellsOf' encC o.b)) ∧ ((0 : Nat) = (0 : Nat) ∧ (0 : Nat) = (0 : Nat)) ∧ (true = true ∧ List.length o.ta = List.length o.ta ∧ contLe (List.length o.ta) (1 : Nat) (cellsOf' encU o.ta) (cellsOf' encU o.ta)) ∧ (true = true ∧ List.length o.tb = List.length o.tb ∧ contLe (List.length o.tb) (1 : Nat) (cellsOf' encU o.tb) (cellsOf' encU o.tb)) ∧ ((0 : Nat) = (0 : Nat) ∧ List.length o.a = List.length o.a) ∧ ((0 : Nat) = (0 : Nat) ∧ List.length (putL o.a o.c) = List.length (putL o.a o.c)) ∧ (0 : Int) = (0 : Int) ∧ (0 : Int) = (0 : Int) ∧ true = true ∧ IntKind.wrap IntKind.i64 ((↑k : Int) + (1 : Int)) = (↑j : Int) ∧ True) ∧ ((o.c.name = o.c.name ∧ o.c.off = o.c.off ∧ True) ∧ (List.length o.a = List.length o.a ∧ contLe (List.length o.a) (2 : Nat) (cellsOf' encC o.a) (cellsOf' encC o.a)) ∧ (List.length (bumpL (putL o.a o.c) k) = List.length (bumpL (putL o.a o.c) j) ∧ contLe (List.length (bumpL (putL o.a o.c) k)) (2 : Nat) (wrRow (cellsOf' encC (bumpL (putL o.a o.c) k)) ((0 : Nat) + Int.toNat (↑k : Int)) (1 : Nat) [AV.y (Value.int IntKind.u64 (IntKind.wrap IntKind.u64 ((List.getD (bumpL (putL o.a o.c) k) ((0 : Nat) + Int.toNat (↑k : Int)) (@default Con instInhabitedCon)).off + (1 : Int))))]) (cellsOf' encC (bumpL (putL o.a o.c) j))) ∧ True) ∧ true = true) ∧ true = true ∧ () = ()) ∧ (decide ((↑k : Int) < (↑(List.length (putL o.a o.c)) : Int)) = false → (true = true ∧ (true = true ∧ List.length o.a = List.length o.a ∧ contLe (List.length o.a) (2 : Nat) (cellsOf' encC o.a) (cellsOf' encC o.a)) ∧ (true = true ∧ List.length o.b = List.length o.b ∧ contLe (List.length o.b) (2 : Nat) (cellsOf' encC o.b) (cellsOf' encC o.b)) ∧ ((0 : Nat) = (0 : Nat) ∧ (0 : Nat) = (0 : Nat)) ∧ (true = true ∧ List.length o.ta = List.length o.ta ∧ contLe (List.length o.ta) (1 : Nat) (cellsOf' encU o.ta) (cellsOf' encU o.ta)) ∧ (true = true ∧ List.length o.tb = List.length o.tb ∧ contLe (List.length o.tb) (1 : Nat) (cellsOf' encU o.tb) (cellsOf' encU o.tb)) ∧ ((0 : Nat) = (0 : Nat) ∧ List.length o.a = List.length o.a) ∧ (0 : Int) = (0 : Int) ∧ (0 : Int) = (0 : Int) ∧ true = true ∧ True) ∧ ((o.c.name = o.c.name ∧ o.c.off = o.c.off ∧ True) ∧ (List.length o.a = List.length o.a ∧ contLe (List.length o.a) (2 : Nat) (cellsOf' encC o.a) (cellsOf' encC o.a)) ∧ True) ∧ true = true)
set_option maxRecDepth 1000000 in
theorem vcRlL_eq (o : Rdr) (k : Nat) : (loopVC Tryd.prog (hT _) 8 13 (fun k => (putL o.a o.c).length - k) (rlT o) (rlM o) rlX (fun _ => .ret ()) (rlS o) k) = vcRlL o k := by kernel_rfl
noncomputable def rlC (q : Bool) (o : Rdr) (cs : FuncId → Nat → Nat → List AV → List Blk → Option (Ctr Tryd.prog)) : FuncId → Nat → Nat → List AV → List Blk → Option (Ctr Tryd.prog) :=
  cs1 8 1 0 livesC (cs1 8 16 3 (rdC false o.a o.c.name) (cs1 8 17 3 (rrC true o.a o.c.name) (cs1 8 18 2 (mpC false true o.a o.ta) (cs1 8 18 5 (mrC true true o.a o.ta)
  (cs1 8 18 6 (scC false false (mapU o.a o.ta o.a.length) (mapU o.a o.ta o.a.length)) (cs1 8 19 4 (boP q false true true true o.a o.b o.ta o.tb) (cs1 8 20 4 (rbP q true true true true o.a o.b o.ta o.tb) (cs1 8 22 2 (scC false true o.a o.a)
  (cs1 8 23 36 (nameC o.c.name) (cs1 8 23 39 (nmC o.c.name) (cs1 8 23 44 (coC false o.a) (cs1 8 23 46 (crC true o.a) cs))))))))))))
noncomputable def rl1 (o : Rdr) (cs : FuncId → Nat → Nat → List AV → List Blk → Option (Ctr Tryd.prog)) : FuncId → Nat → Nat → List AV → List Blk → Option (Ctr Tryd.prog) :=
  cs1 8 9 3 (cmP true false o.a o.c o.e) (cs1 8 10 3 (ckP true true o.a o.c o.e) (cs1 8 11 2 (scC false false (putL o.a o.c) (putL o.a o.c)) cs))
noncomputable def rl0 (o : Rdr) (cs : FuncId → Nat → Nat → List AV → List Blk → Option (Ctr Tryd.prog)) : FuncId → Nat → Nat → List AV → List Blk → Option (Ctr Tryd.prog) :=
  cs1 8 9 3 (cmP false false o.a o.c o.e) (cs1 8 10 3 (ckP false true o.a o.c o.e) cs)
noncomputable def rl2 (o : Rdr) : FuncId → Nat → Nat → List AV → List Blk → Option (Ctr Tryd.prog) := cs1 8 21 2 (scC false false (boU o.a o.b o.ta o.tb (o.a ++ o.b).length) (boU o.a o.b o.ta o.tb (o.a ++ o.b).length)) noCs
noncomputable def rlJ (o : Rdr) := lp1 8 13 (jobOf (rlT o) (rlM o) rlX (fun _ => .ret ()) (rlS o) 0) noLp
def vcR11 (o : Rdr) : Prop :=
  True ∧ True ∧ (decide ((0 : Nat) + List.length o.a ≤ (9223372036854775807 : Nat)) && decide (((0 : Nat) + List.length o.a) * (24 : Nat) ≤ (140737488355328 : Nat))) = true ∧ ((false = false ∧ (0 : Nat) + List.length o.a = List.length o.a ∧ contLe ((0 : Nat) + List.length o.a) (2 : Nat) (Ax.rowAt (0 : Nat) (appRow (0 : Nat) (fun (k j : Nat) => AV.junk) (cellsOf' encC o.a))) (cellsOf' encC o.a)) ∧ (o.c.name = o.c.name ∧ o.c.off = o.c.off ∧ True) ∧ o.e = o.e ∧ True) ∧ True ∧ (List.length o.a ≤ (9223372036854775806 : Nat) ∧ (comE o.a o.c o.e == (0 : Int)) = true) ∧ true = true ∧ ((∀ (k : Nat), k < List.length (putL o.a o.c) → ∀ (j : Nat), j < (2 : Nat) → tagT (cellsOf' encC (putL o.a o.c) k j) = true) ∧ True) ∧ ((true = true ∧ List.length o.a = List.length o.a ∧ contLe (List.length o.a) (2 : Nat) (cellsOf' encC o.a) (cellsOf' encC o.a)) ∧ (o.c.name = o.c.name ∧ o.c.off = o.c.off ∧ True) ∧ o.e = o.e ∧ True) ∧ True ∧ (List.length o.a ≤ (9223372036854775806 : Nat) ∧ (comE o.a o.c o.e == (0 : Int)) = true) ∧ ((false = false ∧ List.length (putL o.a o.c) = List.length (putL o.a o.c) ∧ contLe (List.length (putL o.a o.c)) (2 : Nat) (Ax.rowAt (0 : Nat) (cellsOf' encC (putL o.a o.c))) (cellsOf' encC (putL o.a o.c))) ∧ (false = false ∧ List.length (putL o.a o.c) = List.length (putL o.a o.c) ∧ contLe (List.length (putL o.a o.c)) (2 : Nat) (Ax.rowAt (0 : Nat) (cellsOf' encC (putL o.a o.c))) (cellsOf' encC (putL o.a o.c))) ∧ True) ∧ True ∧ (List.length (putL o.a o.c) ≤ (9223372036854775806 : Nat) ∧ putL o.a o.c = putL o.a o.c) ∧ true = true ∧ True ∧ ((true = true ∧ (true = true ∧ List.length o.a = List.length o.a ∧ contLe (List.length o.a) (2 : Nat) (cellsOf' encC o.a) (cellsOf' encC o.a)) ∧ (true = true ∧ List.length o.b = List.length o.b ∧ contLe (List.length o.b) (2 : Nat) (cellsOf' encC o.b) (cellsOf' encC o.b)) ∧ ((0 : Nat) = (0 : Nat) ∧ (0 : Nat) = (0 : Nat)) ∧ (true = true ∧ List.length o.ta = List.length o.ta ∧ contLe (List.length o.ta) (1 : Nat) (cellsOf' encU o.ta) (cellsOf' encU o.ta)) ∧ (true = true ∧ List.length o.tb = List.length o.tb ∧ contLe (List.length o.tb) (1 : Nat) (cellsOf' encU o.tb) (cellsOf' encU o.tb)) ∧ ((0 : Nat) = (0 : Nat) ∧ (0 : Nat) + List.length o.a = List.length o.a) ∧ ((0 : Nat) = (0 : Nat) ∧ List.length (putL o.a o.c) = List.length (putL o.a o.c)) ∧ (0 : Int) = (0 : Int) ∧ (0 : Int) = (0 : Int) ∧ true = true ∧ (0 : Int) = (0 : Int) ∧ True) ∧ ((o.c.name = o.c.name ∧ o.c.off = o.c.off ∧ True) ∧ ((0 : Nat) + List.length o.a = List.length o.a ∧ contLe ((0 : Nat) + List.length o.a) (2 : Nat) (appRow (0 : Nat) (fun (k j : Nat) => AV.junk) (cellsOf' encC o.a)) (cellsOf' encC o.a)) ∧ (List.length (putL o.a o.c) = List.length (bumpL (putL o.a o.c) (0 : Nat)) ∧ contLe (List.length (putL o.a o.c)) (2 : Nat) (cellsOf' encC (putL o.a o.c)) (cellsOf' encC (bumpL (putL o.a o.c) (0 : Nat)))) ∧ True) ∧ true = true) ∧ LoopOk Tryd.prog (8 : Nat) (13 : Nat) (loopAt Tryd.prog (8 : Nat) (13 : Nat)) { t := rlT o (0 : Nat), m := rlM o (0 : Nat), mv := [] : St } (T.map (lout rlX (rlS o)) ((fun (x : Nat) => T.ret ()) (0 : Nat))) ∧ ((false = false ∧ List.length o.a = List.length o.a ∧ contLe (List.length o.a) (2 : Nat) (Ax.rowAt (0 : Nat) (cellsOf' encC o.a)) (cellsOf' encC o.a)) ∧ o.c.name = o.c.name ∧ True) ∧ True ∧ List.length o.a ≤ (9223372036854775806 : Nat) ∧ true = true ∧ True ∧ ((true = true ∧ List.length o.a = List.length o.a ∧ contLe (List.length o.a) (2 : Nat) (cellsOf' encC o.a) (cellsOf' encC o.a)) ∧ o.c.name = o.c.name ∧ True) ∧ True ∧ List.length o.a ≤ (9223372036854775806 : Nat) ∧ ((false = false ∧ List.length o.a = List.length o.a ∧ contLe (List.length o.a) (2 : Nat) (Ax.rowAt (0 : Nat) (cellsOf' encC o.a)) (cellsOf' encC o.a)) ∧ (true = true ∧ List.length o.ta = List.length o.ta ∧ contLe (List.length o.ta) (1 : Nat) (cellsOf' encU o.ta) (cellsOf' encU o.ta)) ∧ True) ∧ True ∧ (List.length o.ta ≤ (9223372036854775806 : Nat) ∧ List.length o.a * (24 : Nat) ≤ (140737488355200 : Nat) ∧ ∀ (x : Con), x ∈ o.a → (0 : Int) ≤ x.off ∧ x.off < (18446744073709551616 : Int)) ∧ true = true ∧ ((∀ (k : Nat), k < List.length (mapU o.a o.ta (List.length o.a)) → ∀ (j : Nat), j < (2 : Nat) → tagT (cellsOf' encC (mapU o.a o.ta (List.length o.a)) k j) = true) ∧ True) ∧ ((true = true ∧ List.length o.a = List.length o.a ∧ contLe (List.length o.a) (2 : Nat) (cellsOf' encC o.a) (cellsOf' encC o.a)) ∧ (true = true ∧ List.length o.ta = List.length o.ta ∧ contLe (List.length o.ta) (1 : Nat) (cellsOf' encU o.ta) (cellsOf' encU o.ta)) ∧ True) ∧ True ∧ (List.length o.ta ≤ (9223372036854775806 : Nat) ∧ List.length o.a * (24 : Nat) ≤ (140737488355200 : Nat) ∧ ∀ (x : Con), x ∈ o.a → (0 : Int) ≤ x.off ∧ x.off < (18446744073709551616 : Int)) ∧ ((false = false ∧ List.length (mapU o.a o.ta (List.length o.a)) = List.length (mapU o.a o.ta (List.length o.a)) ∧ contLe (List.length (mapU o.a o.ta (List.length o.a))) (2 : Nat) (Ax.rowAt (0 : Nat) (cellsOf' encC (mapU o.a o.ta (List.length o.a)))) (cellsOf' encC (mapU o.a o.ta (List.length o.a)))) ∧ (false = false ∧ List.length (mapU o.a o.ta (List.length o.a)) = List.length (mapU o.a o.ta (List.length o.a)) ∧ contLe (List.length (mapU o.a o.ta (List.length o.a))) (2 : Nat) (Ax.rowAt (0 : Nat) (cellsOf' encC (mapU o.a o.ta (List.length o.a)))) (cellsOf' encC (mapU o.a o.ta (List.length o.a)))) ∧ True) ∧ True ∧ (List.length (mapU o.a o.ta (List.length o.a)) ≤ (9223372036854775806 : Nat) ∧ mapU o.a o.ta (List.length o.a) = mapU o.a o.ta (List.length o.a)) ∧ true = true ∧ True ∧ ((false = false ∧ List.length o.a = List.length o.a ∧ contLe (List.length o.a) (2 : Nat) (Ax.rowAt (0 : Nat) (cellsOf' encC o.a)) (cellsOf' encC o.a)) ∧ (true = true ∧ List.length o.b = List.length o.b ∧ contLe (List.length o.b) (2 : Nat) (cellsOf' encC o.b) (cellsOf' encC o.b)) ∧ (true = true ∧ List.length o.ta = List.length o.ta ∧ contLe (List.length o.ta) (1 : Nat) (cellsOf' encU o.ta) (cellsOf' encU o.ta)) ∧ (true = true ∧ List.length o.tb = List.length o.tb ∧ contLe (List.length o.tb) (1 : Nat) (cellsOf' encU o.tb) (cellsOf' encU o.tb)) ∧ True) ∧ True ∧ ((List.length o.a ≤ (9223372036854775806 : Nat) ∧ List.length o.b ≤ (9223372036854775806 : Nat) ∧ (∀ (x : Con), x ∈ o.a → (0 : Int) ≤ x.off ∧ x.off < (18446744073709551616 : Int)) ∧ (∀ (x : Con), x ∈ o.b → (0 : Int) ≤ x.off ∧ x.off < (18446744073709551616 : Int)) ∧ List.length o.ta ≤ (9223372036854775806 : Nat) ∧ List.length o.tb ≤ (9223372036854775806 : Nat)) ∧ (bothE o.a o.b o.ta o.tb == (0 : Int)) = true) ∧ true = true ∧ ((∀ (k : Nat), k < List.length (boU o.a o.b o.ta o.tb (List.length (o.a ++ o.b))) → ∀ (j : Nat), j < (2 : Nat) → tagT (cellsOf' encC (boU o.a o.b o.ta o.tb (List.length (o.a ++ o.b))) k j) = true) ∧ True) ∧ ((true = true ∧ List.length o.a = List.length o.a ∧ contLe (List.length o.a) (2 : Nat) (cellsOf' encC o.a) (cellsOf' encC o.a)) ∧ (true = true ∧ List.length o.b = List.length o.b ∧ contLe (List.length o.b) (2 : Nat) (cellsOf' encC o.b) (cellsOf' encC o.b)) ∧ (true = true ∧ List.length o.ta = List.length o.ta ∧ contLe (List.length o.ta) (1 : Nat) (cellsOf' encU o.ta) (cellsOf' encU o.ta)) ∧ (true = true ∧ List.length o.tb = List.length o.tb ∧ contLe (List.length o.tb) (1 : Nat) (cellsOf' encU o.tb) (cellsOf' encU o.tb)) ∧ True) ∧ True ∧ ((List.length o.a ≤ (9223372036854775806 : Nat) ∧ List.length o.b ≤ (9223372036854775806 : Nat) ∧ (∀ (x : Con), x ∈ o.a → (0 : Int) ≤ x.off ∧ x.off < (18446744073709551616 : Int)) ∧ (∀ (x : Con), x ∈ o.b → (0 : Int) ≤ x.off ∧ x.off < (18446744073709551616 : Int)) ∧ List.length o.ta ≤ (9223372036854775806 : Nat) ∧ List.length o.tb ≤ (9223372036854775806 : Nat)) ∧ (bothE o.a o.b o.ta o.tb == (0 : Int)) = true) ∧ ((false = false ∧ List.length (boU o.a o.b o.ta o.tb (List.length (o.a ++ o.b))) = List.length (boU o.a o.b o.ta o.tb (List.length (o.a ++ o.b))) ∧ contLe (List.length (boU o.a o.b o.ta o.tb (List.length (o.a ++ o.b)))) (2 : Nat) (Ax.rowAt (0 : Nat) (cellsOf' encC (boU o.a o.b o.ta o.tb (List.length (o.a ++ o.b))))) (cellsOf' encC (boU o.a o.b o.ta o.tb (List.length (o.a ++ o.b))))) ∧ (false = false ∧ List.length (boU o.a o.b o.ta o.tb (List.length (o.a ++ o.b))) = List.length (boU o.a o.b o.ta o.tb (List.length (o.a ++ o.b))) ∧ contLe (List.length (boU o.a o.b o.ta o.tb (List.length (o.a ++ o.b)))) (2 : Nat) (Ax.rowAt (0 : Nat) (cellsOf' encC (boU o.a o.b o.ta o.tb (List.length (o.a ++ o.b))))) (cellsOf' encC (boU o.a o.b o.ta o.tb (List.length (o.a ++ o.b))))) ∧ True) ∧ True ∧ (List.length (boU o.a o.b o.ta o.tb (List.length (o.a ++ o.b))) ≤ (9223372036854775806 : Nat) ∧ boU o.a o.b o.ta o.tb (List.length (o.a ++ o.b)) = boU o.a o.b o.ta o.tb (List.length (o.a ++ o.b))) ∧ true = true ∧ True ∧ ((false = false ∧ List.length o.a = List.length o.a ∧ contLe (List.length o.a) (2 : Nat) (Ax.rowAt (0 : Nat) (cellsOf' encC o.a)) (cellsOf' encC o.a)) ∧ (true = true ∧ List.length o.a = List.length o.a ∧ contLe (List.length o.a) (2 : Nat) (cellsOf' encC o.a) (cellsOf' encC o.a)) ∧ True) ∧ True ∧ (List.length o.a ≤ (9223372036854775806 : Nat) ∧ o.a = o.a) ∧ true = true ∧ True ∧ (true = true → (true = true → (true = true → (true = true → (true = true → ((readO o.a o.c.name == readO o.a o.c.name) = true → ((inC o.a o.c.name == inC o.a o.c.name) = true → (o.c.name = o.c.name ∧ True) ∧ True ∧ (o.c.name = o.c.name ∧ True) ∧ True ∧ ((nameOk o.c.name == nameOk o.c.name) = true → ((false = false ∧ List.length o.a = List.length o.a ∧ contLe (List.length o.a) (2 : Nat) (Ax.rowAt (0 : Nat) (cellsOf' encC o.a)) (cellsOf' encC o.a)) ∧ True) ∧ True ∧ List.length o.a ≤ (9223372036854775806 : Nat) ∧ true = true ∧ True ∧ ((true = true ∧ List.length o.a = List.length o.a ∧ contLe (List.length o.a) (2 : Nat) (cellsOf' encC o.a) (cellsOf' encC o.a)) ∧ True) ∧ True ∧ List.length o.a ≤ (9223372036854775806 : Nat) ∧ (isCons o.a == isCons o.a) = true ∧ True) ∧ ((nameOk o.c.name == nameOk o.c.name) = false → false = true ∧ True)) ∧ ((inC o.a o.c.name == inC o.a o.c.name) = false → false = true ∧ True)) ∧ ((readO o.a o.c.name == readO o.a o.c.name) = false → false = true ∧ True)) ∧ (true = false → false = true ∧ True)) ∧ (true = false → false = true ∧ True)) ∧ (true = false → false = true ∧ True)) ∧ (true = false → false = true ∧ True)) ∧ (true = false → false = true ∧ True)
set_option maxRecDepth 1000000 in
theorem vcR11_eq (o : Rdr) : (ctrVC Tryd.prog (hh _ (rlJ o) (rlC true o (rl1 o (rl2 o))) noOp) 8 [.agg (encO o)] [] (boolR true)) = vcR11 o := by kernel_rfl
def vcR10 (o : Rdr) : Prop :=
  True ∧ True ∧ (decide ((0 : Nat) + List.length o.a ≤ (9223372036854775807 : Nat)) && decide (((0 : Nat) + List.length o.a) * (24 : Nat) ≤ (140737488355328 : Nat))) = true ∧ ((false = false ∧ (0 : Nat) + List.length o.a = List.length o.a ∧ contLe ((0 : Nat) + List.length o.a) (2 : Nat) (Ax.rowAt (0 : Nat) (appRow (0 : Nat) (fun (k j : Nat) => AV.junk) (cellsOf' encC o.a))) (cellsOf' encC o.a)) ∧ (o.c.name = o.c.name ∧ o.c.off = o.c.off ∧ True) ∧ o.e = o.e ∧ True) ∧ True ∧ (List.length o.a ≤ (9223372036854775806 : Nat) ∧ (comE o.a o.c o.e == (0 : Int)) = true) ∧ true = true ∧ ((∀ (k : Nat), k < List.length (putL o.a o.c) → ∀ (j : Nat), j < (2 : Nat) → tagT (cellsOf' encC (putL o.a o.c) k j) = true) ∧ True) ∧ ((true = true ∧ List.length o.a = List.length o.a ∧ contLe (List.length o.a) (2 : Nat) (cellsOf' encC o.a) (cellsOf' encC o.a)) ∧ (o.c.name = o.c.name ∧ o.c.off = o.c.off ∧ True) ∧ o.e = o.e ∧ True) ∧ True ∧ (List.length o.a ≤ (9223372036854775806 : Nat) ∧ (comE o.a o.c o.e == (0 : Int)) = true) ∧ ((false = false ∧ List.length (putL o.a o.c) = List.length (putL o.a o.c) ∧ contLe (List.length (putL o.a o.c)) (2 : Nat) (Ax.rowAt (0 : Nat) (cellsOf' encC (putL o.a o.c))) (cellsOf' encC (putL o.a o.c))) ∧ (false = false ∧ List.length (putL o.a o.c) = List.length (putL o.a o.c) ∧ contLe (List.length (putL o.a o.c)) (2 : Nat) (Ax.rowAt (0 : Nat) (cellsOf' encC (putL o.a o.c))) (cellsOf' encC (putL o.a o.c))) ∧ True) ∧ True ∧ (List.length (putL o.a o.c) ≤ (9223372036854775806 : Nat) ∧ putL o.a o.c = putL o.a o.c) ∧ true = true ∧ True ∧ ((true = true ∧ (true = true ∧ List.length o.a = List.length o.a ∧ contLe (List.length o.a) (2 : Nat) (cellsOf' encC o.a) (cellsOf' encC o.a)) ∧ (true = true ∧ List.length o.b = List.length o.b ∧ contLe (List.length o.b) (2 : Nat) (cellsOf' encC o.b) (cellsOf' encC o.b)) ∧ ((0 : Nat) = (0 : Nat) ∧ (0 : Nat) = (0 : Nat)) ∧ (true = true ∧ List.length o.ta = List.length o.ta ∧ contLe (List.length o.ta) (1 : Nat) (cellsOf' encU o.ta) (cellsOf' encU o.ta)) ∧ (true = true ∧ List.length o.tb = List.length o.tb ∧ contLe (List.length o.tb) (1 : Nat) (cellsOf' encU o.tb) (cellsOf' encU o.tb)) ∧ ((0 : Nat) = (0 : Nat) ∧ (0 : Nat) + List.length o.a = List.length o.a) ∧ ((0 : Nat) = (0 : Nat) ∧ List.length (putL o.a o.c) = List.length (putL o.a o.c)) ∧ (0 : Int) = (0 : Int) ∧ (0 : Int) = (0 : Int) ∧ true = true ∧ (0 : Int) = (0 : Int) ∧ True) ∧ ((o.c.name = o.c.name ∧ o.c.off = o.c.off ∧ True) ∧ ((0 : Nat) + List.length o.a = List.length o.a ∧ contLe ((0 : Nat) + List.length o.a) (2 : Nat) (appRow (0 : Nat) (fun (k j : Nat) => AV.junk) (cellsOf' encC o.a)) (cellsOf' encC o.a)) ∧ (List.length (putL o.a o.c) = List.length (bumpL (putL o.a o.c) (0 : Nat)) ∧ contLe (List.length (putL o.a o.c)) (2 : Nat) (cellsOf' encC (putL o.a o.c)) (cellsOf' encC (bumpL (putL o.a o.c) (0 : Nat)))) ∧ True) ∧ true = true) ∧ LoopOk Tryd.prog (8 : Nat) (13 : Nat) (loopAt Tryd.prog (8 : Nat) (13 : Nat)) { t := rlT o (0 : Nat), m := rlM o (0 : Nat), mv := [] : St } (T.map (lout rlX (rlS o)) ((fun (x : Nat) => T.ret ()) (0 : Nat))) ∧ ((false = false ∧ List.length o.a = List.length o.a ∧ contLe (List.length o.a) (2 : Nat) (Ax.rowAt (0 : Nat) (cellsOf' encC o.a)) (cellsOf' encC o.a)) ∧ o.c.name = o.c.name ∧ True) ∧ True ∧ List.length o.a ≤ (9223372036854775806 : Nat) ∧ true = true ∧ True ∧ ((true = true ∧ List.length o.a = List.length o.a ∧ contLe (List.length o.a) (2 : Nat) (cellsOf' encC o.a) (cellsOf' encC o.a)) ∧ o.c.name = o.c.name ∧ True) ∧ True ∧ List.length o.a ≤ (9223372036854775806 : Nat) ∧ ((false = false ∧ List.length o.a = List.length o.a ∧ contLe (List.length o.a) (2 : Nat) (Ax.rowAt (0 : Nat) (cellsOf' encC o.a)) (cellsOf' encC o.a)) ∧ (true = true ∧ List.length o.ta = List.length o.ta ∧ contLe (List.length o.ta) (1 : Nat) (cellsOf' encU o.ta) (cellsOf' encU o.ta)) ∧ True) ∧ True ∧ (List.length o.ta ≤ (9223372036854775806 : Nat) ∧ List.length o.a * (24 : Nat) ≤ (140737488355200 : Nat) ∧ ∀ (x : Con), x ∈ o.a → (0 : Int) ≤ x.off ∧ x.off < (18446744073709551616 : Int)) ∧ true = true ∧ ((∀ (k : Nat), k < List.length (mapU o.a o.ta (List.length o.a)) → ∀ (j : Nat), j < (2 : Nat) → tagT (cellsOf' encC (mapU o.a o.ta (List.length o.a)) k j) = true) ∧ True) ∧ ((true = true ∧ List.length o.a = List.length o.a ∧ contLe (List.length o.a) (2 : Nat) (cellsOf' encC o.a) (cellsOf' encC o.a)) ∧ (true = true ∧ List.length o.ta = List.length o.ta ∧ contLe (List.length o.ta) (1 : Nat) (cellsOf' encU o.ta) (cellsOf' encU o.ta)) ∧ True) ∧ True ∧ (List.length o.ta ≤ (9223372036854775806 : Nat) ∧ List.length o.a * (24 : Nat) ≤ (140737488355200 : Nat) ∧ ∀ (x : Con), x ∈ o.a → (0 : Int) ≤ x.off ∧ x.off < (18446744073709551616 : Int)) ∧ ((false = false ∧ List.length (mapU o.a o.ta (List.length o.a)) = List.length (mapU o.a o.ta (List.length o.a)) ∧ contLe (List.length (mapU o.a o.ta (List.length o.a))) (2 : Nat) (Ax.rowAt (0 : Nat) (cellsOf' encC (mapU o.a o.ta (List.length o.a)))) (cellsOf' encC (mapU o.a o.ta (List.length o.a)))) ∧ (false = false ∧ List.length (mapU o.a o.ta (List.length o.a)) = List.length (mapU o.a o.ta (List.length o.a)) ∧ contLe (List.length (mapU o.a o.ta (List.length o.a))) (2 : Nat) (Ax.rowAt (0 : Nat) (cellsOf' encC (mapU o.a o.ta (List.length o.a)))) (cellsOf' encC (mapU o.a o.ta (List.length o.a)))) ∧ True) ∧ True ∧ (List.length (mapU o.a o.ta (List.length o.a)) ≤ (9223372036854775806 : Nat) ∧ mapU o.a o.ta (List.length o.a) = mapU o.a o.ta (List.length o.a)) ∧ true = true ∧ True ∧ ((false = false ∧ List.length o.a = List.length o.a ∧ contLe (List.length o.a) (2 : Nat) (Ax.rowAt (0 : Nat) (cellsOf' encC o.a)) (cellsOf' encC o.a)) ∧ (true = true ∧ List.length o.b = List.length o.b ∧ contLe (List.length o.b) (2 : Nat) (cellsOf' encC o.b) (cellsOf' encC o.b)) ∧ (true = true ∧ List.length o.ta = List.length o.ta ∧ contLe (List.length o.ta) (1 : Nat) (cellsOf' encU o.ta) (cellsOf' encU o.ta)) ∧ (true = true ∧ List.length o.tb = List.length o.tb ∧ contLe (List.length o.tb) (1 : Nat) (cellsOf' encU o.tb) (cellsOf' encU o.tb)) ∧ True) ∧ True ∧ ((List.length o.a ≤ (9223372036854775806 : Nat) ∧ List.length o.b ≤ (9223372036854775806 : Nat) ∧ (∀ (x : Con), x ∈ o.a → (0 : Int) ≤ x.off ∧ x.off < (18446744073709551616 : Int)) ∧ (∀ (x : Con), x ∈ o.b → (0 : Int) ≤ x.off ∧ x.off < (18446744073709551616 : Int)) ∧ List.length o.ta ≤ (9223372036854775806 : Nat) ∧ List.length o.tb ≤ (9223372036854775806 : Nat)) ∧ (bothE o.a o.b o.ta o.tb == (0 : Int)) = false) ∧ true = true ∧ True ∧ ((true = true ∧ List.length o.a = List.length o.a ∧ contLe (List.length o.a) (2 : Nat) (cellsOf' encC o.a) (cellsOf' encC o.a)) ∧ (true = true ∧ List.length o.b = List.length o.b ∧ contLe (List.length o.b) (2 : Nat) (cellsOf' encC o.b) (cellsOf' encC o.b)) ∧ (true = true ∧ List.length o.ta = List.length o.ta ∧ contLe (List.length o.ta) (1 : Nat) (cellsOf' encU o.ta) (cellsOf' encU o.ta)) ∧ (true = true ∧ List.length o.tb = List.length o.tb ∧ contLe (List.length o.tb) (1 : Nat) (cellsOf' encU o.tb) (cellsOf' encU o.tb)) ∧ True) ∧ True ∧ ((List.length o.a ≤ (9223372036854775806 : Nat) ∧ List.length o.b ≤ (9223372036854775806 : Nat) ∧ (∀ (x : Con), x ∈ o.a → (0 : Int) ≤ x.off ∧ x.off < (18446744073709551616 : Int)) ∧ (∀ (x : Con), x ∈ o.b → (0 : Int) ≤ x.off ∧ x.off < (18446744073709551616 : Int)) ∧ List.length o.ta ≤ (9223372036854775806 : Nat) ∧ List.length o.tb ≤ (9223372036854775806 : Nat)) ∧ (bothE o.a o.b o.ta o.tb == (0 : Int)) = false) ∧ ((false = false ∧ List.length o.a = List.length o.a ∧ contLe (List.length o.a) (2 : Nat) (Ax.rowAt (0 : Nat) (cellsOf' encC o.a)) (cellsOf' encC o.a)) ∧ (true = true ∧ List.length o.a = List.length o.a ∧ contLe (List.length o.a) (2 : Nat) (cellsOf' encC o.a) (cellsOf' encC o.a)) ∧ True) ∧ True ∧ (List.length o.a ≤ (9223372036854775806 : Nat) ∧ o.a = o.a) ∧ true = true ∧ True ∧ (true = true → (true = true → (true = true → (true = true → ((readO o.a o.c.name == readO o.a o.c.name) = true → ((inC o.a o.c.name == inC o.a o.c.name) = true → ((bothE o.a o.b o.ta o.tb == bothE o.a o.b o.ta o.tb) = true → (o.c.name = o.c.name ∧ True) ∧ True ∧ (o.c.name = o.c.name ∧ True) ∧ True ∧ ((nameOk o.c.name == nameOk o.c.name) = true → ((false = false ∧ List.length o.a = List.length o.a ∧ contLe (List.length o.a) (2 : Nat) (Ax.rowAt (0 : Nat) (cellsOf' encC o.a)) (cellsOf' encC o.a)) ∧ True) ∧ True ∧ List.length o.a ≤ (9223372036854775806 : Nat) ∧ true = true ∧ True ∧ ((true = true ∧ List.length o.a = List.length o.a ∧ contLe (List.length o.a) (2 : Nat) (cellsOf' encC o.a) (cellsOf' encC o.a)) ∧ True) ∧ True ∧ List.length o.a ≤ (9223372036854775806 : Nat) ∧ (isCons o.a == isCons o.a) = true ∧ True) ∧ ((nameOk o.c.name == nameOk o.c.name) = false → false = true ∧ True)) ∧ ((bothE o.a o.b o.ta o.tb == bothE o.a o.b o.ta o.tb) = false → false = true ∧ True)) ∧ ((inC o.a o.c.name == inC o.a o.c.name) = false → false = true ∧ True)) ∧ ((readO o.a o.c.name == readO o.a o.c.name) = false → false = true ∧ True)) ∧ (true = false → false = true ∧ True)) ∧ (true = false → false = true ∧ True)) ∧ (true = false → false = true ∧ True)) ∧ (true = false → false = true ∧ True)
set_option maxRecDepth 1000000 in
theorem vcR10_eq (o : Rdr) : (ctrVC Tryd.prog (hh _ (rlJ o) (rlC false o (rl1 o noCs)) noOp) 8 [.agg (encO o)] [] (boolR true)) = vcR10 o := by kernel_rfl
def vcR01 (o : Rdr) : Prop :=
  True ∧ True ∧ (decide ((0 : Nat) + List.length o.a ≤ (9223372036854775807 : Nat)) && decide (((0 : Nat) + List.length o.a) * (24 : Nat) ≤ (140737488355328 : Nat))) = true ∧ ((false = false ∧ (0 : Nat) + List.length o.a = List.length o.a ∧ contLe ((0 : Nat) + List.length o.a) (2 : Nat) (Ax.rowAt (0 : Nat) (appRow (0 : Nat) (fun (k j : Nat) => AV.junk) (cellsOf' encC o.a))) (cellsOf' encC o.a)) ∧ (o.c.name = o.c.name ∧ o.c.off = o.c.off ∧ True) ∧ o.e = o.e ∧ True) ∧ True ∧ (List.length o.a ≤ (9223372036854775806 : Nat) ∧ (comE o.a o.c o.e == (0 : Int)) = false) ∧ true = true ∧ True ∧ ((true = true ∧ List.length o.a = List.length o.a ∧ contLe (List.length o.a) (2 : Nat) (cellsOf' encC o.a) (cellsOf' encC o.a)) ∧ (o.c.name = o.c.name ∧ o.c.off = o.c.off ∧ True) ∧ o.e = o.e ∧ True) ∧ True ∧ (List.length o.a ≤ (9223372036854775806 : Nat) ∧ (comE o.a o.c o.e == (0 : Int)) = false) ∧ ((false = false ∧ (0 : Nat) + List.length o.a = List.length o.a ∧ contLe ((0 : Nat) + List.length o.a) (2 : Nat) (Ax.rowAt (0 : Nat) (appRow (0 : Nat) (fun (k j : Nat) => AV.junk) (cellsOf' encC o.a))) (cellsOf' encC o.a)) ∧ o.c.name = o.c.name ∧ True) ∧ True ∧ List.length o.a ≤ (9223372036854775806 : Nat) ∧ true = true ∧ True ∧ ((true = true ∧ List.length o.a = List.length o.a ∧ contLe (List.length o.a) (2 : Nat) (cellsOf' encC o.a) (cellsOf' encC o.a)) ∧ o.c.name = o.c.name ∧ True) ∧ True ∧ List.length o.a ≤ (9223372036854775806 : Nat) ∧ ((false = false ∧ (0 : Nat) + List.length o.a = List.length o.a ∧ contLe ((0 : Nat) + List.length o.a) (2 : Nat) (Ax.rowAt (0 : Nat) (appRow (0 : Nat) (fun (k j : Nat) => AV.junk) (cellsOf' encC o.a))) (cellsOf' encC o.a)) ∧ (true = true ∧ List.length o.ta = List.length o.ta ∧ contLe (List.length o.ta) (1 : Nat) (cellsOf' encU o.ta) (cellsOf' encU o.ta)) ∧ True) ∧ True ∧ (List.length o.ta ≤ (9223372036854775806 : Nat) ∧ List.length o.a * (24 : Nat) ≤ (140737488355200 : Nat) ∧ ∀ (x : Con), x ∈ o.a → (0 : Int) ≤ x.off ∧ x.off < (18446744073709551616 : Int)) ∧ true = true ∧ ((∀ (k : Nat), k < List.length (mapU o.a o.ta (List.length o.a)) → ∀ (j : Nat), j < (2 : Nat) → tagT (cellsOf' encC (mapU o.a o.ta (List.length o.a)) k j) = true) ∧ True) ∧ ((true = true ∧ List.length o.a = List.length o.a ∧ contLe (List.length o.a) (2 : Nat) (cellsOf' encC o.a) (cellsOf' encC o.a)) ∧ (true = true ∧ List.length o.ta = List.length o.ta ∧ contLe (List.length o.ta) (1 : Nat) (cellsOf' encU o.ta) (cellsOf' encU o.ta)) ∧ True) ∧ True ∧ (List.length o.ta ≤ (9223372036854775806 : Nat) ∧ List.length o.a * (24 : Nat) ≤ (140737488355200 : Nat) ∧ ∀ (x : Con), x ∈ o.a → (0 : Int) ≤ x.off ∧ x.off < (18446744073709551616 : Int)) ∧ ((false = false ∧ List.length (mapU o.a o.ta (List.length o.a)) = List.length (mapU o.a o.ta (List.length o.a)) ∧ contLe (List.length (mapU o.a o.ta (List.length o.a))) (2 : Nat) (Ax.rowAt (0 : Nat) (cellsOf' encC (mapU o.a o.ta (List.length o.a)))) (cellsOf' encC (mapU o.a o.ta (List.length o.a)))) ∧ (false = false ∧ List.length (mapU o.a o.ta (List.length o.a)) = List.length (mapU o.a o.ta (List.length o.a)) ∧ contLe (List.length (mapU o.a o.ta (List.length o.a))) (2 : Nat) (Ax.rowAt (0 : Nat) (cellsOf' encC (mapU o.a o.ta (List.length o.a)))) (cellsOf' encC (mapU o.a o.ta (List.length o.a)))) ∧ True) ∧ True ∧ (List.length (mapU o.a o.ta (List.length o.a)) ≤ (9223372036854775806 : Nat) ∧ mapU o.a o.ta (List.length o.a) = mapU o.a o.ta (List.length o.a)) ∧ true = true ∧ True ∧ ((false = false ∧ (0 : Nat) + List.length o.a = List.length o.a ∧ contLe ((0 : Nat) + List.length o.a) (2 : Nat) (Ax.rowAt (0 : Nat) (appRow (0 : Nat) (fun (k j : Nat) => AV.junk) (cellsOf' encC o.a))) (cellsOf' encC o.a)) ∧ (true = true ∧ List.length o.b = List.length o.b ∧ contLe (List.length o.b) (2 : Nat) (cellsOf' encC o.b) (cellsOf' encC o.b)) ∧ (true = true ∧ List.length o.ta = List.length o.ta ∧ contLe (List.length o.ta) (1 : Nat) (cellsOf' encU o.ta) (cellsOf' encU o.ta)) ∧ (true = true ∧ List.length o.tb = List.length o.tb ∧ contLe (List.length o.tb) (1 : Nat) (cellsOf' encU o.tb) (cellsOf' encU o.tb)) ∧ True) ∧ True ∧ ((List.length o.a ≤ (9223372036854775806 : Nat) ∧ List.length o.b ≤ (9223372036854775806 : Nat) ∧ (∀ (x : Con), x ∈ o.a → (0 : Int) ≤ x.off ∧ x.off < (18446744073709551616 : Int)) ∧ (∀ (x : Con), x ∈ o.b → (0 : Int) ≤ x.off ∧ x.off < (18446744073709551616 : Int)) ∧ List.length o.ta ≤ (9223372036854775806 : Nat) ∧ List.length o.tb ≤ (9223372036854775806 : Nat)) ∧ (bothE o.a o.b o.ta o.tb == (0 : Int)) = true) ∧ true = true ∧ ((∀ (k : Nat), k < List.length (boU o.a o.b o.ta o.tb (List.length (o.a ++ o.b))) → ∀ (j : Nat), j < (2 : Nat) → tagT (cellsOf' encC (boU o.a o.b o.ta o.tb (List.length (o.a ++ o.b))) k j) = true) ∧ True) ∧ ((true = true ∧ List.length o.a = List.length o.a ∧ contLe (List.length o.a) (2 : Nat) (cellsOf' encC o.a) (cellsOf' encC o.a)) ∧ (true = true ∧ List.length o.b = List.length o.b ∧ contLe (List.length o.b) (2 : Nat) (cellsOf' encC o.b) (cellsOf' encC o.b)) ∧ (true = true ∧ List.length o.ta = List.length o.ta ∧ contLe (List.length o.ta) (1 : Nat) (cellsOf' encU o.ta) (cellsOf' encU o.ta)) ∧ (true = true ∧ List.length o.tb = List.length o.tb ∧ contLe (List.length o.tb) (1 : Nat) (cellsOf' encU o.tb) (cellsOf' encU o.tb)) ∧ True) ∧ True ∧ ((List.length o.a ≤ (9223372036854775806 : Nat) ∧ List.length o.b ≤ (9223372036854775806 : Nat) ∧ (∀ (x : Con), x ∈ o.a → (0 : Int) ≤ x.off ∧ x.off < (18446744073709551616 : Int)) ∧ (∀ (x : Con), x ∈ o.b → (0 : Int) ≤ x.off ∧ x.off < (18446744073709551616 : Int)) ∧ List.length o.ta ≤ (9223372036854775806 : Nat) ∧ List.length o.tb ≤ (9223372036854775806 : Nat)) ∧ (bothE o.a o.b o.ta o.tb == (0 : Int)) = true) ∧ ((false = false ∧ List.length (boU o.a o.b o.ta o.tb (List.length (o.a ++ o.b))) = List.length (boU o.a o.b o.ta o.tb (List.length (o.a ++ o.b))) ∧ contLe (List.length (boU o.a o.b o.ta o.tb (List.length (o.a ++ o.b)))) (2 : Nat) (Ax.rowAt (0 : Nat) (cellsOf' encC (boU o.a o.b o.ta o.tb (List.length (o.a ++ o.b))))) (cellsOf' encC (boU o.a o.b o.ta o.tb (List.length (o.a ++ o.b))))) ∧ (false = false ∧ List.length (boU o.a o.b o.ta o.tb (List.length (o.a ++ o.b))) = List.length (boU o.a o.b o.ta o.tb (List.length (o.a ++ o.b))) ∧ contLe (List.length (boU o.a o.b o.ta o.tb (List.length (o.a ++ o.b)))) (2 : Nat) (Ax.rowAt (0 : Nat) (cellsOf' encC (boU o.a o.b o.ta o.tb (List.length (o.a ++ o.b))))) (cellsOf' encC (boU o.a o.b o.ta o.tb (List.length (o.a ++ o.b))))) ∧ True) ∧ True ∧ (List.length (boU o.a o.b o.ta o.tb (List.length (o.a ++ o.b))) ≤ (9223372036854775806 : Nat) ∧ boU o.a o.b o.ta o.tb (List.length (o.a ++ o.b)) = boU o.a o.b o.ta o.tb (List.length (o.a ++ o.b))) ∧ true = true ∧ True ∧ ((false = false ∧ (0 : Nat) + List.length o.a = List.length o.a ∧ contLe ((0 : Nat) + List.length o.a) (2 : Nat) (Ax.rowAt (0 : Nat) (appRow (0 : Nat) (fun (k j : Nat) => AV.junk) (cellsOf' encC o.a))) (cellsOf' encC o.a)) ∧ (true = true ∧ List.length o.a = List.length o.a ∧ contLe (List.length o.a) (2 : Nat) (cellsOf' encC o.a) (cellsOf' encC o.a)) ∧ True) ∧ True ∧ (List.length o.a ≤ (9223372036854775806 : Nat) ∧ o.a = o.a) ∧ true = true ∧ True ∧ (true = true → (true = true → (true = true → (true = true → ((comE o.a o.c o.e == comE o.a o.c o.e) = true → ((readO o.a o.c.name == readO o.a o.c.name) = true → ((inC o.a o.c.name == inC o.a o.c.name) = true → (o.c.name = o.c.name ∧ True) ∧ True ∧ (o.c.name = o.c.name ∧ True) ∧ True ∧ ((nameOk o.c.name == nameOk o.c.name) = true → ((false = false ∧ (0 : Nat) + List.length o.a = List.length o.a ∧ contLe ((0 : Nat) + List.length o.a) (2 : Nat) (Ax.rowAt (0 : Nat) (appRow (0 : Nat) (fun (k j : Nat) => AV.junk) (cellsOf' encC o.a))) (cellsOf' encC o.a)) ∧ True) ∧ True ∧ List.length o.a ≤ (9223372036854775806 : Nat) ∧ true = true ∧ True ∧ ((true = true ∧ List.length o.a = List.length o.a ∧ contLe (List.length o.a) (2 : Nat) (cellsOf' encC o.a) (cellsOf' encC o.a)) ∧ True) ∧ True ∧ List.length o.a ≤ (9223372036854775806 : Nat) ∧ (isCons o.a == isCons o.a) = true ∧ True) ∧ ((nameOk o.c.name == nameOk o.c.name) = false → false = true ∧ True)) ∧ ((inC o.a o.c.name == inC o.a o.c.name) = false → false = true ∧ True)) ∧ ((readO o.a o.c.name == readO o.a o.c.name) = false → false = true ∧ True)) ∧ ((comE o.a o.c o.e == comE o.a o.c o.e) = false → false = true ∧ True)) ∧ (true = false → false = true ∧ True)) ∧ (true = false → false = true ∧ True)) ∧ (true = false → false = true ∧ True)) ∧ (true = false → false = true ∧ True)
set_option maxRecDepth 1000000 in
theorem vcR01_eq (o : Rdr) : (ctrVC Tryd.prog (hh _ noLp (rlC true o (rl0 o (rl2 o))) noOp) 8 [.agg (encO o)] [] (boolR true)) = vcR01 o := by kernel_rfl
def vcR00 (o : Rdr) : Prop :=
  True ∧ True ∧ (decide ((0 : Nat) + List.length o.a ≤ (9223372036854775807 : Nat)) && decide (((0 : Nat) + List.length o.a) * (24 : Nat) ≤ (140737488355328 : Nat))) = true ∧ ((false = false ∧ (0 : Nat) + List.length o.a = List.length o.a ∧ contLe ((0 : Nat) + List.length o.a) (2 : Nat) (Ax.rowAt (0 : Nat) (appRow (0 : Nat) (fun (k j : Nat) => AV.junk) (cellsOf' encC o.a))) (cellsOf' encC o.a)) ∧ (o.c.name = o.c.name ∧ o.c.off = o.c.off ∧ True) ∧ o.e = o.e ∧ True) ∧ True ∧ (List.length o.a ≤ (9223372036854775806 : Nat) ∧ (comE o.a o.c o.e == (0 : Int)) = false) ∧ true = true ∧ True ∧ ((true = true ∧ List.length o.a = List.length o.a ∧ contLe (List.length o.a) (2 : Nat) (cellsOf' encC o.a) (cellsOf' encC o.a)) ∧ (o.c.name = o.c.name ∧ o.c.off = o.c.off ∧ True) ∧ o.e = o.e ∧ True) ∧ True ∧ (List.length o.a ≤ (9223372036854775806 : Nat) ∧ (comE o.a o.c o.e == (0 : Int)) = false) ∧ ((false = false ∧ (0 : Nat) + List.length o.a = List.length o.a ∧ contLe ((0 : Nat) + List.length o.a) (2 : Nat) (Ax.rowAt (0 : Nat) (appRow (0 : Nat) (fun (k j : Nat) => AV.junk) (cellsOf' encC o.a))) (cellsOf' encC o.a)) ∧ o.c.name = o.c.name ∧ True) ∧ True ∧ List.length o.a ≤ (9223372036854775806 : Nat) ∧ true = true ∧ True ∧ ((true = true ∧ List.length o.a = List.length o.a ∧ contLe (List.length o.a) (2 : Nat) (cellsOf' encC o.a) (cellsOf' encC o.a)) ∧ o.c.name = o.c.name ∧ True) ∧ True ∧ List.length o.a ≤ (9223372036854775806 : Nat) ∧ ((false = false ∧ (0 : Nat) + List.length o.a = List.length o.a ∧ contLe ((0 : Nat) + List.length o.a) (2 : Nat) (Ax.rowAt (0 : Nat) (appRow (0 : Nat) (fun (k j : Nat) => AV.junk) (cellsOf' encC o.a))) (cellsOf' encC o.a)) ∧ (true = true ∧ List.length o.ta = List.length o.ta ∧ contLe (List.length o.ta) (1 : Nat) (cellsOf' encU o.ta) (cellsOf' encU o.ta)) ∧ True) ∧ True ∧ (List.length o.ta ≤ (9223372036854775806 : Nat) ∧ List.length o.a * (24 : Nat) ≤ (140737488355200 : Nat) ∧ ∀ (x : Con), x ∈ o.a → (0 : Int) ≤ x.off ∧ x.off < (18446744073709551616 : Int)) ∧ true = true ∧ ((∀ (k : Nat), k < List.length (mapU o.a o.ta (List.length o.a)) → ∀ (j : Nat), j < (2 : Nat) → tagT (cellsOf' encC (mapU o.a o.ta (List.length o.a)) k j) = true) ∧ True) ∧ ((true = true ∧ List.length o.a = List.length o.a ∧ contLe (List.length o.a) (2 : Nat) (cellsOf' encC o.a) (cellsOf' encC o.a)) ∧ (true = true ∧ List.length o.ta = List.length o.ta ∧ contLe (List.length o.ta) (1 : Nat) (cellsOf' encU o.ta) (cellsOf' encU o.ta)) ∧ True) ∧ True ∧ (List.length o.ta ≤ (9223372036854775806 : Nat) ∧ List.length o.a * (24 : Nat) ≤ (140737488355200 : Nat) ∧ ∀ (x : Con), x ∈ o.a → (0 : Int) ≤ x.off ∧ x.off < (18446744073709551616 : Int)) ∧ ((false = false ∧ List.length (mapU o.a o.ta (List.length o.a)) = List.length (mapU o.a o.ta (List.length o.a)) ∧ contLe (List.length (mapU o.a o.ta (List.length o.a))) (2 : Nat) (Ax.rowAt (0 : Nat) (cellsOf' encC (mapU o.a o.ta (List.length o.a)))) (cellsOf' encC (mapU o.a o.ta (List.length o.a)))) ∧ (false = false ∧ List.length (mapU o.a o.ta (List.length o.a)) = List.length (mapU o.a o.ta (List.length o.a)) ∧ contLe (List.length (mapU o.a o.ta (List.length o.a))) (2 : Nat) (Ax.rowAt (0 : Nat) (cellsOf' encC (mapU o.a o.ta (List.length o.a)))) (cellsOf' encC (mapU o.a o.ta (List.length o.a)))) ∧ True) ∧ True ∧ (List.length (mapU o.a o.ta (List.length o.a)) ≤ (9223372036854775806 : Nat) ∧ mapU o.a o.ta (List.length o.a) = mapU o.a o.ta (List.length o.a)) ∧ true = true ∧ True ∧ ((false = false ∧ (0 : Nat) + List.length o.a = List.length o.a ∧ contLe ((0 : Nat) + List.length o.a) (2 : Nat) (Ax.rowAt (0 : Nat) (appRow (0 : Nat) (fun (k j : Nat) => AV.junk) (cellsOf' encC o.a))) (cellsOf' encC o.a)) ∧ (true = true ∧ List.length o.b = List.length o.b ∧ contLe (List.length o.b) (2 : Nat) (cellsOf' encC o.b) (cellsOf' encC o.b)) ∧ (true = true ∧ List.length o.ta = List.length o.ta ∧ contLe (List.length o.ta) (1 : Nat) (cellsOf' encU o.ta) (cellsOf' encU o.ta)) ∧ (true = true ∧ List.length o.tb = List.length o.tb ∧ contLe (List.length o.tb) (1 : Nat) (cellsOf' encU o.tb) (cellsOf' encU o.tb)) ∧ True) ∧ True ∧ ((List.length o.a ≤ (9223372036854775806 : Nat) ∧ List.length o.b ≤ (9223372036854775806 : Nat) ∧ (∀ (x : Con), x ∈ o.a → (0 : Int) ≤ x.off ∧ x.off < (18446744073709551616 : Int)) ∧ (∀ (x : Con), x ∈ o.b → (0 : Int) ≤ x.off ∧ x.off < (18446744073709551616 : Int)) ∧ List.length o.ta ≤ (9223372036854775806 : Nat) ∧ List.length o.tb ≤ (9223372036854775806 : Nat)) ∧ (bothE o.a o.b o.ta o.tb == (0 : Int)) = false) ∧ true = true ∧ True ∧ ((true = true ∧ List.length o.a = List.length o.a ∧ contLe (List.length o.a) (2 : Nat) (cellsOf' encC o.a) (cellsOf' encC o.a)) ∧ (true = true ∧ List.length o.b = List.length o.b ∧ contLe (List.length o.b) (2 : Nat) (cellsOf' encC o.b) (cellsOf' encC o.b)) ∧ (true = true ∧ List.length o.ta = List.length o.ta ∧ contLe (List.length o.ta) (1 : Nat) (cellsOf' encU o.ta) (cellsOf' encU o.ta)) ∧ (true = true ∧ List.length o.tb = List.length o.tb ∧ contLe (List.length o.tb) (1 : Nat) (cellsOf' encU o.tb) (cellsOf' encU o.tb)) ∧ True) ∧ True ∧ ((List.length o.a ≤ (9223372036854775806 : Nat) ∧ List.length o.b ≤ (9223372036854775806 : Nat) ∧ (∀ (x : Con), x ∈ o.a → (0 : Int) ≤ x.off ∧ x.off < (18446744073709551616 : Int)) ∧ (∀ (x : Con), x ∈ o.b → (0 : Int) ≤ x.off ∧ x.off < (18446744073709551616 : Int)) ∧ List.length o.ta ≤ (9223372036854775806 : Nat) ∧ List.length o.tb ≤ (9223372036854775806 : Nat)) ∧ (bothE o.a o.b o.ta o.tb == (0 : Int)) = false) ∧ ((false = false ∧ (0 : Nat) + List.length o.a = List.length o.a ∧ contLe ((0 : Nat) + List.length o.a) (2 : Nat) (Ax.rowAt (0 : Nat) (appRow (0 : Nat) (fun (k j : Nat) => AV.junk) (cellsOf' encC o.a))) (cellsOf' encC o.a)) ∧ (true = true ∧ List.length o.a = List.length o.a ∧ contLe (List.length o.a) (2 : Nat) (cellsOf' encC o.a) (cellsOf' encC o.a)) ∧ True) ∧ True ∧ (List.length o.a ≤ (9223372036854775806 : Nat) ∧ o.a = o.a) ∧ true = true ∧ True ∧ (true = true → (true = true → (true = true → ((comE o.a o.c o.e == comE o.a o.c o.e) = true → ((readO o.a o.c.name == readO o.a o.c.name) = true → ((inC o.a o.c.name == inC o.a o.c.name) = true → ((bothE o.a o.b o.ta o.tb == bothE o.a o.b o.ta o.tb) = true → (o.c.name = o.c.name ∧ True) ∧ True ∧ (o.c.name = o.c.name ∧ True) ∧ True ∧ ((nameOk o.c.name == nameOk o.c.name) = true → ((false = false ∧ (0 : Nat) + List.length o.a = List.length o.a ∧ contLe ((0 : Nat) + List.length o.a) (2 : Nat) (Ax.rowAt (0 : Nat) (appRow (0 : Nat) (fun (k j : Nat) => AV.junk) (cellsOf' encC o.a))) (cellsOf' encC o.a)) ∧ True) ∧ True ∧ List.length o.a ≤ (9223372036854775806 : Nat) ∧ true = true ∧ True ∧ ((true = true ∧ List.length o.a = List.length o.a ∧ contLe (List.length o.a) (2 : Nat) (cellsOf' encC o.a) (cellsOf' encC o.a)) ∧ True) ∧ True ∧ List.length o.a ≤ (9223372036854775806 : Nat) ∧ (isCons o.a == isCons o.a) = true ∧ True) ∧ ((nameOk o.c.name == nameOk o.c.name) = false → false = true ∧ True)) ∧ ((bothE o.a o.b o.ta o.tb == bothE o.a o.b o.ta o.tb) = false → false = true ∧ True)) ∧ ((inC o.a o.c.name == inC o.a o.c.name) = false → false = true ∧ True)) ∧ ((readO o.a o.c.name == readO o.a o.c.name) = false → false = true ∧ True)) ∧ ((comE o.a o.c o.e == comE o.a o.c o.e) = false → false = true ∧ True)) ∧ (true = false → false = true ∧ True)) ∧ (true = false → false = true ∧ True)) ∧ (true = false → false = true ∧ True)
set_option maxRecDepth 1000000 in
theorem vcR00_eq (o : Rdr) : (ctrVC Tryd.prog (hh _ noLp (rlC false o (rl0 o noCs)) noOp) 8 [.agg (encO o)] [] (boolR true)) = vcR00 o := by kernel_rfl

end Go.Proofs.YtjmdejbijigfjaaDoor

/-! Records: the law RecordsReaders: the proof. -/
namespace Go.Proofs.YtjmdejbijigfjaaDoor
open Go.Ax
set_option maxRecDepth 1000000
theorem bump_len (l : List Con) (k : Nat) : (bumpL l k).length = l.length := by
  simp [bumpL]; omega
theorem bump_zero (l : List Con) : bumpL l 0 = l := by simp [bumpL]
theorem bump_at (l : List Con) (k : Nat) (h : k < l.length) : (bumpL l k)[k]?.getD default = l[k]?.getD default := by
  simp [bumpL, List.getElem?_append, Nat.min_eq_left (Nat.le_of_lt h), h]
theorem bump_step (l : List Con) (k : Nat) (h : k < l.length) : bumpL l (k + 1) = (bumpL l k).set k (bumpC (l[k]?.getD default)) := by
  unfold bumpL
  have : l.take (k + 1) = l.take k ++ [l[k]?.getD default] := by
    rw [List.take_add_one, List.getElem?_eq_getElem h]; rfl
  rw [this, List.map_append, List.set_append, List.length_map, List.length_take, Nat.min_eq_left (Nat.le_of_lt h), if_neg (Nat.lt_irrefl _), Nat.sub_self]
  rw [List.drop_eq_getElem_cons h, List.set_cons_zero]
  simp
theorem rl_loop (o : Rdr) (hl : (putL o.a o.c).length ≤ 9223372036854775806) (k : Nat) : LoopOk Tryd.prog 8 13 (loopAt Tryd.prog 8 13) ⟨rlT o k, rlM o k, []⟩ (T.map (lout rlX (rlS o)) (.ret ())) := by
  refine loop_vc (o := fun _ => .ret ()) Tryd.mixed (fun _ => rfl) (fun k => (vcRlL_eq o k).mpr ?_) k
  unfold vcRlL
  simp [bump_len]
  generalize putL o.a o.c = P at *
  intro hk
  refine ⟨hk, k + 1, by omega, by rw [wrap_i64 (by omega) (by omega)]; omega, ?_⟩
  rw [bump_at P k hk, bump_step P k hk]
  generalize hx : P[k]?.getD default = x
  have hx' : (bumpL P k).getD k default = x := by rw [List.getD_eq_getElem?_getD, bump_at P k hk, hx]
  have hbl := bump_len P k
  intro a ha b hb
  unfold wrRow cellsOf'
  by_cases h1 : a = k
  · subst h1
    have h2 : ((bumpL P a).set a (bumpC x)).getD a default = bumpC x := by simp [hbl, hk]
    rw [h2, hx']
    match b, hb with
    | 0, _ => simp [encC, bumpC, len_eq]
    | 1, _ => simp [encC, bumpC, len_eq]
  · rw [if_neg (by rintro ⟨h, _⟩; exact h1 h)]
    simp [List.getElem?_set, Ne.symm h1]
theorem rd_c (o : Rdr) (la : o.a.length * 24 ≤ 140737488355200) (lb : o.b.length * 24 ≤ 140737488355200) (lta : o.ta.length ≤ 9223372036854775806) (ltb : o.tb.length ≤ 9223372036854775806) (wa : wfC o.a) (wb : wfC o.b) : (boolR true).Sat (ACall' Tryd.prog 8 [.agg (encO o)] []) := by
  have hpl := put_len o.a o.c
  have hml := mapU_len o.a o.ta o.a.length
  have hbl := (boU_len o.a o.b o.ta o.tb (o.a ++ o.b).length).1
  have hln : (o.a ++ o.b).length = o.a.length + o.b.length := by simp
  have t1 := tagC (putL o.a o.c)
  have t2 := tagC (mapU o.a o.ta o.a.length)
  have t3 := tagC (boU o.a o.b o.ta o.tb (o.a ++ o.b).length)
  have lp := rl_loop o (by omega) 0
  have hz := bump_zero (putL o.a o.c)
  unfold wfC offOk at wa wb
  generalize hB : boU o.a o.b o.ta o.tb (o.a ++ o.b).length = B at *
  cases hp : comE o.a o.c o.e == 0 <;> cases hq : bothE o.a o.b o.ta o.tb == 0
  · refine ctr_vc (ht := hh _ noLp (rlC false o (rl0 o noCs)) noOp) Tryd.mixed rfl ?_
    rw [vcR00_eq o]
    unfold vcR00
    simp only [hB, hp, hq]
    simp
    repeat' apply And.intro
    all_goals first | omega | assumption
  · refine ctr_vc (ht := hh _ noLp (rlC true o (rl0 o (rl2 o))) noOp) Tryd.mixed rfl ?_
    rw [vcR01_eq o]
    unfold vcR01
    simp only [hB, hp, hq]
    simp
    repeat' apply And.intro
    all_goals first | omega | assumption
  · refine ctr_vc (ht := hh _ (rlJ o) (rlC false o (rl1 o noCs)) noOp) Tryd.mixed rfl ?_
    rw [vcR10_eq o]
    unfold vcR10
    simp only [hB, hp, hq]
    simp [hz, lp]
    repeat' apply And.intro
    all_goals first | omega | assumption
  · refine ctr_vc (ht := hh _ (rlJ o) (rlC true o (rl1 o (rl2 o))) noOp) Tryd.mixed rfl ?_
    rw [vcR11_eq o]
    unfold vcR11
    simp only [hB, hp, hq]
    simp [hz, lp]
    repeat' apply And.intro
    all_goals first | omega | assumption
end Go.Proofs.YtjmdejbijigfjaaDoor

/-! Records: from the statements to the laws: the tables; the law RecordsFull. -/
namespace Go.Proofs.YtjmdejbijigfjaaDoor
open Go.Ax Go.Shelf Go.RowKit Go.ChangeShapes Go.WideShapes Go.ChangeAt
set_option maxRecDepth 1000000
def toI {K : Type} : DataW K → Int
  | .lit (.int _ a) => a
  | _ => 0
def toS {K : Type} : DataW K → ByteArray
  | .lit (.string l) => ⟨l.toArray⟩
  | _ => ByteArray.empty
theorem encI_ok {K : Type} {k : IntKind} {d : DataW K} (h : (Sh.int k).wf d) : (Sh.int k).enc d = [.y (.int k (toI d))] := by
  obtain ⟨k', n, rfl, _⟩ := h
  rfl
theorem encS_ok {K : Type} {d : DataW K} (h : Sh.str.wf d) : Sh.str.enc d = [.y (.string (toS d))] := by
  obtain ⟨l, rfl, _⟩ := h
  rfl
theorem enc_st {K : Type} (fs : List Sh) (ds : List (DataW K)) : (Sh.st fs).enc (.agg ds) = Sh.encL fs ds := by simp only [Sh.enc]
theorem enc_cons {K : Type} (s : Sh) (r : List Sh) (d : DataW K) (ds : List (DataW K)) : Sh.encL (s :: r) (d :: ds) = s.enc d ++ Sh.encL r ds := by simp only [Sh.encL]
theorem enc_nil {K : Type} (l : List (DataW K)) : Sh.encL [] l = [] := by simp only [Sh.encL]
theorem relA {P : Program} {W : World} {r : Reach} {base : Nat} {t : TypeId} {v : Value} {fs : Array Field} {l : List AV} {H : HH} {E : Env} (hu : P.underlying t = some (.struct fs)) (hv : Value.okWide P W r base t v) (h : RelL l H E v.cells.toList) : Rel (.agg l) H E v := by
  obtain ⟨cs, rfl, _⟩ := okWide_struct hu hv
  exact ⟨cs, rfl, h⟩
/-! a world where the library's tables lie -/
def laidL : List (String × DataW Unit) := Rows.recordsFullRow.laid
noncomputable def layW (os : Os) : World := World.laidAll Tryd.prog os laidL
theorem lay_met (os : Os) (args : Array Value) : laidMetH Tryd.prog laidL ((layW os).forCall (fun _ _ => 0) ⟨#[], args, []⟩).memory := by
  have e : ∀ w, laidMetH Tryd.prog laidL w = laidMet Tryd.prog laidL w := fun w => by kernel_rfl
  rw [e]
  exact laidMet_laidAll args (by kernel_rfl) (by kernel_rfl)
theorem Tryd.own : ownKnob Tryd.prog.godebug = Option.none := by kernel_rfl
theorem Tryd.laidOut : laidOutB Tryd.prog = true := by kernel_rfl
theorem Tryd.mapsRowed : mapsRowed Tryd.prog = true := by kernel_rfl
theorem Tryd.slicesOk : slicesOk Tryd.prog = true := by kernel_rfl
theorem underBool : Tryd.prog.underlying 4 = some .bool := by kernel_rfl
theorem full_lifted (os : Os) (started : os.Started) (K : Type) (enc : TypeId × Value → K) :
    ReturnsInHanded {} Tryd.checked os 4 .any (fun w args => (Rows.recordsFullSpec.pre enc Tryd.prog Tryd.f4 [] false w args ∧ laidMetH Tryd.prog laidL w) ∧ sizedMet enc Tryd.prog Tryd.f4 (OpenSpec.ofChange Rows.recordsFullSpec) false w args)
      (Rows.recordsFullSpec.post enc Tryd.prog Tryd.f4 false true false false) := by
  refine returnsInHanded_of_change_and (C := Tryd.checked) (X := fun w _ => laidMetH Tryd.prog laidL w) (fun _ _ _ hh h => h.of_heap hh) Tryd.own started (by kernel_rfl) Tryd.func4
    (ChangeSpec.witness_at (enc := enc) (C := Tryd.checked) (os := os) (X := fun w _ => laidMetH Tryd.prog laidL w) false (layW os) #[.int .u16 0, .int .u16 0] 8 rfl (by kernel_rfl) (by kernel_rfl) (by kernel_rfl) (by kernel_rfl) (by kernel_rfl) (lay_met os _)) ?_
  intro W base args ds gs before hval0 hW hcnd hsz _ _
  have hps : Tryd.f4.params.toList = [23, 23] := by kernel_rfl
  obtain ⟨p, q, hA, hV, hbef, hfz, hnd⟩ := id hW
  rw [hps] at hA hsz
  have ⟨hr, hwf⟩ := lift_all [.int .u16, .int .u16] (by kernel_rfl) hA
  obtain ⟨v, v2, d, d2, _, _, e1, rfl, _, hd, hd2⟩ := trodAll_two hA
  obtain ⟨_, _, e2, hw1, _, _, e3, hw2, _⟩ := hwf
  obtain ⟨rfl, e5⟩ := List.cons.inj e2
  subst e5
  obtain ⟨rfl, _⟩ := List.cons.inj e3
  subst e1
  have r1 := hr.1
  have r2 := hr.2.1
  rw [encI_ok hw1] at r1
  rw [encI_ok hw2] at r2
  have u3 : Tryd.prog.underlying 23 = some (.int .u16) := by kernel_rfl
  obtain ⟨n1, rfl⟩ := okWide_int u3 (hval0 0 _ _ (by kernel_rfl) rfl)
  obtain ⟨n2, rfl⟩ := okWide_int u3 (hval0 1 _ _ (by kernel_rfl) rfl)
  obtain ⟨_, _, er, r1, _⟩ := r1
  cases er
  obtain ⟨_, _, er, r2, _⟩ := r2
  cases er
  refine open_calls (call_of (full_c (toI d) (toI d2))) (t := 4) (ds := [d, d2]) ⟨_, _, rfl, r1, _, _, rfl, r2, rfl⟩ (by kernel_rfl) underBool rfl rfl Tryd.laidOut Tryd.mapsRowed Tryd.slicesOk (by rw [hps]; intro t ht; simp at ht; rcases ht with rfl | rfl <;> exact of_decide_eq_true (by kernel_rfl)) hW
theorem full_holds : Rows.RecordsFullSaid :=
  OpenClaim.holds_of_wide 4 Tryd.f4 rfl rfl rfl rfl rfl rfl rfl ⟨rfl, rfl, rfl, rfl, rfl⟩ rfl rfl rfl rfl rfl (by kernel_rfl) Tryd.func4 (by kernel_rfl)
    (of_decide_eq_true (by kernel_rfl)) (by unfold Func.isWrapper; first | (rw [if_pos (by decide +kernel)]; kernel_rfl) | (rw [if_neg (by decide +kernel)]; exact ⟨rfl, rfl⟩))
    (fun os started H enc _ => full_lifted os started H enc)
theorem full_said : Rows.RecordsFullCardSaid :=
  Claim7.holds_tied_plain_at .later [] [.data, .pinned] true (true, "c6216772fa23618345da0e61fb6b64e81834fe3c41d4c2546afdeda0683467e7") false
    full_holds (fun _ h => by cases h) (by kernel_rfl) (fun _ h => by cases h) recordsFull_row_tie rfl ⟨rfl, rfl⟩ (by kernel_rfl) rfl
    (fun f fn hf hfn => by
      obtain rfl : f = 4 := Option.some.inj ((show Tryd.prog.funcNamed "gazette/gazettelaw14.RecordsFull" = some 4 by kernel_rfl).symm.trans hf) |>.symm
      obtain rfl : fn = Tryd.f4 := (Option.some.inj (Tryd.func4.symm.trans hfn)).symm
      exact ⟨by kernel_rfl, fun j t ht => by
        rw [show Tryd.f4.params = #[23, 23] by kernel_rfl] at ht
        have h3 : t = 23 := by
          rcases j with _ | _ | j
          · simpa using ht.symm
          · simpa using ht.symm
          · simp at ht
        subst h3
        exact (show Tryd.prog.wantsStandIn 23 = false by kernel_rfl)⟩)
    (by kernel_rfl)
end Go.Proofs.YtjmdejbijigfjaaDoor

/-! Records: from the statement to RecordsWhole. -/
namespace Go.Proofs.YtjmdejbijigfjaaDoor
open Go.Ax Go.Shelf Go.RowKit Go.ChangeShapes Go.WideShapes Go.ChangeAt
set_option maxRecDepth 1000000
def shRec : Sh := .st [.int .u64, .str, .sl (.int .u8), .int .u64, .int .u64]
def toRec {K : Type} : DataW K → Rec
  | .agg [a, b, c, d, e] => ⟨toI a, toS b, listOf toI c, toI d, toI e⟩
  | _ => default
theorem relB {K : Type} {d : DataW K} (hd : (Sh.sl (.int .u8)).wf d) {H : HH} {E : Env} {v : Value} (h : Rel (slAV (.int .u8) d) H E v) : Rel (encBs true (listOf toI d)) H E v := conv_sl (encA := encB) (fun x hx => encI_ok hx) hd h
theorem rec_enc {K : Type} {d : DataW K} (hd : shRec.wf d) : ∃ a b c e f, d = .agg [a, b, c, e, f] ∧ (Sh.sl (.int .u8)).wf c ∧ shRec.enc d = [.y (.int .u64 (toI a)), .y (.string (toS b)), slAV (.int .u8) c, .y (.int .u64 (toI e)), .y (.int .u64 (toI f))] := by
  obtain ⟨ds, rfl, d1, r1, rfl, w1, d2, r2, rfl, w2, d3, r3, rfl, w3, d4, r4, rfl, w4, d5, r5, rfl, w5, rfl⟩ := hd
  refine ⟨d1, d2, d3, d4, d5, rfl, w3, ?_⟩
  simp only [shRec, enc_st, enc_cons, enc_nil, encI_ok w1, encS_ok w2, slAV_eq, encI_ok w4, encI_ok w5]
  rfl
theorem rec_conv {K : Type} {d : DataW K} (hd : shRec.wf d) (j : Nat) (hj : j < 5) (H : HH) (E : Env) (v : Value) (h : Rel (Ax.get (shRec.enc d) j) H E v) : Rel (Ax.get (encR (toRec d)) j) H E v := by
  obtain ⟨a, b, c, e, f, rfl, wc, he⟩ := rec_enc hd
  rw [he] at h
  match j, hj with
  | 0, _ => exact h
  | 1, _ => exact h
  | 2, _ => exact relB wc h
  | 3, _ => exact h
  | 4, _ => exact h
theorem relRs {K : Type} {d : DataW K} (hd : (Sh.sl shRec).wf d) {H : HH} {E : Env} {v : Value} (h : Rel (slAV shRec d) H E v) : Rel (encRs true (listOf toRec d)) H E v :=
  conv_slR (encA := encR) (fun x hx j hj H E v => rec_conv hx j hj H E v) hd h
theorem undRs : Tryd.prog.underlying 22 = some (.slice 27) := by kernel_rfl
theorem bytesR : Tryd.prog.bytesOf 27 = 64 := by kernel_rfl
theorem rs_sized {K : Type} {d : DataW K} (hw : (d.weights Tryd.prog 22).all (· ≤ reachBytes) = true) : (listOf toRec d).length * 64 ≤ 140737488351232 := by
  have := weights_slice toRec undRs hw
  rwa [bytesR] at this
theorem whole_lifted (os : Os) (started : os.Started) (K : Type) (enc : TypeId × Value → K) :
    ReturnsInHanded {} Tryd.checked os 7 .any (fun w args => (Rows.recordsWholeSpec.pre enc Tryd.prog Tryd.f7 [] false w args ∧ laidMetH Tryd.prog laidL w) ∧ sizedMet enc Tryd.prog Tryd.f7 (OpenSpec.ofChange Rows.recordsWholeSpec) false w args)
      (Rows.recordsWholeSpec.post enc Tryd.prog Tryd.f7 false true false false) := by
  refine returnsInHanded_of_change_and (C := Tryd.checked) (X := fun w _ => laidMetH Tryd.prog laidL w) (fun _ _ _ hh h => h.of_heap hh) Tryd.own started (by kernel_rfl) Tryd.func7
    (ChangeSpec.witness_at (enc := enc) (C := Tryd.checked) (os := os) (X := fun w _ => laidMetH Tryd.prog laidL w) false (layW os) #[.slice Option.none 0 0] 8 rfl (by kernel_rfl) (by kernel_rfl) (by kernel_rfl) (by kernel_rfl) (by kernel_rfl) (lay_met os _)) ?_
  intro W base args ds gs before hval0 hW hcnd hsz _ _
  have hps : Tryd.f7.params.toList = [22] := by kernel_rfl
  obtain ⟨p, q, hA, hV, hbef, hfz, hnd⟩ := id hW
  rw [hps] at hA hsz
  have ⟨hr, hwf⟩ := lift_all [.sl shRec] (by kernel_rfl) hA
  obtain ⟨v, d, e1, rfl, hd⟩ := trodAll_one hA
  obtain ⟨_, _, e2, hw1, _⟩ := hwf
  obtain ⟨rfl, _⟩ := List.cons.inj e2
  subst e1
  have hwt := weights_cons (P := Tryd.prog) (t := 22) (d := d) (ds := gs) hsz
  have k1 := rs_sized hwt.1
  have r1 := hr.1
  rw [slAV_eq] at r1
  obtain ⟨s1, n1, c1, rfl⟩ := okWide_slice undRs (hval0 0 _ _ (by kernel_rfl) rfl)
  obtain ⟨_, _, er, r1, _⟩ := r1
  cases er
  refine open_calls (call_of (wh_c (listOf toRec d) (by omega))) (t := 4) (ds := [d]) ⟨_, _, rfl, relRs hw1 r1, rfl⟩ (by kernel_rfl) underBool rfl rfl Tryd.laidOut Tryd.mapsRowed Tryd.slicesOk (by rw [hps]; intro t ht; simp at ht; rcases ht with rfl; exact of_decide_eq_true (by kernel_rfl)) hW
theorem whole_holds : Rows.RecordsWholeSaid :=
  OpenClaim.holds_of_wide 7 Tryd.f7 rfl rfl rfl rfl rfl rfl rfl ⟨rfl, rfl, rfl, rfl, rfl⟩ rfl rfl rfl rfl rfl (by kernel_rfl) Tryd.func7 (by kernel_rfl)
    (of_decide_eq_true (by kernel_rfl)) (by unfold Func.isWrapper; first | (rw [if_pos (by decide +kernel)]; kernel_rfl) | (rw [if_neg (by decide +kernel)]; exact ⟨rfl, rfl⟩))
    (fun os started H enc _ => whole_lifted os started H enc)
theorem whole_said : Rows.RecordsWholeCardSaid :=
  Claim7.holds_tied_plain_at .later [] [.data, .pinned] true (true, "c6216772fa23618345da0e61fb6b64e81834fe3c41d4c2546afdeda0683467e7") false
    whole_holds (fun _ h => by cases h) (by kernel_rfl) (fun _ h => by cases h) recordsWhole_row_tie rfl ⟨rfl, rfl⟩ (by kernel_rfl) rfl
    (fun f fn hf hfn => by
      obtain rfl : f = 7 := Option.some.inj ((show Tryd.prog.funcNamed "gazette/gazettelaw14.RecordsWhole" = some 7 by kernel_rfl).symm.trans hf) |>.symm
      obtain rfl : fn = Tryd.f7 := (Option.some.inj (Tryd.func7.symm.trans hfn)).symm
      exact ⟨by kernel_rfl, fun j t ht => by
        rw [show Tryd.f7.params = #[22] by kernel_rfl] at ht
        have h3 : t = 22 := by
          rcases j with _ | j
          · simpa using ht.symm
          · simp at ht
        subst h3
        exact (show Tryd.prog.wantsStandIn 22 = false by kernel_rfl)⟩)
    (by kernel_rfl)
end Go.Proofs.YtjmdejbijigfjaaDoor

/-! Records: from the statement to RecordsReaders. -/
namespace Go.Proofs.YtjmdejbijigfjaaDoor
open Go.Ax Go.Shelf Go.RowKit Go.ChangeShapes Go.WideShapes Go.ChangeAt
set_option maxRecDepth 1000000
def shCon : Sh := .st [.str, .int .u64]
def shRdr : Sh := .st [.sl shCon, .sl shCon, shCon, .int .u64, .sl (.int .u64), .sl (.int .u64)]
def toC {K : Type} : DataW K → Con
  | .agg [a, b] => ⟨toS a, toI b⟩
  | _ => default
def toRdr {K : Type} : DataW K → Rdr
  | .agg [a, b, c, e, ta, tb] => ⟨listOf toC a, listOf toC b, toC c, toI e, listOf toI ta, listOf toI tb⟩
  | _ => default
theorem off_of {K : Type} {d : DataW K} (h : (Sh.int .u64).wf d) : offOk (toI d) := by
  obtain ⟨k, n, rfl, w⟩ := h
  have := bounds_u64 w
  exact ⟨by show 0 ≤ n; omega, by show n < _; omega⟩
theorem toC_ok {K : Type} {d : DataW K} (h : shCon.wf d) : shCon.enc d = encC (toC d) ∧ offOk (toC d).off := by
  obtain ⟨ds, rfl, d1, r1, rfl, w1, d2, r2, rfl, w2, rfl⟩ := h
  refine ⟨?_, off_of w2⟩
  simp only [shCon, enc_st, enc_cons, enc_nil, encS_ok w1, encI_ok w2]
  rfl
theorem wf_cons {K : Type} {d : DataW K} (h : (Sh.sl shCon).wf d) : wfC (listOf toC d) := by
  rcases h with rfl | ⟨xs, r, rfl, hx⟩
  · intro y hy; cases hy
  · intro y hy
    obtain ⟨x, hx', rfl⟩ := List.mem_map.1 hy
    exact (toC_ok (hx x hx')).2
theorem relCs {K : Type} {d : DataW K} (hd : (Sh.sl shCon).wf d) {H : HH} {E : Env} {v : Value} (h : Rel (slAV shCon d) H E v) : Rel (encCs true (listOf toC d)) H E v := conv_sl (fun x hx => (toC_ok hx).1) hd h
theorem relUs {K : Type} {d : DataW K} (hd : (Sh.sl (.int .u64)).wf d) {H : HH} {E : Env} {v : Value} (h : Rel (slAV (.int .u64) d) H E v) : Rel (encUs true (listOf toI d)) H E v := conv_sl (encA := encU) (fun x hx => encI_ok hx) hd h
theorem relRdr {K : Type} {d : DataW K} (hd : shRdr.wf d) {H : HH} {E : Env} {vs : List Value} (h : RelL (shRdr.enc d) H E vs) : RelL (encO (toRdr d)) H E vs := by
  obtain ⟨ds, rfl, d1, r1, rfl, w1, d2, r2, rfl, w2, d3, r3, rfl, w3, d4, r4, rfl, w4, d5, r5, rfl, w5, d6, r6, rfl, w6, rfl⟩ := hd
  have e : shRdr.enc (DataW.agg [d1, d2, d3, d4, d5, d6]) = [slAV shCon d1, slAV shCon d2, .y (.string (toC d3).name), .y (.int .u64 (toC d3).off), .y (.int .u64 (toI d4)), slAV (.int .u64) d5, slAV (.int .u64) d6] := by
    simp only [shRdr, enc_st, enc_cons, enc_nil, slAV_eq, (toC_ok w3).1, encI_ok w4]
    rfl
  rw [e] at h
  obtain ⟨v1, x1, rfl, h1, v2, x2, rfl, h2, v3, x3, rfl, h3, v4, x4, rfl, h4, v5, x5, rfl, h5, v6, x6, rfl, h6, v7, x7, rfl, h7, rfl⟩ := h
  exact ⟨_, _, rfl, relCs w1 h1, _, _, rfl, relCs w2 h2, _, _, rfl, h3, _, _, rfl, h4, _, _, rfl, h5, _, _, rfl, relUs w5 h6, _, _, rfl, relUs w6 h7, rfl⟩
def structTypes (P : Program) (t : TypeId) : Option (List TypeId) := match P.underlying t with | some (.struct fs) => some (fs.toList.map (·.type)) | _ => Option.none
theorem structTypes_ok {P : Program} {t : TypeId} {l : List TypeId} (h : structTypes P t = some l) : ∃ fs, P.underlying t = some (.struct fs) ∧ fs.toList.map (·.type) = l := by
  unfold structTypes at h
  split at h
  · rename_i fs hu
    exact ⟨fs, hu, Option.some.inj h⟩
  · cases h
theorem undRdr : ∃ fs, Tryd.prog.underlying 61 = some (.struct fs) ∧ fs.toList.map (·.type) = [57, 57, 59, 24, 42, 42] := structTypes_ok (by kernel_rfl)
theorem undCs : Tryd.prog.underlying 57 = some (.slice 59) := by kernel_rfl
theorem undU : Tryd.prog.underlying 42 = some (.slice 24) := by kernel_rfl
theorem bytesC : Tryd.prog.bytesOf 59 = 24 := by kernel_rfl
theorem bytesU : Tryd.prog.bytesOf 24 = 8 := by kernel_rfl
theorem rdr_call {K : Type} {d : DataW K} (hd : shRdr.wf d) (hw : (d.weights Tryd.prog 61).all (· ≤ reachBytes) = true) : (boolR true).Sat (ACall' Tryd.prog 8 [.agg (encO (toRdr d))] []) := by
  obtain ⟨ds, rfl, d1, r1, rfl, w1, d2, r2, rfl, w2, d3, r3, rfl, w3, d4, r4, rfl, w4, d5, r5, rfl, w5, d6, r6, rfl, w6, rfl⟩ := hd
  obtain ⟨fs, hf, ht⟩ := undRdr
  have h := weights_struct hf hw
  rw [ht] at h
  obtain ⟨h1, h⟩ := weights_cons h
  obtain ⟨h2, h⟩ := weights_cons h
  obtain ⟨h3, h⟩ := weights_cons h
  obtain ⟨h4, h⟩ := weights_cons h
  obtain ⟨h5, h⟩ := weights_cons h
  obtain ⟨h6, h⟩ := weights_cons h
  have k1 := weights_slice toC undCs h1
  have k2 := weights_slice toC undCs h2
  have k5 := weights_slice toI undU h5
  have k6 := weights_slice toI undU h6
  rw [bytesC] at k1 k2
  rw [bytesU] at k5 k6
  exact rd_c _ (by show (listOf toC d1).length * 24 ≤ _; omega) (by show (listOf toC d2).length * 24 ≤ _; omega) (by show (listOf toI d5).length ≤ _; omega) (by show (listOf toI d6).length ≤ _; omega) (wf_cons w1) (wf_cons w2)
theorem readers_lifted (os : Os) (started : os.Started) (K : Type) (enc : TypeId × Value → K) :
    ReturnsInHanded {} Tryd.checked os 8 .any (fun w args => (Rows.recordsReadersSpec.pre enc Tryd.prog Tryd.f8 [] false w args ∧ laidMetH Tryd.prog laidL w) ∧ sizedMet enc Tryd.prog Tryd.f8 (OpenSpec.ofChange Rows.recordsReadersSpec) false w args)
      (Rows.recordsReadersSpec.post enc Tryd.prog Tryd.f8 false true false false) := by
  refine returnsInHanded_of_change_and (C := Tryd.checked) (X := fun w _ => laidMetH Tryd.prog laidL w) (fun _ _ _ hh h => h.of_heap hh) Tryd.own started (by kernel_rfl) Tryd.func8
    (ChangeSpec.witness_at (enc := enc) (C := Tryd.checked) (os := os) (X := fun w _ => laidMetH Tryd.prog laidL w) false (layW os) #[.agg #[.slice Option.none 0 0, .slice Option.none 0 0, .string ⟨#[]⟩, .int .u64 0, .int .u64 0, .slice Option.none 0 0, .slice Option.none 0 0]] 8 rfl (by kernel_rfl) (by kernel_rfl) (by kernel_rfl) (by kernel_rfl) (by kernel_rfl) (lay_met os _)) ?_
  intro W base args ds gs before hval0 hW hcnd hsz _ _
  have hps : Tryd.f8.params.toList = [61] := by kernel_rfl
  obtain ⟨p, q, hA, hV, hbef, hfz, hnd⟩ := id hW
  rw [hps] at hA hsz
  have ⟨hr, hwf⟩ := lift_all [shRdr] (by kernel_rfl) hA
  obtain ⟨v, d, e1, rfl, hd⟩ := trodAll_one hA
  obtain ⟨_, _, e2, hw1, _⟩ := hwf
  obtain ⟨rfl, _⟩ := List.cons.inj e2
  subst e1
  have hwt := weights_cons (P := Tryd.prog) (t := 61) (d := d) (ds := gs) hsz
  obtain ⟨fs, hf, _⟩ := undRdr
  have r1 := relA hf (hval0 0 _ _ (by kernel_rfl) rfl) (relRdr hw1 hr.1)
  refine open_calls (call_of (rdr_call hw1 hwt.1)) (t := 4) (ds := [d]) ⟨_, _, rfl, r1, rfl⟩ (by kernel_rfl) underBool rfl rfl Tryd.laidOut Tryd.mapsRowed Tryd.slicesOk (by rw [hps]; intro t ht; simp at ht; rcases ht with rfl; exact of_decide_eq_true (by kernel_rfl)) hW
theorem readers_holds : Rows.RecordsReadersSaid :=
  OpenClaim.holds_of_wide 8 Tryd.f8 rfl rfl rfl rfl rfl rfl rfl ⟨rfl, rfl, rfl, rfl, rfl⟩ rfl rfl rfl rfl rfl (by kernel_rfl) Tryd.func8 (by kernel_rfl)
    (of_decide_eq_true (by kernel_rfl)) (by unfold Func.isWrapper; first | (rw [if_pos (by decide +kernel)]; kernel_rfl) | (rw [if_neg (by decide +kernel)]; exact ⟨rfl, rfl⟩))
    (fun os started H enc _ => readers_lifted os started H enc)
theorem readers_said : Rows.RecordsReadersCardSaid :=
  Claim7.holds_tied_plain_at .later [] [.data, .pinned] true (true, "c6216772fa23618345da0e61fb6b64e81834fe3c41d4c2546afdeda0683467e7") false
    readers_holds (fun _ h => by cases h) (by kernel_rfl) (fun _ h => by cases h) recordsReaders_row_tie rfl ⟨rfl, rfl⟩ (by kernel_rfl) rfl
    (fun f fn hf hfn => by
      obtain rfl : f = 8 := Option.some.inj ((show Tryd.prog.funcNamed "gazette/gazettelaw14.RecordsReaders" = some 8 by kernel_rfl).symm.trans hf) |>.symm
      obtain rfl : fn = Tryd.f8 := (Option.some.inj (Tryd.func8.symm.trans hfn)).symm
      exact ⟨by kernel_rfl, fun j t ht => by
        rw [show Tryd.f8.params = #[61] by kernel_rfl] at ht
        have h3 : t = 61 := by
          rcases j with _ | j
          · simpa using ht.symm
          · simp at ht
        subst h3
        exact (show Tryd.prog.wantsStandIn 61 = false by kernel_rfl)⟩)
    (by kernel_rfl)
end Go.Proofs.YtjmdejbijigfjaaDoor
