import Derived.Test.YtjmdejbijigfjaaDoorW4
import Derived.Test.YtjmdejbijigfjaaDoorW7
set_option linter.unusedVariables false
set_option linter.unusedSimpArgs false
/-! Records: the law RecordsUnread: the conditions. -/
namespace Go.Proofs.YtjmdejbijigfjaaDoor
open Go.Ax
set_option maxRecDepth 1000000
structure Unr where
  a : List Rec
  b : List Rec
  r : Rng
  one : Int
  two : Int
  p : Nat
  q : Nat
  K : Ke
  J : Jo
  m : List Con
  c : List Con
instance : Inhabited Unr := ⟨⟨[], [], default, 0, 0, 0, 0, ⟨[], []⟩, ⟨[], [], [], [], []⟩, [], []⟩⟩
def encX (o : Unr) : List AV := [encRs true o.a, encRs true o.b, .y (.string o.r.lo), .y (.string o.r.hi), .y (.int .u16 o.one), .y (.int .u16 o.two)]
def plcE (m : Int) (n : Nat) : Int := (IntKind.i64.wrap m).tmod (IntKind.i64.wrap ((n : Int) + 1))
def cB : ByteArray := ⟨#[99]⟩
def conA (k : Nat) : List Con := [⟨cB, k⟩]
noncomputable def mpX (b1 b2 : Bool) (l : List Con) (to : List Int) (m : List Con) : Ctr Tryd.prog := ⟨37, [encCs b1 l, encUs b2 to], [], .need ((to.length ≤ 9223372036854775806 ∧ l.length * 24 ≤ 140737488355200 ∧ wfC l) ∧ m = mapU l to l.length) (conR m), T.Sat.need fun h => by rw [h.2]; exact mp_c b1 b2 l to h.1.1 h.1.2.1 h.1.2.2⟩
noncomputable def btX (b1 b2 b3 b4 : Bool) (a b : List Con) (ta tb : List Int) (c : List Con) : Ctr Tryd.prog := ⟨39, [encCs b1 a, encCs b2 b, encUs b3 ta, encUs b4 tb], [], .need (((a.length ≤ 9223372036854775806 ∧ b.length ≤ 9223372036854775806 ∧ wfC a ∧ wfC b ∧ ta.length ≤ 9223372036854775806 ∧ tb.length ≤ 9223372036854775806) ∧ (bothE a b ta tb == 0) = true) ∧ c = boU a b ta tb (a ++ b).length) (rowP true c (bothE a b ta tb)), T.Sat.need fun ⟨⟨⟨h1, h2, h3, h4, h5, h6⟩, h7⟩, h8⟩ => by rw [h8]; exact rowP_of (both_c b1 b2 b3 b4 a b ta tb h1 h2 h3 h4 h5 h6) h7⟩
def keP (i : Bool) (K : Ke) : T An := match i with
  | true => keR K
  | false => .ret (.tup [.s (.slice none 0 0), .s (.slice none 0 0)], [], [])
theorem keP_c (i b : Bool) (r : Rng) (l : List Rec) (h : l.length ≤ 4611686018427387903) (hi : (isLog l && chkK r == 0) = i) : (keP i (ke r l).end).Sat (ACall' Tryd.prog 23 [encRs b l, .agg (encG r)] []) := by
  intro Q hq
  refine keep_c b r l h Q ?_
  unfold keT
  rw [hi]
  cases i
  · exact ⟨(fun e => nomatch e), (fun _ => hq)⟩
  · exact ⟨(fun _ => hq), (fun e => nomatch e)⟩
noncomputable def kePC (i b : Bool) (r : Rng) (l : List Rec) (K : Ke) : Ctr Tryd.prog := ⟨23, [encRs b l, .agg (encG r)], [], .need ((l.length ≤ 4611686018427387903 ∧ (isLog l && chkK r == 0) = i) ∧ K = (ke r l).end) (keP i K), T.Sat.need fun h => by rw [h.2]; exact keP_c i b r l h.1.1 h.1.2⟩
def joOk (a b : List Rec) : Bool := (isLog a && isLog b) && (decide (a.length + b.length ≤ 4096) && (jo0 a b).run.isSome)
def joP (i : Bool) (a b : List Rec) (J : Jo) : T An := match i with
  | true => joR J
  | false => .ite (isLog a && isLog b) (.ite (decide (a.length + b.length ≤ 4096)) (joE 145) (joE 143)) (joE 1)
theorem joP_c (i b1 b2 : Bool) (a b : List Rec) (h1 : a.length ≤ 4611686018427387903) (h2 : b.length ≤ 4611686018427387903) (hi : joOk a b = i) : (joP i a b ((jo0 a b).run.getD (jo0 a b)).end).Sat (ACall' Tryd.prog 22 [encRs b1 a, encRs b2 b] []) := by
  intro Q hq
  refine join_c b1 b2 a b h1 h2 Q ?_
  unfold joinT
  unfold joOk at hi
  cases i
  · refine ⟨(fun e => ?_), (fun e => ?_)⟩
    · refine ⟨(fun e2 => ?_), (fun e2 => ?_)⟩
      · rw [e, e2, Bool.true_and, Bool.true_and] at hi
        exact ⟨(fun e3 => by rw [hi] at e3; cases e3), (fun _ => (hq.1 e).1 e2)⟩
      · exact (hq.1 e).2 e2
    · exact hq.2 e
  · obtain ⟨hi1, hi2⟩ := (Bool.and_eq_true _ _).mp hi
    obtain ⟨hi2, hi3⟩ := (Bool.and_eq_true _ _).mp hi2
    exact ⟨(fun _ => ⟨(fun _ => ⟨(fun _ => hq), (fun e => by rw [hi3] at e; cases e)⟩), (fun e => by rw [hi2] at e; cases e)⟩), (fun e => by rw [hi1] at e; cases e)⟩
noncomputable def joPC (i b1 b2 : Bool) (a b : List Rec) (J : Jo) : Ctr Tryd.prog := ⟨22, [encRs b1 a, encRs b2 b], [], .need (((a.length ≤ 4611686018427387903 ∧ b.length ≤ 4611686018427387903) ∧ joOk a b = i) ∧ J = ((jo0 a b).run.getD (jo0 a b)).end) (joP i a b J), T.Sat.need fun h => by rw [h.2]; exact joP_c i b1 b2 a b h.1.1.1 h.1.1.2 h.1.2⟩
def nK (o : Unr) (k : Nat) : Int := ((ke o.r (o.a.take k)).out.length : Nat)
def u1B (o : Unr) (r : List (Nat × AV)) : List AV := mkT 197 ([(3, .y (.bool true)), (4, encRs true o.a), (5, encRs true o.b), (7, .y (.int .i64 o.p)), (8, .y (.int .i64 o.q)), (9, .own 2 5 0 o.K.out.length), (11, .own 5 2 0 o.m.length)] ++ r)
def u1T (o : Unr) (k : Nat) : List AV := u1B o [(6, .ptr 1 0 0 0), (12, .y (.int .i64 (nK o k - nK o o.p))), (13, .y (.int .i64 k))]
def u1M (o : Unr) : List Blk := [.dead, .box 47 (encG o.r), rowR o.K.out, .dead, .dead, rowC o.m]
def u1S (o : Unr) (_ : Unit) : Exit × List AV × List Blk := (.exit 0, u1B o [(12, .y (.int .i64 (nK o o.a.length - nK o o.p)))], [.dead, .dead, rowR o.K.out, .dead, .dead, rowC o.m])
noncomputable def u1H (o : Unr) (k : Nat) : HintsT Tryd.prog := hh _ noLp (cs1 9 16 6 (hasC o.r (o.a.getD k default).key) noCs) noOp
def vcU1 (o : Unr) (k : Nat) : Prop :=
  (decide ((↑k : Int) < (↑(List.length o.a) : Int)) = true → (true && decide ((↑k : Int) < (↑(List.length o.a) : Int))) = true ∧ ((o.r.lo = o.r.lo ∧ o.r.hi = o.r.hi ∧ True) ∧ (List.getD o.a (Int.toNat (↑k : Int)) (@default Rec instInhabitedRec)).key = (List.getD o.a k (@default Rec instInhabitedRec)).key ∧ True) ∧ True ∧ (hasK o.r (List.getD o.a k (@default Rec instInhabitedRec)).key = true → ∃ (j : Nat), List.length o.a - j < List.length o.a - k ∧ ((true = true ∧ (true = true ∧ List.length o.a = List.length o.a ∧ contLe (List.length o.a) (5 : Nat) (cellsOf' encR o.a) (cellsOf' encR o.a)) ∧ (true = true ∧ List.length o.b = List.length o.b ∧ contLe (List.length o.b) (5 : Nat) (cellsOf' encR o.b) (cellsOf' encR o.b)) ∧ ((0 : Nat) = (0 : Nat) ∧ (0 : Nat) = (0 : Nat)) ∧ (↑o.p : Int) = (↑o.p : Int) ∧ (↑o.q : Int) = (↑o.q : Int) ∧ ((0 : Nat) = (0 : Nat) ∧ List.length o.K.out = List.length o.K.out) ∧ ((0 : Nat) = (0 : Nat) ∧ List.length o.m = List.length o.m) ∧ IntKind.wrap IntKind.i64 (nK o k - nK o o.p + (1 : Int)) = nK o j - nK o o.p ∧ IntKind.wrap IntKind.i64 ((↑k : Int) + (1 : Int)) = (↑j : Int) ∧ True) ∧ ((o.r.lo = o.r.lo ∧ o.r.hi = o.r.hi ∧ True) ∧ (List.length o.K.out = List.length o.K.out ∧ contLe (List.length o.K.out) (5 : Nat) (cellsOf' encR o.K.out) (cellsOf' encR o.K.out)) ∧ (List.length o.m = List.length o.m ∧ contLe (List.length o.m) (2 : Nat) (cellsOf' encC o.m) (cellsOf' encC o.m)) ∧ True) ∧ true = true) ∧ true = true ∧ () = ()) ∧ (hasK o.r (List.getD o.a k (@default Rec instInhabitedRec)).key = false → ∃ (j : Nat), List.length o.a - j < List.length o.a - k ∧ ((true = true ∧ (true = true ∧ List.length o.a = List.length o.a ∧ contLe (List.length o.a) (5 : Nat) (cellsOf' encR o.a) (cellsOf' encR o.a)) ∧ (true = true ∧ List.length o.b = List.length o.b ∧ contLe (List.length o.b) (5 : Nat) (cellsOf' encR o.b) (cellsOf' encR o.b)) ∧ ((0 : Nat) = (0 : Nat) ∧ (0 : Nat) = (0 : Nat)) ∧ (↑o.p : Int) = (↑o.p : Int) ∧ (↑o.q : Int) = (↑o.q : Int) ∧ ((0 : Nat) = (0 : Nat) ∧ List.length o.K.out = List.length o.K.out) ∧ ((0 : Nat) = (0 : Nat) ∧ List.length o.m = List.length o.m) ∧ nK o k - nK o o.p = nK o j - nK o o.p ∧ IntKind.wrap IntKind.i64 ((↑k : Int) + (1 : Int)) = (↑j : Int) ∧ True) ∧ ((o.r.lo = o.r.lo ∧ o.r.hi = o.r.hi ∧ True) ∧ (List.length o.K.out = List.length o.K.out ∧ contLe (List.length o.K.out) (5 : Nat) (cellsOf' encR o.K.out) (cellsOf' encR o.K.out)) ∧ (List.length o.m = List.length o.m ∧ contLe (List.length o.m) (2 : Nat) (cellsOf' encC o.m) (cellsOf' encC o.m)) ∧ True) ∧ true = true) ∧ true = true ∧ () = ())) ∧ (decide ((↑k : Int) < (↑(List.length o.a) : Int)) = false → (true = true ∧ (true = true ∧ List.length o.a = List.length o.a ∧ contLe (List.length o.a) (5 : Nat) (cellsOf' encR o.a) (cellsOf' encR o.a)) ∧ (true = true ∧ List.length o.b = List.length o.b ∧ contLe (List.length o.b) (5 : Nat) (cellsOf' encR o.b) (cellsOf' encR o.b)) ∧ (↑o.p : Int) = (↑o.p : Int) ∧ (↑o.q : Int) = (↑o.q : Int) ∧ ((0 : Nat) = (0 : Nat) ∧ List.length o.K.out = List.length o.K.out) ∧ ((0 : Nat) = (0 : Nat) ∧ List.length o.m = List.length o.m) ∧ nK o k - nK o o.p = nK o (List.length o.a) - nK o o.p ∧ True) ∧ ((List.length o.K.out = List.length o.K.out ∧ contLe (List.length o.K.out) (5 : Nat) (cellsOf' encR o.K.out) (cellsOf' encR o.K.out)) ∧ (List.length o.m = List.length o.m ∧ contLe (List.length o.m) (2 : Nat) (cellsOf' encC o.m) (cellsOf' encC o.m)) ∧ True) ∧ true = true)
set_option maxRecDepth 1000000 in
theorem vcU1_eq (o : Unr) (k : Nat) : (loopVC Tryd.prog (u1H o k) 9 14 (fun k => o.a.length - k) (u1T o) (fun _ => u1M o) rlX (fun _ => .ret ()) (u1S o) k) = vcU1 o k := by kernel_rfl
def dead (d : Nat) : List Blk := List.replicate d .dead
def u2M (d : Nat) (o : Unr) : List Blk := dead d ++ [rowU o.J.ta, rowU o.J.tb, .dead, .dead, rowC o.c]
def u2B (d : Nat) (o : Unr) (r : List (Nat × AV)) : List AV := mkT 197 ([(3, .y (.bool true)), (5, encRs true o.b), (8, .y (.int .i64 o.q)), (17, .own (d + 1) 1 0 o.J.tb.length), (19, .own (d + 4) 2 0 o.c.length)] ++ r)
def u2T (d : Nat) (o : Unr) (k : Nat) : List AV := u2B d o [(4, encRs true o.a), (16, .own d 1 0 o.J.ta.length), (21, .y (.int .i64 k))]
def u2S (d : Nat) (o : Unr) (_ : Unit) : Exit × List AV × List Blk := (.exit 2, u2B d o [], u2M d o)
def u2X : List Nat := [0, 1, 2, 3, 4, 5, 6, 7, 8, 9, 10, 11, 12, 13, 14]
def u3T (d : Nat) (o : Unr) (k : Nat) : List AV := mkT 197 [(3, .y (.bool true)), (5, encRs true o.b), (17, .own (d + 1) 1 0 o.J.tb.length), (19, .own (d + 4) 2 0 o.c.length), (22, .y (.int .i64 k))]
def u3S (_ : Unit) : Exit × List AV × List Blk := (.exit 4, mkT 197 [(3, .y (.bool true))], [])
def vcU2a (o : Unr) (k : { k : Nat // o.p ≤ k }) : Prop :=
  (decide ((↑k.val : Int) < (↑(List.length o.a) : Int)) = true → (true && decide ((↑k.val : Int) < (↑(List.length o.J.ta) : Int))) = true ∧ decide ((0 : Nat) + Int.toNat (↑k.val : Int) < List.length o.J.ta) = true ∧ (true && decide ((0 : Int) < (↑(List.length o.c) : Int))) = true ∧ decide ((0 : Nat) < List.length o.c) = true ∧ (decide (List.getD o.J.ta ((0 : Nat) + Int.toNat (↑k.val : Int)) (0 : Int) < (List.getD o.c (0 : Nat) (@default Con instInhabitedCon)).off) = true → False) ∧ (decide (List.getD o.J.ta ((0 : Nat) + Int.toNat (↑k.val : Int)) (0 : Int) < (List.getD o.c (0 : Nat) (@default Con instInhabitedCon)).off) = false → ∃ (j : { k : Nat // o.p ≤ k }), List.length o.a - j.val < List.length o.a - k.val ∧ ((true = true ∧ (true = true ∧ List.length o.a = List.length o.a ∧ contLe (List.length o.a) (5 : Nat) (cellsOf' encR o.a) (cellsOf' encR o.a)) ∧ (true = true ∧ List.length o.b = List.length o.b ∧ contLe (List.length o.b) (5 : Nat) (cellsOf' encR o.b) (cellsOf' encR o.b)) ∧ (↑o.q : Int) = (↑o.q : Int) ∧ ((0 : Nat) = (0 : Nat) ∧ List.length o.J.ta = List.length o.J.ta) ∧ ((0 : Nat) = (0 : Nat) ∧ List.length o.J.tb = List.length o.J.tb) ∧ ((0 : Nat) = (0 : Nat) ∧ List.length o.c = List.length o.c) ∧ IntKind.wrap IntKind.i64 ((↑k.val : Int) + (1 : Int)) = (↑j.val : Int) ∧ True) ∧ ((List.length o.J.ta = List.length o.J.ta ∧ contLe (List.length o.J.ta) (1 : Nat) (cellsOf' encU o.J.ta) (cellsOf' encU o.J.ta)) ∧ (List.length o.J.tb = List.length o.J.tb ∧ contLe (List.length o.J.tb) (1 : Nat) (cellsOf' encU o.J.tb) (cellsOf' encU o.J.tb)) ∧ (List.length o.c = List.length o.c ∧ contLe (List.length o.c) (2 : Nat) (cellsOf' encC o.c) (cellsOf' encC o.c)) ∧ True) ∧ true = true) ∧ true = true ∧ () = ())) ∧ (decide ((↑k.val : Int) < (↑(List.length o.a) : Int)) = false → (true = true ∧ (true = true ∧ List.length o.b = List.length o.b ∧ contLe (List.length o.b) (5 : Nat) (cellsOf' encR o.b) (cellsOf' encR o.b)) ∧ (↑o.q : Int) = (↑o.q : Int) ∧ ((0 : Nat) = (0 : Nat) ∧ List.length o.J.tb = List.length o.J.tb) ∧ ((0 : Nat) = (0 : Nat) ∧ List.length o.c = List.length o.c) ∧ True) ∧ ((List.length o.J.ta = List.length o.J.ta ∧ contLe (List.length o.J.ta) (1 : Nat) (cellsOf' encU o.J.ta) (cellsOf' encU o.J.ta)) ∧ (List.length o.J.tb = List.length o.J.tb ∧ contLe (List.length o.J.tb) (1 : Nat) (cellsOf' encU o.J.tb) (cellsOf' encU o.J.tb)) ∧ (List.length o.c = List.length o.c ∧ contLe (List.length o.c) (2 : Nat) (cellsOf' encC o.c) (cellsOf' encC o.c)) ∧ True) ∧ true = true)
set_option maxRecDepth 1000000 in
theorem vcU2a_eq (o : Unr) (k : { k : Nat // o.p ≤ k }) : (loopVC Tryd.prog (hT _) 9 28 (fun (k : { k : Nat // o.p ≤ k }) => o.a.length - k.1) (fun k => u2T 7 o k.1) (fun _ => u2M 7 o) u2X (fun _ => .ret ()) (u2S 7 o) k) = vcU2a o k := by kernel_rfl
def vcU2b (o : Unr) (k : { k : Nat // o.p ≤ k }) : Prop :=
  (decide ((↑k.val : Int) < (↑(List.length o.a) : Int)) = true → (true && decide ((↑k.val : Int) < (↑(List.length o.J.ta) : Int))) = true ∧ decide ((0 : Nat) + Int.toNat (↑k.val : Int) < List.length o.J.ta) = true ∧ (true && decide ((0 : Int) < (↑(List.length o.c) : Int))) = true ∧ decide ((0 : Nat) < List.length o.c) = true ∧ (decide (List.getD o.J.ta ((0 : Nat) + Int.toNat (↑k.val : Int)) (0 : Int) < (List.getD o.c (0 : Nat) (@default Con instInhabitedCon)).off) = true → False) ∧ (decide (List.getD o.J.ta ((0 : Nat) + Int.toNat (↑k.val : Int)) (0 : Int) < (List.getD o.c (0 : Nat) (@default Con instInhabitedCon)).off) = false → ∃ (j : { k : Nat // o.p ≤ k }), List.length o.a - j.val < List.length o.a - k.val ∧ ((true = true ∧ (true = true ∧ List.length o.a = List.length o.a ∧ contLe (List.length o.a) (5 : Nat) (cellsOf' encR o.a) (cellsOf' encR o.a)) ∧ (true = true ∧ List.length o.b = List.length o.b ∧ contLe (List.length o.b) (5 : Nat) (cellsOf' encR o.b) (cellsOf' encR o.b)) ∧ (↑o.q : Int) = (↑o.q : Int) ∧ ((0 : Nat) = (0 : Nat) ∧ List.length o.J.ta = List.length o.J.ta) ∧ ((0 : Nat) = (0 : Nat) ∧ List.length o.J.tb = List.length o.J.tb) ∧ ((0 : Nat) = (0 : Nat) ∧ List.length o.c = List.length o.c) ∧ IntKind.wrap IntKind.i64 ((↑k.val : Int) + (1 : Int)) = (↑j.val : Int) ∧ True) ∧ ((List.length o.J.ta = List.length o.J.ta ∧ contLe (List.length o.J.ta) (1 : Nat) (cellsOf' encU o.J.ta) (cellsOf' encU o.J.ta)) ∧ (List.length o.J.tb = List.length o.J.tb ∧ contLe (List.length o.J.tb) (1 : Nat) (cellsOf' encU o.J.tb) (cellsOf' encU o.J.tb)) ∧ (List.length o.c = List.length o.c ∧ contLe (List.length o.c) (2 : Nat) (cellsOf' encC o.c) (cellsOf' encC o.c)) ∧ True) ∧ true = true) ∧ true = true ∧ () = ())) ∧ (decide ((↑k.val : Int) < (↑(List.length o.a) : Int)) = false → (true = true ∧ (true = true ∧ List.length o.b = List.length o.b ∧ contLe (List.length o.b) (5 : Nat) (cellsOf' encR o.b) (cellsOf' encR o.b)) ∧ (↑o.q : Int) = (↑o.q : Int) ∧ ((0 : Nat) = (0 : Nat) ∧ List.length o.J.tb = List.length o.J.tb) ∧ ((0 : Nat) = (0 : Nat) ∧ List.length o.c = List.length o.c) ∧ True) ∧ ((List.length o.J.ta = List.length o.J.ta ∧ contLe (List.length o.J.ta) (1 : Nat) (cellsOf' encU o.J.ta) (cellsOf' encU o.J.ta)) ∧ (List.length o.J.tb = List.length o.J.tb ∧ contLe (List.length o.J.tb) (1 : Nat) (cellsOf' encU o.J.tb) (cellsOf' encU o.J.tb)) ∧ (List.length o.c = List.length o.c ∧ contLe (List.length o.c) (2 : Nat) (cellsOf' encC o.c) (cellsOf' encC o.c)) ∧ True) ∧ true = true)
set_option maxRecDepth 1000000 in
theorem vcU2b_eq (o : Unr) (k : { k : Nat // o.p ≤ k }) : (loopVC Tryd.prog (hT _) 9 28 (fun (k : { k : Nat // o.p ≤ k }) => o.a.length - k.1) (fun k => u2T 3 o k.1) (fun _ => u2M 3 o) u2X (fun _ => .ret ()) (u2S 3 o) k) = vcU2b o k := by kernel_rfl
def vcU3a (o : Unr) (k : { k : Nat // o.q ≤ k }) : Prop :=
  (decide ((↑k.val : Int) < (↑(List.length o.b) : Int)) = true → (true && decide ((↑k.val : Int) < (↑(List.length o.J.tb) : Int))) = true ∧ decide ((0 : Nat) + Int.toNat (↑k.val : Int) < List.length o.J.tb) = true ∧ (true && decide ((0 : Int) < (↑(List.length o.c) : Int))) = true ∧ decide ((0 : Nat) < List.length o.c) = true ∧ (decide (List.getD o.J.tb ((0 : Nat) + Int.toNat (↑k.val : Int)) (0 : Int) < (List.getD o.c (0 : Nat) (@default Con instInhabitedCon)).off) = true → False) ∧ (decide (List.getD o.J.tb ((0 : Nat) + Int.toNat (↑k.val : Int)) (0 : Int) < (List.getD o.c (0 : Nat) (@default Con instInhabitedCon)).off) = false → ∃ (j : { k : Nat // o.q ≤ k }), List.length o.b - j.val < List.length o.b - k.val ∧ ((true = true ∧ (true = true ∧ List.length o.b = List.length o.b ∧ contLe (List.length o.b) (5 : Nat) (cellsOf' encR o.b) (cellsOf' encR o.b)) ∧ ((0 : Nat) = (0 : Nat) ∧ List.length o.J.tb = List.length o.J.tb) ∧ ((0 : Nat) = (0 : Nat) ∧ List.length o.c = List.length o.c) ∧ IntKind.wrap IntKind.i64 ((↑k.val : Int) + (1 : Int)) = (↑j.val : Int) ∧ True) ∧ ((List.length o.J.ta = List.length o.J.ta ∧ contLe (List.length o.J.ta) (1 : Nat) (cellsOf' encU o.J.ta) (cellsOf' encU o.J.ta)) ∧ (List.length o.J.tb = List.length o.J.tb ∧ contLe (List.length o.J.tb) (1 : Nat) (cellsOf' encU o.J.tb) (cellsOf' encU o.J.tb)) ∧ (List.length o.c = List.length o.c ∧ contLe (List.length o.c) (2 : Nat) (cellsOf' encC o.c) (cellsOf' encC o.c)) ∧ True) ∧ true = true) ∧ true = true ∧ () = ())) ∧ (decide ((↑k.val : Int) < (↑(List.length o.b) : Int)) = false → (true = true ∧ True) ∧ True ∧ true = true)
set_option maxRecDepth 1000000 in
theorem vcU3a_eq (o : Unr) (k : { k : Nat // o.q ≤ k }) : (loopVC Tryd.prog (hT _) 9 33 (fun (k : { k : Nat // o.q ≤ k }) => o.b.length - k.1) (fun k => u3T 7 o k.1) (fun _ => u2M 7 o) u2X (fun _ => .ret ()) u3S k) = vcU3a o k := by kernel_rfl
def vcU3b (o : Unr) (k : { k : Nat // o.q ≤ k }) : Prop :=
  (decide ((↑k.val : Int) < (↑(List.length o.b) : Int)) = true → (true && decide ((↑k.val : Int) < (↑(List.length o.J.tb) : Int))) = true ∧ decide ((0 : Nat) + Int.toNat (↑k.val : Int) < List.length o.J.tb) = true ∧ (true && decide ((0 : Int) < (↑(List.length o.c) : Int))) = true ∧ decide ((0 : Nat) < List.length o.c) = true ∧ (decide (List.getD o.J.tb ((0 : Nat) + Int.toNat (↑k.val : Int)) (0 : Int) < (List.getD o.c (0 : Nat) (@default Con instInhabitedCon)).off) = true → False) ∧ (decide (List.getD o.J.tb ((0 : Nat) + Int.toNat (↑k.val : Int)) (0 : Int) < (List.getD o.c (0 : Nat) (@default Con instInhabitedCon)).off) = false → ∃ (j : { k : Nat // o.q ≤ k }), List.length o.b - j.val < List.length o.b - k.val ∧ ((true = true ∧ (true = true ∧ List.length o.b = List.length o.b ∧ contLe (List.length o.b) (5 : Nat) (cellsOf' encR o.b) (cellsOf' encR o.b)) ∧ ((0 : Nat) = (0 : Nat) ∧ List.length o.J.tb = List.length o.J.tb) ∧ ((0 : Nat) = (0 : Nat) ∧ List.length o.c = List.length o.c) ∧ IntKind.wrap IntKind.i64 ((↑k.val : Int) + (1 : Int)) = (↑j.val : Int) ∧ True) ∧ ((List.length o.J.ta = List.length o.J.ta ∧ contLe (List.length o.J.ta) (1 : Nat) (cellsOf' encU o.J.ta) (cellsOf' encU o.J.ta)) ∧ (List.length o.J.tb = List.length o.J.tb ∧ contLe (List.length o.J.tb) (1 : Nat) (cellsOf' encU o.J.tb) (cellsOf' encU o.J.tb)) ∧ (List.length o.c = List.length o.c ∧ contLe (List.length o.c) (2 : Nat) (cellsOf' encC o.c) (cellsOf' encC o.c)) ∧ True) ∧ true = true) ∧ true = true ∧ () = ())) ∧ (decide ((↑k.val : Int) < (↑(List.length o.b) : Int)) = false → (true = true ∧ True) ∧ True ∧ true = true)
set_option maxRecDepth 1000000 in
theorem vcU3b_eq (o : Unr) (k : { k : Nat // o.q ≤ k }) : (loopVC Tryd.prog (hT _) 9 33 (fun (k : { k : Nat // o.q ≤ k }) => o.b.length - k.1) (fun k => u3T 3 o k.1) (fun _ => u2M 3 o) u2X (fun _ => .ret ()) u3S k) = vcU3b o k := by kernel_rfl
noncomputable def u1J (o : Unr) (els : FuncId → Nat → St → Option Job) := lp1 9 14 (jobOf (u1T o) (fun _ => u1M o) rlX (fun _ => .ret ()) (u1S o) o.p) els
noncomputable def u2J (d : Nat) (o : Unr) := lp1 9 28 (jobOf (u2T d o) (fun _ => u2M d o) u2X (fun _ => .ret ()) (u2S d o) o.p) (lp1 9 33 (jobOf (u3T d o) (fun _ => u2M d o) u2X (fun _ => .ret ()) u3S o.q) noLp)
noncomputable def unC (i j : Bool) (o : Unr) := cs1 9 1 0 livesC (cs1 9 7 2 (kePC i true o.r o.a o.K) (cs1 9 9 5 (mpX false false (conA o.p) o.K.to o.m) (cs1 9 21 2 (joPC j true true o.a o.b o.J) (cs1 9 24 10 (btX false false false false (conA o.p) (conA o.q) o.J.ta o.J.tb o.c) noCs))))
def vcN11 (o : Unr) : Prop :=
  True ∧ True ∧ decide (IntKind.wrap IntKind.i64 ((↑(List.length o.a) : Int) + (1 : Int)) ≠ (0 : Int)) = true ∧ decide (IntKind.wrap IntKind.i64 ((↑(List.length o.b) : Int) + (1 : Int)) ≠ (0 : Int)) = true ∧ ((true = true ∧ List.length o.a = List.length o.a ∧ contLe (List.length o.a) (5 : Nat) (cellsOf' encR o.a) (cellsOf' encR o.a)) ∧ (o.r.lo = o.r.lo ∧ o.r.hi = o.r.hi ∧ True) ∧ True) ∧ True ∧ ((List.length o.a ≤ (4611686018427387903 : Nat) ∧ (isLog o.a && chkK o.r == (0 : Int)) = true) ∧ o.K = Ke.end (ke o.r o.a)) ∧ (((↑(List.length o.K.to) : Int) == IntKind.wrap IntKind.i64 ((↑(List.length o.a) : Int) + (1 : Int))) = true → ((false = false ∧ (1 : Nat) = List.length [{ name := cB, off := (↑o.p : Int) : Con }] ∧ contLe (1 : Nat) (2 : Nat) (fun (k j : Nat) => Ax.get [AV.s (Value.string { data := #[(99 : UInt8)] : ByteArray }), AV.y (Value.int IntKind.u64 (IntKind.wrap IntKind.u64 (Int.tmod (IntKind.wrap IntKind.i64 o.one) (IntKind.wrap IntKind.i64 ((↑(List.length o.a) : Int) + (1 : Int))))))] (((0 : Nat) + k) * (2 : Nat) + j)) (cellsOf' encC [{ name := cB, off := (↑o.p : Int) : Con }])) ∧ (false = false ∧ List.length o.K.to = List.length o.K.to ∧ contLe (List.length o.K.to) (1 : Nat) (Ax.rowAt (0 : Nat) (cellsOf' encU o.K.to)) (cellsOf' encU o.K.to)) ∧ True) ∧ True ∧ ((List.length o.K.to ≤ (9223372036854775806 : Nat) ∧ List.length [{ name := cB, off := (↑o.p : Int) : Con }] * (24 : Nat) ≤ (140737488355200 : Nat) ∧ ∀ (x : Con), x ∈ [{ name := cB, off := (↑o.p : Int) : Con }] → (0 : Int) ≤ x.off ∧ x.off < (18446744073709551616 : Int)) ∧ o.m = mapU [{ name := cB, off := (↑o.p : Int) : Con }] o.K.to (List.length [{ name := cB, off := (↑o.p : Int) : Con }])) ∧ true = true ∧ ((∀ (k : Nat), k < List.length o.m → ∀ (j : Nat), j < (2 : Nat) → tagT (cellsOf' encC o.m k j) = true) ∧ True) ∧ (((↑(List.length o.m) : Int) != (1 : Int)) = true → false = true ∧ True) ∧ (((↑(List.length o.m) : Int) != (1 : Int)) = false → (true && decide ((0 : Int) < (↑(List.length o.m) : Int))) = true ∧ decide ((0 : Nat) < List.length o.m) = true ∧ (decide (IntKind.wrap IntKind.u64 (↑(List.length o.K.out) : Int) < (List.getD o.m (0 : Nat) (@default Con instInhabitedCon)).off) = true → false = true ∧ True) ∧ (decide (IntKind.wrap IntKind.u64 (↑(List.length o.K.out) : Int) < (List.getD o.m (0 : Nat) (@default Con instInhabitedCon)).off) = false → ((true = true ∧ (true = true ∧ List.length o.a = List.length o.a ∧ contLe (List.length o.a) (5 : Nat) (cellsOf' encR o.a) (cellsOf' encR o.a)) ∧ (true = true ∧ List.length o.b = List.length o.b ∧ contLe (List.length o.b) (5 : Nat) (cellsOf' encR o.b) (cellsOf' encR o.b)) ∧ ((0 : Nat) = (0 : Nat) ∧ (0 : Nat) = (0 : Nat)) ∧ Int.tmod (IntKind.wrap IntKind.i64 o.one) (IntKind.wrap IntKind.i64 ((↑(List.length o.a) : Int) + (1 : Int))) = (↑o.p : Int) ∧ Int.tmod (IntKind.wrap IntKind.i64 o.two) (IntKind.wrap IntKind.i64 ((↑(List.length o.b) : Int) + (1 : Int))) = (↑o.q : Int) ∧ ((0 : Nat) = (0 : Nat) ∧ List.length o.K.out = List.length o.K.out) ∧ ((0 : Nat) = (0 : Nat) ∧ List.length o.m = List.length o.m) ∧ (0 : Int) = nK o o.p - nK o o.p ∧ Int.tmod (IntKind.wrap IntKind.i64 o.one) (IntKind.wrap IntKind.i64 ((↑(List.length o.a) : Int) + (1 : Int))) = (↑o.p : Int) ∧ True) ∧ ((o.r.lo = o.r.lo ∧ o.r.hi = o.r.hi ∧ True) ∧ (List.length o.K.out = List.length o.K.out ∧ contLe (List.length o.K.out) (5 : Nat) (cellsOf' encR o.K.out) (cellsOf' encR o.K.out)) ∧ (List.length o.m = List.length o.m ∧ contLe (List.length o.m) (2 : Nat) (cellsOf' encC o.m) (cellsOf' encC o.m)) ∧ True) ∧ true = true) ∧ LoopOk Tryd.prog (9 : Nat) (14 : Nat) (loopAt Tryd.prog (9 : Nat) (14 : Nat)) { t := u1T o o.p, m := u1M o, mv := [] : St } (T.map (lout rlX (u1S o)) ((fun (x : Nat) => T.ret ()) o.p)) ∧ (true && decide ((0 : Int) < (↑(List.length o.m) : Int))) = true ∧ decide ((0 : Nat) < List.length o.m) = true ∧ ((IntKind.wrap IntKind.i64 ((↑(List.length o.K.out) : Int) - IntKind.wrap IntKind.i64 (List.getD o.m (0 : Nat) (@default Con instInhabitedCon)).off) != nK o (List.length o.a) - nK o o.p) = true → false = true ∧ True) ∧ ((IntKind.wrap IntKind.i64 ((↑(List.length o.K.out) : Int) - IntKind.wrap IntKind.i64 (List.getD o.m (0 : Nat) (@default Con instInhabitedCon)).off) != nK o (List.length o.a) - nK o o.p) = false → ((true = true ∧ List.length o.a = List.length o.a ∧ contLe (List.length o.a) (5 : Nat) (cellsOf' encR o.a) (cellsOf' encR o.a)) ∧ (true = true ∧ List.length o.b = List.length o.b ∧ contLe (List.length o.b) (5 : Nat) (cellsOf' encR o.b) (cellsOf' encR o.b)) ∧ True) ∧ True ∧ (((List.length o.a ≤ (4611686018427387903 : Nat) ∧ List.length o.b ≤ (4611686018427387903 : Nat)) ∧ joOk o.a o.b = true) ∧ o.J = Jo.end (Option.getD (Jo.run (jo0 o.a o.b)) (jo0 o.a o.b))) ∧ (((↑(List.length o.J.ta) : Int) != IntKind.wrap IntKind.i64 ((↑(List.length o.a) : Int) + (1 : Int))) = true → (true = true → false = true ∧ True) ∧ (true = false → false = true ∧ True)) ∧ (((↑(List.length o.J.ta) : Int) != IntKind.wrap IntKind.i64 ((↑(List.length o.a) : Int) + (1 : Int))) = false → (((↑(List.length o.J.tb) : Int) != IntKind.wrap IntKind.i64 ((↑(List.length o.b) : Int) + (1 : Int))) = true → (true = true → false = true ∧ True) ∧ (true = false → false = true ∧ True)) ∧ (((↑(List.length o.J.tb) : Int) != IntKind.wrap IntKind.i64 ((↑(List.length o.b) : Int) + (1 : Int))) = false → ((false = false ∧ (1 : Nat) = List.length [{ name := cB, off := (↑o.p : Int) : Con }] ∧ contLe (1 : Nat) (2 : Nat) (fun (k j : Nat) => Ax.get [AV.s (Value.string { data := #[(99 : UInt8)] : ByteArray }), AV.y (Value.int IntKind.u64 (IntKind.wrap IntKind.u64 (↑o.p : Int)))] (((0 : Nat) + k) * (2 : Nat) + j)) (cellsOf' encC [{ name := cB, off := (↑o.p : Int) : Con }])) ∧ (false = false ∧ (1 : Nat) = List.length [{ name := cB, off := (↑o.q : Int) : Con }] ∧ contLe (1 : Nat) (2 : Nat) (fun (k j : Nat) => Ax.get [AV.s (Value.string { data := #[(99 : UInt8)] : ByteArray }), AV.y (Value.int IntKind.u64 (IntKind.wrap IntKind.u64 (↑o.q : Int)))] (((0 : Nat) + k) * (2 : Nat) + j)) (cellsOf' encC [{ name := cB, off := (↑o.q : Int) : Con }])) ∧ (false = false ∧ List.length o.J.ta = List.length o.J.ta ∧ contLe (List.length o.J.ta) (1 : Nat) (Ax.rowAt (0 : Nat) (cellsOf' encU o.J.ta)) (cellsOf' encU o.J.ta)) ∧ (false = false ∧ List.length o.J.tb = List.length o.J.tb ∧ contLe (List.length o.J.tb) (1 : Nat) (Ax.rowAt (0 : Nat) (cellsOf' encU o.J.tb)) (cellsOf' encU o.J.tb)) ∧ True) ∧ True ∧ (((List.length [{ name := cB, off := (↑o.p : Int) : Con }] ≤ (9223372036854775806 : Nat) ∧ List.length [{ name := cB, off := (↑o.q : Int) : Con }] ≤ (9223372036854775806 : Nat) ∧ (∀ (x : Con), x ∈ [{ name := cB, off := (↑o.p : Int) : Con }] → (0 : Int) ≤ x.off ∧ x.off < (18446744073709551616 : Int)) ∧ (∀ (x : Con), x ∈ [{ name := cB, off := (↑o.q : Int) : Con }] → (0 : Int) ≤ x.off ∧ x.off < (18446744073709551616 : Int)) ∧ List.length o.J.ta ≤ (9223372036854775806 : Nat) ∧ List.length o.J.tb ≤ (9223372036854775806 : Nat)) ∧ (bothE [{ name := cB, off := (↑o.p : Int) : Con }] [{ name := cB, off := (↑o.q : Int) : Con }] o.J.ta o.J.tb == (0 : Int)) = true) ∧ o.c = [joC [{ name := cB, off := (↑o.p : Int) : Con }] [{ name := cB, off := (↑o.q : Int) : Con }] o.J.ta o.J.tb { name := cB, off := (↑o.q : Int) : Con }]) ∧ true = true ∧ ((∀ (k : Nat), k < List.length o.c → ∀ (j : Nat), j < (2 : Nat) → tagT (cellsOf' encC o.c k j) = true) ∧ True) ∧ (((↑(List.length o.c) : Int) != (1 : Int)) = true → false = true ∧ True) ∧ (((↑(List.length o.c) : Int) != (1 : Int)) = false → (true && decide ((0 : Int) < (↑(List.length o.c) : Int))) = true ∧ decide ((0 : Nat) < List.length o.c) = true ∧ (decide (IntKind.wrap IntKind.u64 (↑(List.length o.J.out) : Int) < (List.getD o.c (0 : Nat) (@default Con instInhabitedCon)).off) = true → false = true ∧ True) ∧ (decide (IntKind.wrap IntKind.u64 (↑(List.length o.J.out) : Int) < (List.getD o.c (0 : Nat) (@default Con instInhabitedCon)).off) = false → ((true = true ∧ (true = true ∧ List.length o.a = List.length o.a ∧ contLe (List.length o.a) (5 : Nat) (cellsOf' encR o.a) (cellsOf' encR o.a)) ∧ (true = true ∧ List.length o.b = List.length o.b ∧ contLe (List.length o.b) (5 : Nat) (cellsOf' encR o.b) (cellsOf' encR o.b)) ∧ (↑o.q : Int) = (↑o.q : Int) ∧ ((0 : Nat) = (0 : Nat) ∧ List.length o.J.ta = List.length o.J.ta) ∧ ((0 : Nat) = (0 : Nat) ∧ List.length o.J.tb = List.length o.J.tb) ∧ ((0 : Nat) = (0 : Nat) ∧ List.length o.c = List.length o.c) ∧ (↑o.p : Int) = (↑o.p : Int) ∧ True) ∧ ((List.length o.J.ta = List.length o.J.ta ∧ contLe (List.length o.J.ta) (1 : Nat) (cellsOf' encU o.J.ta) (cellsOf' encU o.J.ta)) ∧ (List.length o.J.tb = List.length o.J.tb ∧ contLe (List.length o.J.tb) (1 : Nat) (cellsOf' encU o.J.tb) (cellsOf' encU o.J.tb)) ∧ (List.length o.c = List.length o.c ∧ contLe (List.length o.c) (2 : Nat) (cellsOf' encC o.c) (cellsOf' encC o.c)) ∧ True) ∧ true = true) ∧ LoopOk Tryd.prog (9 : Nat) (28 : Nat) (loopAt Tryd.prog (9 : Nat) (28 : Nat)) { t := u2T (7 : Nat) o o.p, m := u2M (7 : Nat) o, mv := [] : St } (T.map (lout u2X (u2S (7 : Nat) o)) ((fun (x : Nat) => T.ret ()) o.p)) ∧ ((true = true ∧ (true = true ∧ List.length o.b = List.length o.b ∧ contLe (List.length o.b) (5 : Nat) (cellsOf' encR o.b) (cellsOf' encR o.b)) ∧ ((0 : Nat) = (0 : Nat) ∧ List.length o.J.tb = List.length o.J.tb) ∧ ((0 : Nat) = (0 : Nat) ∧ List.length o.c = List.length o.c) ∧ (↑o.q : Int) = (↑o.q : Int) ∧ True) ∧ ((List.length o.J.ta = List.length o.J.ta ∧ contLe (List.length o.J.ta) (1 : Nat) (cellsOf' encU o.J.ta) (cellsOf' encU o.J.ta)) ∧ (List.length o.J.tb = List.length o.J.tb ∧ contLe (List.length o.J.tb) (1 : Nat) (cellsOf' encU o.J.tb) (cellsOf' encU o.J.tb)) ∧ (List.length o.c = List.length o.c ∧ contLe (List.length o.c) (2 : Nat) (cellsOf' encC o.c) (cellsOf' encC o.c)) ∧ True) ∧ true = true) ∧ LoopOk Tryd.prog (9 : Nat) (33 : Nat) (loopAt Tryd.prog (9 : Nat) (33 : Nat)) { t := u3T (7 : Nat) o o.q, m := u2M (7 : Nat) o, mv := [] : St } (T.map (lout u2X u3S) ((fun (x : Nat) => T.ret ()) o.q)) ∧ true = true ∧ True)))))))) ∧ (((↑(List.length o.K.to) : Int) == IntKind.wrap IntKind.i64 ((↑(List.length o.a) : Int) + (1 : Int))) = false → ((true = true ∧ List.length o.a = List.length o.a ∧ contLe (List.length o.a) (5 : Nat) (cellsOf' encR o.a) (cellsOf' encR o.a)) ∧ (true = true ∧ List.length o.b = List.length o.b ∧ contLe (List.length o.b) (5 : Nat) (cellsOf' encR o.b) (cellsOf' encR o.b)) ∧ True) ∧ True ∧ (((List.length o.a ≤ (4611686018427387903 : Nat) ∧ List.length o.b ≤ (4611686018427387903 : Nat)) ∧ joOk o.a o.b = true) ∧ o.J = Jo.end (Option.getD (Jo.run (jo0 o.a o.b)) (jo0 o.a o.b))) ∧ (((↑(List.length o.J.ta) : Int) != IntKind.wrap IntKind.i64 ((↑(List.length o.a) : Int) + (1 : Int))) = true → (true = true → false = true ∧ True) ∧ (true = false → false = true ∧ True)) ∧ (((↑(List.length o.J.ta) : Int) != IntKind.wrap IntKind.i64 ((↑(List.length o.a) : Int) + (1 : Int))) = false → (((↑(List.length o.J.tb) : Int) != IntKind.wrap IntKind.i64 ((↑(List.length o.b) : Int) + (1 : Int))) = true → (true = true → false = true ∧ True) ∧ (true = false → false = true ∧ True)) ∧ (((↑(List.length o.J.tb) : Int) != IntKind.wrap IntKind.i64 ((↑(List.length o.b) : Int) + (1 : Int))) = false → ((false = false ∧ (1 : Nat) = List.length [{ name := cB, off := (↑o.p : Int) : Con }] ∧ contLe (1 : Nat) (2 : Nat) (fun (k j : Nat) => Ax.get [AV.s (Value.string { data := #[(99 : UInt8)] : ByteArray }), AV.y (Value.int IntKind.u64 (IntKind.wrap IntKind.u64 (Int.tmod (IntKind.wrap IntKind.i64 o.one) (IntKind.wrap IntKind.i64 ((↑(List.length o.a) : Int) + (1 : Int))))))] (((0 : Nat) + k) * (2 : Nat) + j)) (cellsOf' encC [{ name := cB, off := (↑o.p : Int) : Con }])) ∧ (false = false ∧ (1 : Nat) = List.length [{ name := cB, off := (↑o.q : Int) : Con }] ∧ contLe (1 : Nat) (2 : Nat) (fun (k j : Nat) => Ax.get [AV.s (Value.string { data := #[(99 : UInt8)] : ByteArray }), AV.y (Value.int IntKind.u64 (IntKind.wrap IntKind.u64 (Int.tmod (IntKind.wrap IntKind.i64 o.two) (IntKind.wrap IntKind.i64 ((↑(List.length o.b) : Int) + (1 : Int))))))] (((0 : Nat) + k) * (2 : Nat) + j)) (cellsOf' encC [{ name := cB, off := (↑o.q : Int) : Con }])) ∧ (false = false ∧ List.length o.J.ta = List.length o.J.ta ∧ contLe (List.length o.J.ta) (1 : Nat) (Ax.rowAt (0 : Nat) (cellsOf' encU o.J.ta)) (cellsOf' encU o.J.ta)) ∧ (false = false ∧ List.length o.J.tb = List.length o.J.tb ∧ contLe (List.length o.J.tb) (1 : Nat) (Ax.rowAt (0 : Nat) (cellsOf' encU o.J.tb)) (cellsOf' encU o.J.tb)) ∧ True) ∧ True ∧ (((List.length [{ name := cB, off := (↑o.p : Int) : Con }] ≤ (9223372036854775806 : Nat) ∧ List.length [{ name := cB, off := (↑o.q : Int) : Con }] ≤ (9223372036854775806 : Nat) ∧ (∀ (x : Con), x ∈ [{ name := cB, off := (↑o.p : Int) : Con }] → (0 : Int) ≤ x.off ∧ x.off < (18446744073709551616 : Int)) ∧ (∀ (x : Con), x ∈ [{ name := cB, off := (↑o.q : Int) : Con }] → (0 : Int) ≤ x.off ∧ x.off < (18446744073709551616 : Int)) ∧ List.length o.J.ta ≤ (9223372036854775806 : Nat) ∧ List.length o.J.tb ≤ (9223372036854775806 : Nat)) ∧ (bothE [{ name := cB, off := (↑o.p : Int) : Con }] [{ name := cB, off := (↑o.q : Int) : Con }] o.J.ta o.J.tb == (0 : Int)) = true) ∧ o.c = [joC [{ name := cB, off := (↑o.p : Int) : Con }] [{ name := cB, off := (↑o.q : Int) : Con }] o.J.ta o.J.tb { name := cB, off := (↑o.q : Int) : Con }]) ∧ true = true ∧ ((∀ (k : Nat), k < List.length o.c → ∀ (j : Nat), j < (2 : Nat) → tagT (cellsOf' encC o.c k j) = true) ∧ True) ∧ (((↑(List.length o.c) : Int) != (1 : Int)) = true → false = true ∧ True) ∧ (((↑(List.length o.c) : Int) != (1 : Int)) = false → (true && decide ((0 : Int) < (↑(List.length o.c) : Int))) = true ∧ decide ((0 : Nat) < List.length o.c) = true ∧ (decide (IntKind.wrap IntKind.u64 (↑(List.length o.J.out) : Int) < (List.getD o.c (0 : Nat) (@default Con instInhabitedCon)).off) = true → false = true ∧ True) ∧ (decide (IntKind.wrap IntKind.u64 (↑(List.length o.J.out) : Int) < (List.getD o.c (0 : Nat) (@default Con instInhabitedCon)).off) = false → ((true = true ∧ (true = true ∧ List.length o.a = List.length o.a ∧ contLe (List.length o.a) (5 : Nat) (cellsOf' encR o.a) (cellsOf' encR o.a)) ∧ (true = true ∧ List.length o.b = List.length o.b ∧ contLe (List.length o.b) (5 : Nat) (cellsOf' encR o.b) (cellsOf' encR o.b)) ∧ Int.tmod (IntKind.wrap IntKind.i64 o.two) (IntKind.wrap IntKind.i64 ((↑(List.length o.b) : Int) + (1 : Int))) = (↑o.q : Int) ∧ False ∧ False ∧ False ∧ Int.tmod (IntKind.wrap IntKind.i64 o.one) (IntKind.wrap IntKind.i64 ((↑(List.length o.a) : Int) + (1 : Int))) = (↑o.p : Int) ∧ True) ∧ (False ∧ False ∧ False) ∧ true = true) ∧ LoopOk Tryd.prog (9 : Nat) (28 : Nat) (loopAt Tryd.prog (9 : Nat) (28 : Nat)) { t := u2T (7 : Nat) o o.p, m := u2M (7 : Nat) o, mv := [] : St } (T.map (lout u2X (u2S (7 : Nat) o)) ((fun (x : Nat) => T.ret ()) o.p)) ∧ ((true = true ∧ (true = true ∧ List.length o.b = List.length o.b ∧ contLe (List.length o.b) (5 : Nat) (cellsOf' encR o.b) (cellsOf' encR o.b)) ∧ ((0 : Nat) = (0 : Nat) ∧ List.length o.J.tb = List.length o.J.tb) ∧ ((0 : Nat) = (0 : Nat) ∧ List.length o.c = List.length o.c) ∧ (↑o.q : Int) = (↑o.q : Int) ∧ True) ∧ ((List.length o.J.ta = List.length o.J.ta ∧ contLe (List.length o.J.ta) (1 : Nat) (cellsOf' encU o.J.ta) (cellsOf' encU o.J.ta)) ∧ (List.length o.J.tb = List.length o.J.tb ∧ contLe (List.length o.J.tb) (1 : Nat) (cellsOf' encU o.J.tb) (cellsOf' encU o.J.tb)) ∧ (List.length o.c = List.length o.c ∧ contLe (List.length o.c) (2 : Nat) (cellsOf' encC o.c) (cellsOf' encC o.c)) ∧ True) ∧ true = true) ∧ LoopOk Tryd.prog (9 : Nat) (33 : Nat) (loopAt Tryd.prog (9 : Nat) (33 : Nat)) { t := u3T (7 : Nat) o o.q, m := u2M (7 : Nat) o, mv := [] : St } (T.map (lout u2X u3S) ((fun (x : Nat) => T.ret ()) o.q)) ∧ true = true ∧ True)))))
set_option maxRecDepth 1000000 in
theorem vcN11_eq (o : Unr) : (ctrVC Tryd.prog (hh _ (u1J o (u2J 7 o)) (unC true true o) noOp) 9 [.agg (encX o)] [] (boolR true)) = vcN11 o := by kernel_rfl
def vcN01 (o : Unr) : Prop :=
  True ∧ True ∧ decide (IntKind.wrap IntKind.i64 ((↑(List.length o.a) : Int) + (1 : Int)) ≠ (0 : Int)) = true ∧ decide (IntKind.wrap IntKind.i64 ((↑(List.length o.b) : Int) + (1 : Int)) ≠ (0 : Int)) = true ∧ ((true = true ∧ List.length o.a = List.length o.a ∧ contLe (List.length o.a) (5 : Nat) (cellsOf' encR o.a) (cellsOf' encR o.a)) ∧ (o.r.lo = o.r.lo ∧ o.r.hi = o.r.hi ∧ True) ∧ True) ∧ True ∧ ((List.length o.a ≤ (4611686018427387903 : Nat) ∧ (isLog o.a && chkK o.r == (0 : Int)) = false) ∧ o.K = Ke.end (ke o.r o.a)) ∧ (((0 : Int) == IntKind.wrap IntKind.i64 ((↑(List.length o.a) : Int) + (1 : Int))) = true → ((false = false ∧ (1 : Nat) = List.length [{ name := cB, off := (↑o.p : Int) : Con }] ∧ contLe (1 : Nat) (2 : Nat) (fun (k j : Nat) => Ax.get [AV.s (Value.string { data := #[(99 : UInt8)] : ByteArray }), AV.y (Value.int IntKind.u64 (IntKind.wrap IntKind.u64 (Int.tmod (IntKind.wrap IntKind.i64 o.one) (IntKind.wrap IntKind.i64 ((↑(List.length o.a) : Int) + (1 : Int))))))] (((0 : Nat) + k) * (2 : Nat) + j)) (cellsOf' encC [{ name := cB, off := (↑o.p : Int) : Con }])) ∧ List.length o.K.to = (0 : Nat) ∧ True) ∧ True ∧ ((List.length o.K.to ≤ (9223372036854775806 : Nat) ∧ List.length [{ name := cB, off := (↑o.p : Int) : Con }] * (24 : Nat) ≤ (140737488355200 : Nat) ∧ ∀ (x : Con), x ∈ [{ name := cB, off := (↑o.p : Int) : Con }] → (0 : Int) ≤ x.off ∧ x.off < (18446744073709551616 : Int)) ∧ o.m = mapU [{ name := cB, off := (↑o.p : Int) : Con }] o.K.to (List.length [{ name := cB, off := (↑o.p : Int) : Con }])) ∧ true = true ∧ ((∀ (k : Nat), k < List.length o.m → ∀ (j : Nat), j < (2 : Nat) → tagT (cellsOf' encC o.m k j) = true) ∧ True) ∧ (((↑(List.length o.m) : Int) != (1 : Int)) = true → false = true ∧ True) ∧ (((↑(List.length o.m) : Int) != (1 : Int)) = false → (true && decide ((0 : Int) < (↑(List.length o.m) : Int))) = true ∧ decide ((0 : Nat) < List.length o.m) = true ∧ (decide ((0 : Int) < (List.getD o.m (0 : Nat) (@default Con instInhabitedCon)).off) = true → false = true ∧ True) ∧ (decide ((0 : Int) < (List.getD o.m (0 : Nat) (@default Con instInhabitedCon)).off) = false → ((true = true ∧ (true = true ∧ List.length o.a = List.length o.a ∧ contLe (List.length o.a) (5 : Nat) (cellsOf' encR o.a) (cellsOf' encR o.a)) ∧ (true = true ∧ List.length o.b = List.length o.b ∧ contLe (List.length o.b) (5 : Nat) (cellsOf' encR o.b) (cellsOf' encR o.b)) ∧ ((0 : Nat) = (0 : Nat) ∧ (0 : Nat) = (0 : Nat)) ∧ Int.tmod (IntKind.wrap IntKind.i64 o.one) (IntKind.wrap IntKind.i64 ((↑(List.length o.a) : Int) + (1 : Int))) = (↑o.p : Int) ∧ Int.tmod (IntKind.wrap IntKind.i64 o.two) (IntKind.wrap IntKind.i64 ((↑(List.length o.b) : Int) + (1 : Int))) = (↑o.q : Int) ∧ False ∧ False ∧ (0 : Int) = nK o o.p - nK o o.p ∧ Int.tmod (IntKind.wrap IntKind.i64 o.one) (IntKind.wrap IntKind.i64 ((↑(List.length o.a) : Int) + (1 : Int))) = (↑o.p : Int) ∧ True) ∧ ((o.r.lo = o.r.lo ∧ o.r.hi = o.r.hi ∧ True) ∧ False ∧ False) ∧ true = true) ∧ LoopOk Tryd.prog (9 : Nat) (14 : Nat) (loopAt Tryd.prog (9 : Nat) (14 : Nat)) { t := u1T o o.p, m := u1M o, mv := [] : St } (T.map (lout rlX (u1S o)) ((fun (x : Nat) => T.ret ()) o.p)) ∧ (true && decide ((0 : Int) < (↑(List.length o.m) : Int))) = true ∧ decide ((0 : Nat) < List.length o.m) = true ∧ ((IntKind.wrap IntKind.i64 ((↑(List.length o.K.out) : Int) - IntKind.wrap IntKind.i64 (List.getD o.m (0 : Nat) (@default Con instInhabitedCon)).off) != nK o (List.length o.a) - nK o o.p) = true → false = true ∧ True) ∧ ((IntKind.wrap IntKind.i64 ((↑(List.length o.K.out) : Int) - IntKind.wrap IntKind.i64 (List.getD o.m (0 : Nat) (@default Con instInhabitedCon)).off) != nK o (List.length o.a) - nK o o.p) = false → ((true = true ∧ List.length o.a = List.length o.a ∧ contLe (List.length o.a) (5 : Nat) (cellsOf' encR o.a) (cellsOf' encR o.a)) ∧ (true = true ∧ List.length o.b = List.length o.b ∧ contLe (List.length o.b) (5 : Nat) (cellsOf' encR o.b) (cellsOf' encR o.b)) ∧ True) ∧ True ∧ (((List.length o.a ≤ (4611686018427387903 : Nat) ∧ List.length o.b ≤ (4611686018427387903 : Nat)) ∧ joOk o.a o.b = true) ∧ o.J = Jo.end (Option.getD (Jo.run (jo0 o.a o.b)) (jo0 o.a o.b))) ∧ (((↑(List.length o.J.ta) : Int) != IntKind.wrap IntKind.i64 ((↑(List.length o.a) : Int) + (1 : Int))) = true → (true = true → false = true ∧ True) ∧ (true = false → false = true ∧ True)) ∧ (((↑(List.length o.J.ta) : Int) != IntKind.wrap IntKind.i64 ((↑(List.length o.a) : Int) + (1 : Int))) = false → (((↑(List.length o.J.tb) : Int) != IntKind.wrap IntKind.i64 ((↑(List.length o.b) : Int) + (1 : Int))) = true → (true = true → false = true ∧ True) ∧ (true = false → false = true ∧ True)) ∧ (((↑(List.length o.J.tb) : Int) != IntKind.wrap IntKind.i64 ((↑(List.length o.b) : Int) + (1 : Int))) = false → ((false = false ∧ (1 : Nat) = List.length [{ name := cB, off := (↑o.p : Int) : Con }] ∧ contLe (1 : Nat) (2 : Nat) (fun (k j : Nat) => Ax.get [AV.s (Value.string { data := #[(99 : UInt8)] : ByteArray }), AV.y (Value.int IntKind.u64 (IntKind.wrap IntKind.u64 (↑o.p : Int)))] (((0 : Nat) + k) * (2 : Nat) + j)) (cellsOf' encC [{ name := cB, off := (↑o.p : Int) : Con }])) ∧ (false = false ∧ (1 : Nat) = List.length [{ name := cB, off := (↑o.q : Int) : Con }] ∧ contLe (1 : Nat) (2 : Nat) (fun (k j : Nat) => Ax.get [AV.s (Value.string { data := #[(99 : UInt8)] : ByteArray }), AV.y (Value.int IntKind.u64 (IntKind.wrap IntKind.u64 (↑o.q : Int)))] (((0 : Nat) + k) * (2 : Nat) + j)) (cellsOf' encC [{ name := cB, off := (↑o.q : Int) : Con }])) ∧ (false = false ∧ List.length o.J.ta = List.length o.J.ta ∧ contLe (List.length o.J.ta) (1 : Nat) (Ax.rowAt (0 : Nat) (cellsOf' encU o.J.ta)) (cellsOf' encU o.J.ta)) ∧ (false = false ∧ List.length o.J.tb = List.length o.J.tb ∧ contLe (List.length o.J.tb) (1 : Nat) (Ax.rowAt (0 : Nat) (cellsOf' encU o.J.tb)) (cellsOf' encU o.J.tb)) ∧ True) ∧ True ∧ (((List.length [{ name := cB, off := (↑o.p : Int) : Con }] ≤ (9223372036854775806 : Nat) ∧ List.length [{ name := cB, off := (↑o.q : Int) : Con }] ≤ (9223372036854775806 : Nat) ∧ (∀ (x : Con), x ∈ [{ name := cB, off := (↑o.p : Int) : Con }] → (0 : Int) ≤ x.off ∧ x.off < (18446744073709551616 : Int)) ∧ (∀ (x : Con), x ∈ [{ name := cB, off := (↑o.q : Int) : Con }] → (0 : Int) ≤ x.off ∧ x.off < (18446744073709551616 : Int)) ∧ List.length o.J.ta ≤ (9223372036854775806 : Nat) ∧ List.length o.J.tb ≤ (9223372036854775806 : Nat)) ∧ (bothE [{ name := cB, off := (↑o.p : Int) : Con }] [{ name := cB, off := (↑o.q : Int) : Con }] o.J.ta o.J.tb == (0 : Int)) = true) ∧ o.c = [joC [{ name := cB, off := (↑o.p : Int) : Con }] [{ name := cB, off := (↑o.q : Int) : Con }] o.J.ta o.J.tb { name := cB, off := (↑o.q : Int) : Con }]) ∧ true = true ∧ ((∀ (k : Nat), k < List.length o.c → ∀ (j : Nat), j < (2 : Nat) → tagT (cellsOf' encC o.c k j) = true) ∧ True) ∧ (((↑(List.length o.c) : Int) != (1 : Int)) = true → false = true ∧ True) ∧ (((↑(List.length o.c) : Int) != (1 : Int)) = false → (true && decide ((0 : Int) < (↑(List.length o.c) : Int))) = true ∧ decide ((0 : Nat) < List.length o.c) = true ∧ (decide (IntKind.wrap IntKind.u64 (↑(List.length o.J.out) : Int) < (List.getD o.c (0 : Nat) (@default Con instInhabitedCon)).off) = true → false = true ∧ True) ∧ (decide (IntKind.wrap IntKind.u64 (↑(List.length o.J.out) : Int) < (List.getD o.c (0 : Nat) (@default Con instInhabitedCon)).off) = false → ((true = true ∧ (true = true ∧ List.length o.a = List.length o.a ∧ contLe (List.length o.a) (5 : Nat) (cellsOf' encR o.a) (cellsOf' encR o.a)) ∧ (true = true ∧ List.length o.b = List.length o.b ∧ contLe (List.length o.b) (5 : Nat) (cellsOf' encR o.b) (cellsOf' encR o.b)) ∧ (↑o.q : Int) = (↑o.q : Int) ∧ False ∧ False ∧ False ∧ (↑o.p : Int) = (↑o.p : Int) ∧ True) ∧ (False ∧ False ∧ False ∧ True) ∧ true = true) ∧ LoopOk Tryd.prog (9 : Nat) (28 : Nat) (loopAt Tryd.prog (9 : Nat) (28 : Nat)) { t := u2T (3 : Nat) o o.p, m := u2M (3 : Nat) o, mv := [] : St } (T.map (lout u2X (u2S (3 : Nat) o)) ((fun (x : Nat) => T.ret ()) o.p)) ∧ ((true = true ∧ (true = true ∧ List.length o.b = List.length o.b ∧ contLe (List.length o.b) (5 : Nat) (cellsOf' encR o.b) (cellsOf' encR o.b)) ∧ ((0 : Nat) = (0 : Nat) ∧ List.length o.J.tb = List.length o.J.tb) ∧ ((0 : Nat) = (0 : Nat) ∧ List.length o.c = List.length o.c) ∧ (↑o.q : Int) = (↑o.q : Int) ∧ True) ∧ ((List.length o.J.ta = List.length o.J.ta ∧ contLe (List.length o.J.ta) (1 : Nat) (cellsOf' encU o.J.ta) (cellsOf' encU o.J.ta)) ∧ (List.length o.J.tb = List.length o.J.tb ∧ contLe (List.length o.J.tb) (1 : Nat) (cellsOf' encU o.J.tb) (cellsOf' encU o.J.tb)) ∧ (List.length o.c = List.length o.c ∧ contLe (List.length o.c) (2 : Nat) (cellsOf' encC o.c) (cellsOf' encC o.c)) ∧ True) ∧ true = true) ∧ LoopOk Tryd.prog (9 : Nat) (33 : Nat) (loopAt Tryd.prog (9 : Nat) (33 : Nat)) { t := u3T (3 : Nat) o o.q, m := u2M (3 : Nat) o, mv := [] : St } (T.map (lout u2X u3S) ((fun (x : Nat) => T.ret ()) o.q)) ∧ true = true ∧ True)))))))) ∧ (((0 : Int) == IntKind.wrap IntKind.i64 ((↑(List.length o.a) : Int) + (1 : Int))) = false → ((true = true ∧ List.length o.a = List.length o.a ∧ contLe (List.length o.a) (5 : Nat) (cellsOf' encR o.a) (cellsOf' encR o.a)) ∧ (true = true ∧ List.length o.b = List.length o.b ∧ contLe (List.length o.b) (5 : Nat) (cellsOf' encR o.b) (cellsOf' encR o.b)) ∧ True) ∧ True ∧ (((List.length o.a ≤ (4611686018427387903 : Nat) ∧ List.length o.b ≤ (4611686018427387903 : Nat)) ∧ joOk o.a o.b = true) ∧ o.J = Jo.end (Option.getD (Jo.run (jo0 o.a o.b)) (jo0 o.a o.b))) ∧ (((↑(List.length o.J.ta) : Int) != IntKind.wrap IntKind.i64 ((↑(List.length o.a) : Int) + (1 : Int))) = true → (true = true → false = true ∧ True) ∧ (true = false → false = true ∧ True)) ∧ (((↑(List.length o.J.ta) : Int) != IntKind.wrap IntKind.i64 ((↑(List.length o.a) : Int) + (1 : Int))) = false → (((↑(List.length o.J.tb) : Int) != IntKind.wrap IntKind.i64 ((↑(List.length o.b) : Int) + (1 : Int))) = true → (true = true → false = true ∧ True) ∧ (true = false → false = true ∧ True)) ∧ (((↑(List.length o.J.tb) : Int) != IntKind.wrap IntKind.i64 ((↑(List.length o.b) : Int) + (1 : Int))) = false → ((false = false ∧ (1 : Nat) = List.length [{ name := cB, off := (↑o.p : Int) : Con }] ∧ contLe (1 : Nat) (2 : Nat) (fun (k j : Nat) => Ax.get [AV.s (Value.string { data := #[(99 : UInt8)] : ByteArray }), AV.y (Value.int IntKind.u64 (IntKind.wrap IntKind.u64 (Int.tmod (IntKind.wrap IntKind.i64 o.one) (IntKind.wrap IntKind.i64 ((↑(List.length o.a) : Int) + (1 : Int))))))] (((0 : Nat) + k) * (2 : Nat) + j)) (cellsOf' encC [{ name := cB, off := (↑o.p : Int) : Con }])) ∧ (false = false ∧ (1 : Nat) = List.length [{ name := cB, off := (↑o.q : Int) : Con }] ∧ contLe (1 : Nat) (2 : Nat) (fun (k j : Nat) => Ax.get [AV.s (Value.string { data := #[(99 : UInt8)] : ByteArray }), AV.y (Value.int IntKind.u64 (IntKind.wrap IntKind.u64 (Int.tmod (IntKind.wrap IntKind.i64 o.two) (IntKind.wrap IntKind.i64 ((↑(List.length o.b) : Int) + (1 : Int))))))] (((0 : Nat) + k) * (2 : Nat) + j)) (cellsOf' encC [{ name := cB, off := (↑o.q : Int) : Con }])) ∧ (false = false ∧ List.length o.J.ta = List.length o.J.ta ∧ contLe (List.length o.J.ta) (1 : Nat) (Ax.rowAt (0 : Nat) (cellsOf' encU o.J.ta)) (cellsOf' encU o.J.ta)) ∧ (false = false ∧ List.length o.J.tb = List.length o.J.tb ∧ contLe (List.length o.J.tb) (1 : Nat) (Ax.rowAt (0 : Nat) (cellsOf' encU o.J.tb)) (cellsOf' encU o.J.tb)) ∧ True) ∧ True ∧ (((List.length [{ name := cB, off := (↑o.p : Int) : Con }] ≤ (9223372036854775806 : Nat) ∧ List.length [{ name := cB, off := (↑o.q : Int) : Con }] ≤ (9223372036854775806 : Nat) ∧ (∀ (x : Con), x ∈ [{ name := cB, off := (↑o.p : Int) : Con }] → (0 : Int) ≤ x.off ∧ x.off < (18446744073709551616 : Int)) ∧ (∀ (x : Con), x ∈ [{ name := cB, off := (↑o.q : Int) : Con }] → (0 : Int) ≤ x.off ∧ x.off < (18446744073709551616 : Int)) ∧ List.length o.J.ta ≤ (9223372036854775806 : Nat) ∧ List.length o.J.tb ≤ (9223372036854775806 : Nat)) ∧ (bothE [{ name := cB, off := (↑o.p : Int) : Con }] [{ name := cB, off := (↑o.q : Int) : Con }] o.J.ta o.J.tb == (0 : Int)) = true) ∧ o.c = [joC [{ name := cB, off := (↑o.p : Int) : Con }] [{ name := cB, off := (↑o.q : Int) : Con }] o.J.ta o.J.tb { name := cB, off := (↑o.q : Int) : Con }]) ∧ true = true ∧ ((∀ (k : Nat), k < List.length o.c → ∀ (j : Nat), j < (2 : Nat) → tagT (cellsOf' encC o.c k j) = true) ∧ True) ∧ (((↑(List.length o.c) : Int) != (1 : Int)) = true → false = true ∧ True) ∧ (((↑(List.length o.c) : Int) != (1 : Int)) = false → (true && decide ((0 : Int) < (↑(List.length o.c) : Int))) = true ∧ decide ((0 : Nat) < List.length o.c) = true ∧ (decide (IntKind.wrap IntKind.u64 (↑(List.length o.J.out) : Int) < (List.getD o.c (0 : Nat) (@default Con instInhabitedCon)).off) = true → false = true ∧ True) ∧ (decide (IntKind.wrap IntKind.u64 (↑(List.length o.J.out) : Int) < (List.getD o.c (0 : Nat) (@default Con instInhabitedCon)).off) = false → ((true = true ∧ (true = true ∧ List.length o.a = List.length o.a ∧ contLe (List.length o.a) (5 : Nat) (cellsOf' encR o.a) (cellsOf' encR o.a)) ∧ (true = true ∧ List.length o.b = List.length o.b ∧ contLe (List.length o.b) (5 : Nat) (cellsOf' encR o.b) (cellsOf' encR o.b)) ∧ Int.tmod (IntKind.wrap IntKind.i64 o.two) (IntKind.wrap IntKind.i64 ((↑(List.length o.b) : Int) + (1 : Int))) = (↑o.q : Int) ∧ ((0 : Nat) = (0 : Nat) ∧ List.length o.J.ta = List.length o.J.ta) ∧ ((0 : Nat) = (0 : Nat) ∧ List.length o.J.tb = List.length o.J.tb) ∧ ((0 : Nat) = (0 : Nat) ∧ List.length o.c = List.length o.c) ∧ Int.tmod (IntKind.wrap IntKind.i64 o.one) (IntKind.wrap IntKind.i64 ((↑(List.length o.a) : Int) + (1 : Int))) = (↑o.p : Int) ∧ True) ∧ ((List.length o.J.ta = List.length o.J.ta ∧ contLe (List.length o.J.ta) (1 : Nat) (cellsOf' encU o.J.ta) (cellsOf' encU o.J.ta)) ∧ (List.length o.J.tb = List.length o.J.tb ∧ contLe (List.length o.J.tb) (1 : Nat) (cellsOf' encU o.J.tb) (cellsOf' encU o.J.tb)) ∧ (List.length o.c = List.length o.c ∧ contLe (List.length o.c) (2 : Nat) (cellsOf' encC o.c) (cellsOf' encC o.c)) ∧ True) ∧ true = true) ∧ LoopOk Tryd.prog (9 : Nat) (28 : Nat) (loopAt Tryd.prog (9 : Nat) (28 : Nat)) { t := u2T (3 : Nat) o o.p, m := u2M (3 : Nat) o, mv := [] : St } (T.map (lout u2X (u2S (3 : Nat) o)) ((fun (x : Nat) => T.ret ()) o.p)) ∧ ((true = true ∧ (true = true ∧ List.length o.b = List.length o.b ∧ contLe (List.length o.b) (5 : Nat) (cellsOf' encR o.b) (cellsOf' encR o.b)) ∧ ((0 : Nat) = (0 : Nat) ∧ List.length o.J.tb = List.length o.J.tb) ∧ ((0 : Nat) = (0 : Nat) ∧ List.length o.c = List.length o.c) ∧ (↑o.q : Int) = (↑o.q : Int) ∧ True) ∧ ((List.length o.J.ta = List.length o.J.ta ∧ contLe (List.length o.J.ta) (1 : Nat) (cellsOf' encU o.J.ta) (cellsOf' encU o.J.ta)) ∧ (List.length o.J.tb = List.length o.J.tb ∧ contLe (List.length o.J.tb) (1 : Nat) (cellsOf' encU o.J.tb) (cellsOf' encU o.J.tb)) ∧ (List.length o.c = List.length o.c ∧ contLe (List.length o.c) (2 : Nat) (cellsOf' encC o.c) (cellsOf' encC o.c)) ∧ True) ∧ true = true) ∧ LoopOk Tryd.prog (9 : Nat) (33 : Nat) (loopAt Tryd.prog (9 : Nat) (33 : Nat)) { t := u3T (3 : Nat) o o.q, m := u2M (3 : Nat) o, mv := [] : St } (T.map (lout u2X u3S) ((fun (x : Nat) => T.ret ()) o.q)) ∧ true = true ∧ True)))))
set_option maxRecDepth 1000000 in
theorem vcN01_eq (o : Unr) : (ctrVC Tryd.prog (hh _ (u1J o (u2J 3 o)) (unC false true o) noOp) 9 [.agg (encX o)] [] (boolR true)) = vcN01 o := by kernel_rfl
def vcN10 (o : Unr) : Prop :=
  True ∧ True ∧ decide (IntKind.wrap IntKind.i64 ((↑(List.length o.a) : Int) + (1 : Int)) ≠ (0 : Int)) = true ∧ decide (IntKind.wrap IntKind.i64 ((↑(List.length o.b) : Int) + (1 : Int)) ≠ (0 : Int)) = true ∧ ((true = true ∧ List.length o.a = List.length o.a ∧ contLe (List.length o.a) (5 : Nat) (cellsOf' encR o.a) (cellsOf' encR o.a)) ∧ (o.r.lo = o.r.lo ∧ o.r.hi = o.r.hi ∧ True) ∧ True) ∧ True ∧ ((List.length o.a ≤ (4611686018427387903 : Nat) ∧ (isLog o.a && chkK o.r == (0 : Int)) = true) ∧ o.K = Ke.end (ke o.r o.a)) ∧ (((↑(List.length o.K.to) : Int) == IntKind.wrap IntKind.i64 ((↑(List.length o.a) : Int) + (1 : Int))) = true → ((false = false ∧ (1 : Nat) = List.length [{ name := cB, off := (↑o.p : Int) : Con }] ∧ contLe (1 : Nat) (2 : Nat) (fun (k j : Nat) => Ax.get [AV.s (Value.string { data := #[(99 : UInt8)] : ByteArray }), AV.y (Value.int IntKind.u64 (IntKind.wrap IntKind.u64 (Int.tmod (IntKind.wrap IntKind.i64 o.one) (IntKind.wrap IntKind.i64 ((↑(List.length o.a) : Int) + (1 : Int))))))] (((0 : Nat) + k) * (2 : Nat) + j)) (cellsOf' encC [{ name := cB, off := (↑o.p : Int) : Con }])) ∧ (false = false ∧ List.length o.K.to = List.length o.K.to ∧ contLe (List.length o.K.to) (1 : Nat) (Ax.rowAt (0 : Nat) (cellsOf' encU o.K.to)) (cellsOf' encU o.K.to)) ∧ True) ∧ True ∧ ((List.length o.K.to ≤ (9223372036854775806 : Nat) ∧ List.length [{ name := cB, off := (↑o.p : Int) : Con }] * (24 : Nat) ≤ (140737488355200 : Nat) ∧ ∀ (x : Con), x ∈ [{ name := cB, off := (↑o.p : Int) : Con }] → (0 : Int) ≤ x.off ∧ x.off < (18446744073709551616 : Int)) ∧ o.m = mapU [{ name := cB, off := (↑o.p : Int) : Con }] o.K.to (List.length [{ name := cB, off := (↑o.p : Int) : Con }])) ∧ true = true ∧ ((∀ (k : Nat), k < List.length o.m → ∀ (j : Nat), j < (2 : Nat) → tagT (cellsOf' encC o.m k j) = true) ∧ True) ∧ (((↑(List.length o.m) : Int) != (1 : Int)) = true → false = true ∧ True) ∧ (((↑(List.length o.m) : Int) != (1 : Int)) = false → (true && decide ((0 : Int) < (↑(List.length o.m) : Int))) = true ∧ decide ((0 : Nat) < List.length o.m) = true ∧ (decide (IntKind.wrap IntKind.u64 (↑(List.length o.K.out) : Int) < (List.getD o.m (0 : Nat) (@default Con instInhabitedCon)).off) = true → false = true ∧ True) ∧ (decide (IntKind.wrap IntKind.u64 (↑(List.length o.K.out) : Int) < (List.getD o.m (0 : Nat) (@default Con instInhabitedCon)).off) = false → ((true = true ∧ (true = true ∧ List.length o.a = List.length o.a ∧ contLe (List.length o.a) (5 : Nat) (cellsOf' encR o.a) (cellsOf' encR o.a)) ∧ (true = true ∧ List.length o.b = List.length o.b ∧ contLe (List.length o.b) (5 : Nat) (cellsOf' encR o.b) (cellsOf' encR o.b)) ∧ ((0 : Nat) = (0 : Nat) ∧ (0 : Nat) = (0 : Nat)) ∧ Int.tmod (IntKind.wrap IntKind.i64 o.one) (IntKind.wrap IntKind.i64 ((↑(List.length o.a) : Int) + (1 : Int))) = (↑o.p : Int) ∧ Int.tmod (IntKind.wrap IntKind.i64 o.two) (IntKind.wrap IntKind.i64 ((↑(List.length o.b) : Int) + (1 : Int))) = (↑o.q : Int) ∧ ((0 : Nat) = (0 : Nat) ∧ List.length o.K.out = List.length o.K.out) ∧ ((0 : Nat) = (0 : Nat) ∧ List.length o.m = List.length o.m) ∧ (0 : Int) = nK o o.p - nK o o.p ∧ Int.tmod (IntKind.wrap IntKind.i64 o.one) (IntKind.wrap IntKind.i64 ((↑(List.length o.a) : Int) + (1 : Int))) = (↑o.p : Int) ∧ True) ∧ ((o.r.lo = o.r.lo ∧ o.r.hi = o.r.hi ∧ True) ∧ (List.length o.K.out = List.length o.K.out ∧ contLe (List.length o.K.out) (5 : Nat) (cellsOf' encR o.K.out) (cellsOf' encR o.K.out)) ∧ (List.length o.m = List.length o.m ∧ contLe (List.length o.m) (2 : Nat) (cellsOf' encC o.m) (cellsOf' encC o.m)) ∧ True) ∧ true = true) ∧ LoopOk Tryd.prog (9 : Nat) (14 : Nat) (loopAt Tryd.prog (9 : Nat) (14 : Nat)) { t := u1T o o.p, m := u1M o, mv := [] : St } (T.map (lout rlX (u1S o)) ((fun (x : Nat) => T.ret ()) o.p)) ∧ (true && decide ((0 : Int) < (↑(List.length o.m) : Int))) = true ∧ decide ((0 : Nat) < List.length o.m) = true ∧ ((IntKind.wrap IntKind.i64 ((↑(List.length o.K.out) : Int) - IntKind.wrap IntKind.i64 (List.getD o.m (0 : Nat) (@default Con instInhabitedCon)).off) != nK o (List.length o.a) - nK o o.p) = true → false = true ∧ True) ∧ ((IntKind.wrap IntKind.i64 ((↑(List.length o.K.out) : Int) - IntKind.wrap IntKind.i64 (List.getD o.m (0 : Nat) (@default Con instInhabitedCon)).off) != nK o (List.length o.a) - nK o o.p) = false → ((true = true ∧ List.length o.a = List.length o.a ∧ contLe (List.length o.a) (5 : Nat) (cellsOf' encR o.a) (cellsOf' encR o.a)) ∧ (true = true ∧ List.length o.b = List.length o.b ∧ contLe (List.length o.b) (5 : Nat) (cellsOf' encR o.b) (cellsOf' encR o.b)) ∧ True) ∧ True ∧ (((List.length o.a ≤ (4611686018427387903 : Nat) ∧ List.length o.b ≤ (4611686018427387903 : Nat)) ∧ joOk o.a o.b = false) ∧ o.J = Jo.end (Option.getD (Jo.run (jo0 o.a o.b)) (jo0 o.a o.b))) ∧ ((isLog o.a && isLog o.b) = true → (decide (List.length o.a + List.length o.b ≤ (4096 : Nat)) = true → (true = true → true = true ∧ True) ∧ (true = false → false = true ∧ True)) ∧ (decide (List.length o.a + List.length o.b ≤ (4096 : Nat)) = false → (true = true → true = true ∧ True) ∧ (true = false → false = true ∧ True))) ∧ ((isLog o.a && isLog o.b) = false → (true = true → true = true ∧ True) ∧ (true = false → false = true ∧ True)))))) ∧ (((↑(List.length o.K.to) : Int) == IntKind.wrap IntKind.i64 ((↑(List.length o.a) : Int) + (1 : Int))) = false → ((true = true ∧ List.length o.a = List.length o.a ∧ contLe (List.length o.a) (5 : Nat) (cellsOf' encR o.a) (cellsOf' encR o.a)) ∧ (true = true ∧ List.length o.b = List.length o.b ∧ contLe (List.length o.b) (5 : Nat) (cellsOf' encR o.b) (cellsOf' encR o.b)) ∧ True) ∧ True ∧ (((List.length o.a ≤ (4611686018427387903 : Nat) ∧ List.length o.b ≤ (4611686018427387903 : Nat)) ∧ joOk o.a o.b = false) ∧ o.J = Jo.end (Option.getD (Jo.run (jo0 o.a o.b)) (jo0 o.a o.b))) ∧ ((isLog o.a && isLog o.b) = true → (decide (List.length o.a + List.length o.b ≤ (4096 : Nat)) = true → (true = true → true = true ∧ True) ∧ (true = false → false = true ∧ True)) ∧ (decide (List.length o.a + List.length o.b ≤ (4096 : Nat)) = false → (true = true → true = true ∧ True) ∧ (true = false → false = true ∧ True))) ∧ ((isLog o.a && isLog o.b) = false → (true = true → true = true ∧ True) ∧ (true = false → false = true ∧ True)))
set_option maxRecDepth 1000000 in
theorem vcN10_eq (o : Unr) : (ctrVC Tryd.prog (hh _ (u1J o noLp) (unC true false o) noOp) 9 [.agg (encX o)] [] (boolR true)) = vcN10 o := by kernel_rfl
def vcN00 (o : Unr) : Prop :=
  True ∧ True ∧ decide (IntKind.wrap IntKind.i64 ((↑(List.length o.a) : Int) + (1 : Int)) ≠ (0 : Int)) = true ∧ decide (IntKind.wrap IntKind.i64 ((↑(List.length o.b) : Int) + (1 : Int)) ≠ (0 : Int)) = true ∧ ((true = true ∧ List.length o.a = List.length o.a ∧ contLe (List.length o.a) (5 : Nat) (cellsOf' encR o.a) (cellsOf' encR o.a)) ∧ (o.r.lo = o.r.lo ∧ o.r.hi = o.r.hi ∧ True) ∧ True) ∧ True ∧ ((List.length o.a ≤ (4611686018427387903 : Nat) ∧ (isLog o.a && chkK o.r == (0 : Int)) = false) ∧ o.K = Ke.end (ke o.r o.a)) ∧ (((0 : Int) == IntKind.wrap IntKind.i64 ((↑(List.length o.a) : Int) + (1 : Int))) = true → ((false = false ∧ (1 : Nat) = List.length [{ name := cB, off := (↑o.p : Int) : Con }] ∧ contLe (1 : Nat) (2 : Nat) (fun (k j : Nat) => Ax.get [AV.s (Value.string { data := #[(99 : UInt8)] : ByteArray }), AV.y (Value.int IntKind.u64 (IntKind.wrap IntKind.u64 (Int.tmod (IntKind.wrap IntKind.i64 o.one) (IntKind.wrap IntKind.i64 ((↑(List.length o.a) : Int) + (1 : Int))))))] (((0 : Nat) + k) * (2 : Nat) + j)) (cellsOf' encC [{ name := cB, off := (↑o.p : Int) : Con }])) ∧ List.length o.K.to = (0 : Nat) ∧ True) ∧ True ∧ ((List.length o.K.to ≤ (9223372036854775806 : Nat) ∧ List.length [{ name := cB, off := (↑o.p : Int) : Con }] * (24 : Nat) ≤ (140737488355200 : Nat) ∧ ∀ (x : Con), x ∈ [{ name := cB, off := (↑o.p : Int) : Con }] → (0 : Int) ≤ x.off ∧ x.off < (18446744073709551616 : Int)) ∧ o.m = mapU [{ name := cB, off := (↑o.p : Int) : Con }] o.K.to (List.length [{ name := cB, off := (↑o.p : Int) : Con }])) ∧ true = true ∧ ((∀ (k : Nat), k < List.length o.m → ∀ (j : Nat), j < (2 : Nat) → tagT (cellsOf' encC o.m k j) = true) ∧ True) ∧ (((↑(List.length o.m) : Int) != (1 : Int)) = true → false = true ∧ True) ∧ (((↑(List.length o.m) : Int) != (1 : Int)) = false → (true && decide ((0 : Int) < (↑(List.length o.m) : Int))) = true ∧ decide ((0 : Nat) < List.length o.m) = true ∧ (decide ((0 : Int) < (List.getD o.m (0 : Nat) (@default Con instInhabitedCon)).off) = true → false = true ∧ True) ∧ (decide ((0 : Int) < (List.getD o.m (0 : Nat) (@default Con instInhabitedCon)).off) = false → ((true = true ∧ (true = true ∧ List.length o.a = List.length o.a ∧ contLe (List.length o.a) (5 : Nat) (cellsOf' encR o.a) (cellsOf' encR o.a)) ∧ (true = true ∧ List.length o.b = List.length o.b ∧ contLe (List.length o.b) (5 : Nat) (cellsOf' encR o.b) (cellsOf' encR o.b)) ∧ ((0 : Nat) = (0 : Nat) ∧ (0 : Nat) = (0 : Nat)) ∧ Int.tmod (IntKind.wrap IntKind.i64 o.one) (IntKind.wrap IntKind.i64 ((↑(List.length o.a) : Int) + (1 : Int))) = (↑o.p : Int) ∧ Int.tmod (IntKind.wrap IntKind.i64 o.two) (IntKind.wrap IntKind.i64 ((↑(List.length o.b) : Int) + (1 : Int))) = (↑o.q : Int) ∧ False ∧ False ∧ (0 : Int) = nK o o.p - nK o o.p ∧ Int.tmod (IntKind.wrap IntKind.i64 o.one) (IntKind.wrap IntKind.i64 ((↑(List.length o.a) : Int) + (1 : Int))) = (↑o.p : Int) ∧ True) ∧ ((o.r.lo = o.r.lo ∧ o.r.hi = o.r.hi ∧ True) ∧ False ∧ False) ∧ true = true) ∧ LoopOk Tryd.prog (9 : Nat) (14 : Nat) (loopAt Tryd.prog (9 : Nat) (14 : Nat)) { t := u1T o o.p, m := u1M o, mv := [] : St } (T.map (lout rlX (u1S o)) ((fun (x : Nat) => T.ret ()) o.p)) ∧ (true && decide ((0 : Int) < (↑(List.length o.m) : Int))) = true ∧ decide ((0 : Nat) < List.length o.m) = true ∧ ((IntKind.wrap IntKind.i64 ((↑(List.length o.K.out) : Int) - IntKind.wrap IntKind.i64 (List.getD o.m (0 : Nat) (@default Con instInhabitedCon)).off) != nK o (List.length o.a) - nK o o.p) = true → false = true ∧ True) ∧ ((IntKind.wrap IntKind.i64 ((↑(List.length o.K.out) : Int) - IntKind.wrap IntKind.i64 (List.getD o.m (0 : Nat) (@default Con instInhabitedCon)).off) != nK o (List.length o.a) - nK o o.p) = false → ((true = true ∧ List.length o.a = List.length o.a ∧ contLe (List.length o.a) (5 : Nat) (cellsOf' encR o.a) (cellsOf' encR o.a)) ∧ (true = true ∧ List.length o.b = List.length o.b ∧ contLe (List.length o.b) (5 : Nat) (cellsOf' encR o.b) (cellsOf' encR o.b)) ∧ True) ∧ True ∧ (((List.length o.a ≤ (4611686018427387903 : Nat) ∧ List.length o.b ≤ (4611686018427387903 : Nat)) ∧ joOk o.a o.b = false) ∧ o.J = Jo.end (Option.getD (Jo.run (jo0 o.a o.b)) (jo0 o.a o.b))) ∧ ((isLog o.a && isLog o.b) = true → (decide (List.length o.a + List.length o.b ≤ (4096 : Nat)) = true → (true = true → true = true ∧ True) ∧ (true = false → false = true ∧ True)) ∧ (decide (List.length o.a + List.length o.b ≤ (4096 : Nat)) = false → (true = true → true = true ∧ True) ∧ (true = false → false = true ∧ True))) ∧ ((isLog o.a && isLog o.b) = false → (true = true → true = true ∧ True) ∧ (true = false → false = true ∧ True)))))) ∧ (((0 : Int) == IntKind.wrap IntKind.i64 ((↑(List.length o.a) : Int) + (1 : Int))) = false → ((true = true ∧ List.length o.a = List.length o.a ∧ contLe (List.length o.a) (5 : Nat) (cellsOf' encR o.a) (cellsOf' encR o.a)) ∧ (true = true ∧ List.length o.b = List.length o.b ∧ contLe (List.length o.b) (5 : Nat) (cellsOf' encR o.b) (cellsOf' encR o.b)) ∧ True) ∧ True ∧ (((List.length o.a ≤ (4611686018427387903 : Nat) ∧ List.length o.b ≤ (4611686018427387903 : Nat)) ∧ joOk o.a o.b = false) ∧ o.J = Jo.end (Option.getD (Jo.run (jo0 o.a o.b)) (jo0 o.a o.b))) ∧ ((isLog o.a && isLog o.b) = true → (decide (List.length o.a + List.length o.b ≤ (4096 : Nat)) = true → (true = true → true = true ∧ True) ∧ (true = false → false = true ∧ True)) ∧ (decide (List.length o.a + List.length o.b ≤ (4096 : Nat)) = false → (true = true → true = true ∧ True) ∧ (true = false → false = true ∧ True))) ∧ ((isLog o.a && isLog o.b) = false → (true = true → true = true ∧ True) ∧ (true = false → false = true ∧ True)))
set_option maxRecDepth 1000000 in
theorem vcN00_eq (o : Unr) : (ctrVC Tryd.prog (hh _ (u1J o noLp) (unC false false o) noOp) 9 [.agg (encX o)] [] (boolR true)) = vcN00 o := by kernel_rfl
end Go.Proofs.YtjmdejbijigfjaaDoor

/-! Records: the law RecordsUnread: the plain laws. -/
namespace Go.Proofs.YtjmdejbijigfjaaDoor
open Go.Ax
set_option maxRecDepth 1000000
/-! what is kept -/
theorem ke_take_len (r : Rng) (l : List Rec) {k : Nat} (h : k < l.length) : (ke r (l.take (k + 1))).out.length = (ke r (l.take k)).out.length + (if hasK r (l.getD k default).key then 1 else 0) := by
  rw [ke_step h]
  unfold Ke.step
  dsimp only
  split <;> simp
theorem ke_mono (r : Rng) (l : List Rec) {p k : Nat} (h : p ≤ k) : (ke r (l.take p)).out.length ≤ (ke r (l.take k)).out.length := by
  induction k with
  | zero => obtain rfl : p = 0 := by omega
            exact Nat.le_refl _
  | succ k ih =>
    rcases Nat.lt_or_ge k p with h1 | h1
    · obtain rfl : p = k + 1 := by omega
      exact Nat.le_refl _
    · have := ih h1
      rcases Nat.lt_or_ge k l.length with h2 | h2
      · rw [ke_take_len r l h2]; omega
      · rw [List.take_of_length_le (i := k + 1) (by omega)]
        rw [List.take_of_length_le (i := k) h2] at this
        exact this
theorem ke_to (r : Rng) (l : List Rec) : ∀ k, k ≤ l.length → ∀ p, p < k → (ke r (l.take k)).to.getD p 0 = IntKind.u64.wrap ((ke r (l.take p)).out.length : Nat) := by
  intro k
  induction k with
  | zero => intro _ p hp; omega
  | succ k ih =>
    intro hk p hp
    have h1 := (ke_len r l k (by omega)).1
    rw [ke_step (by omega)]
    unfold Ke.step
    dsimp only
    rcases Nat.lt_or_ge p k with h2 | h2
    · have := ih (by omega) p h2
      rw [List.getD_eq_getElem?_getD] at this ⊢
      rw [List.getElem?_append_left (by omega)]
      exact this
    · obtain rfl : p = k := by omega
      rw [List.getD_eq_getElem?_getD, List.getElem?_append_right (by omega), h1]
      simp
theorem end_to (r : Rng) (l : List Rec) (p : Nat) (h : p ≤ l.length) : (ke r l).end.to.getD p 0 = IntKind.u64.wrap ((ke r (l.take p)).out.length : Nat) := by
  have h1 := (ke_len' r l).1
  unfold Ke.end
  dsimp only
  rcases Nat.lt_or_ge p l.length with h2 | h2
  · have := ke_to r l l.length (Nat.le_refl _) p h2
    rw [List.take_length] at this
    rw [List.getD_eq_getElem?_getD] at this ⊢
    rw [List.getElem?_append_left (by omega)]
    exact this
  · obtain rfl : p = l.length := by omega
    rw [List.take_length, List.getD_eq_getElem?_getD, List.getElem?_append_right (by omega), h1]
    simp
theorem elem_at {to : List Int} {p : Nat} (h : p < to.length) : elemO to (p : Nat) = to.getD p 0 := by
  unfold elemO
  have : min (p : Int) ((to.length : Int) - 1) = p := by rw [Int.min_def]; split <;> omega
  rw [this]; rfl
/-! two logs as one: the offsets do not go down -/
def nd (t : List Int) : Prop := ∀ i j, i ≤ j → j < t.length → t.getD i 0 ≤ t.getD j 0
def bd (t : List Int) (n : Int) : Prop := ∀ i, i < t.length → 0 ≤ t.getD i 0 ∧ t.getD i 0 ≤ n
theorem snoc_at (t : List Int) (n : Int) (i : Nat) (h : i < (t ++ [n]).length) : (t ++ [n]).getD i 0 = if i < t.length then t.getD i 0 else n := by
  rw [List.length_append, List.length_singleton] at h
  split
  · rename_i h1
    rw [List.getD_eq_getElem?_getD, List.getElem?_append_left h1, List.getD_eq_getElem?_getD]
  · rename_i h1
    obtain rfl : i = t.length := by omega
    rw [List.getD_eq_getElem?_getD, List.getElem?_append_right (Nat.le_refl _)]
    simp
theorem bd_snoc {t : List Int} {n m : Int} (h : bd t n) (h0 : 0 ≤ n) (hm : n ≤ m) : bd (t ++ [n]) m := by
  intro i hi
  rw [snoc_at t n i hi]
  split
  · rename_i h1
    have := h i h1; omega
  · omega
theorem bd_up {t : List Int} {n m : Int} (h : bd t n) (hm : n ≤ m) : bd t m := fun i hi => by
  have := h i hi; omega
theorem nd_snoc {t : List Int} {n : Int} (h : nd t) (hb : bd t n) : nd (t ++ [n]) := by
  intro i j hij hj
  have hi : i < (t ++ [n]).length := by omega
  rw [snoc_at t n i hi, snoc_at t n j hj]
  by_cases h1 : j < t.length
  · rw [if_pos h1, if_pos (show i < t.length by omega)]
    exact h i j hij h1
  · rw [if_neg h1]
    split
    · rename_i h2
      exact (hb i h2).2
    · exact Int.le_refl _
structure JI (A B : Nat) (s : Jo) : Prop where
  la : s.ta.length + s.a.length = A
  lb : s.tb.length + s.b.length = B
  n : s.out.length = s.ta.length + s.tb.length
  na : nd s.ta
  ba : bd s.ta (s.out.length : Nat)
  nb : nd s.tb
  bb : bd s.tb (s.out.length : Nat)
theorem at_eq {A B : Nat} {s : Jo} (h : JI A B s) (hn : A + B ≤ 4096) : s.at = (s.out.length : Nat) := by
  have h1 := h.la
  have h2 := h.lb
  have h3 := h.n
  unfold Jo.at
  rw [wrap_u64 (by omega) (by omega)]
theorem goA_ok {A B : Nat} {s : Jo} (h : JI A B s) (hn : A + B ≤ 4096) (ht : 0 < s.a.length) : JI A B s.goA := by
  have e := at_eq h hn
  have h1 := h.la
  have h3 := h.n
  have hb := h.ba
  have hl : (s.out ++ [(hd s.a).to s.at]).length = s.out.length + 1 := by simp
  refine ⟨?_, h.lb, ?_, ?_, ?_, h.nb, ?_⟩ <;> unfold Jo.goA <;> dsimp only
  · simp; omega
  · rw [hl]; simp; omega
  · rw [e]; exact nd_snoc h.na hb
  · rw [hl, e]; exact bd_snoc hb (by omega) (by omega)
  · rw [hl]; exact bd_up h.bb (by omega)
theorem goB_ok {A B : Nat} {s : Jo} (h : JI A B s) (hn : A + B ≤ 4096) (ht : 0 < s.b.length) : JI A B s.goB := by
  have e := at_eq h hn
  have h1 := h.lb
  have h3 := h.n
  have hb := h.bb
  have hl : (s.out ++ [(hd s.b).to s.at]).length = s.out.length + 1 := by simp
  refine ⟨h.la, ?_, ?_, h.na, ?_, ?_, ?_⟩ <;> unfold Jo.goB <;> dsimp only
  · simp; omega
  · rw [hl]; simp; omega
  · rw [hl]; exact bd_up h.ba (by omega)
  · rw [e]; exact nd_snoc h.nb hb
  · rw [hl, e]; exact bd_snoc hb (by omega) (by omega)
theorem pos_of_ne {l : List Rec} (h : (!l.isEmpty) = true) : 0 < l.length := by
  cases l
  · simp at h
  · simp
theorem joinN_ok {A B : Nat} (hn : A + B ≤ 4096) : ∀ (n : Nat) (s s' : Jo), n = s.a.length + s.b.length → JI A B s → joinN n s = some s' → JI A B s' ∧ s'.a = [] ∧ s'.b = []
  | 0, s, s', e, h, hj => by
    rw [joinN] at hj
    cases hj
    exact ⟨h, List.eq_nil_of_length_eq_zero (by omega), List.eq_nil_of_length_eq_zero (by omega)⟩
  | n + 1, s, s', e, h, hj => by
    rw [joinN] at hj
    by_cases hA : s.tA = true
    · rw [if_pos hA] at hj
      have hp : 0 < s.a.length := pos_of_ne (by unfold Jo.tA at hA; rw [Bool.and_eq_true] at hA; exact hA.1)
      exact joinN_ok hn n s.goA s' (by unfold Jo.goA; dsimp only; rw [List.length_tail]; omega) (goA_ok h hn hp) hj
    · rw [if_neg hA] at hj
      by_cases hB : s.tB = true
      · rw [if_pos hB] at hj
        have hp : 0 < s.b.length := pos_of_ne (by unfold Jo.tB at hB; rw [Bool.and_eq_true] at hB; exact hB.1)
        exact joinN_ok hn n s.goB s' (by unfold Jo.goB; dsimp only; rw [List.length_tail]; omega) (goB_ok h hn hp) hj
      · rw [if_neg hB] at hj
        cases hj
structure JE (A B : Nat) (s : Jo) : Prop where
  la : s.ta.length = A + 1
  lb : s.tb.length = B + 1
  n : s.out.length = A + B
  na : nd s.ta
  ba : bd s.ta (s.out.length : Nat)
  nb : nd s.tb
  bb : bd s.tb (s.out.length : Nat)
theorem run_je {a b : List Rec} (h : joOk a b = true) : JE a.length b.length ((jo0 a b).run.getD (jo0 a b)).end := by
  unfold joOk at h
  obtain ⟨_, h2⟩ := (Bool.and_eq_true _ _).mp h
  obtain ⟨h2, h3⟩ := (Bool.and_eq_true _ _).mp h2
  have hn := of_decide_eq_true h2
  obtain ⟨s, hs⟩ := Option.isSome_iff_exists.1 h3
  rw [hs, Option.getD_some]
  have h0 : JI a.length b.length (jo0 a b) := ⟨by simp [jo0], by simp [jo0], by simp [jo0], by intro i j _ hj; simp [jo0] at hj, by intro i hi; simp [jo0] at hi, by intro i j _ hj; simp [jo0] at hj, by intro i hi; simp [jo0] at hi⟩
  obtain ⟨g, ea, eb⟩ := joinN_ok hn _ (jo0 a b) s rfl h0 hs
  have e := at_eq g hn
  have g1 := g.la
  have g2 := g.lb
  have g3 := g.n
  rw [ea] at g1
  rw [eb] at g2
  simp at g1 g2
  refine ⟨?_, ?_, ?_, ?_, ?_, ?_, ?_⟩ <;> unfold Jo.end <;> dsimp only
  · simp; omega
  · simp; omega
  · omega
  · rw [e]; exact nd_snoc g.na g.ba
  · rw [e]; exact bd_snoc g.ba (by omega) (by omega)
  · rw [e]; exact nd_snoc g.nb g.bb
  · rw [e]; exact bd_snoc g.bb (by omega) (by omega)
end Go.Proofs.YtjmdejbijigfjaaDoor

/-! Records: the law RecordsUnread: the proof. -/
namespace Go.Proofs.YtjmdejbijigfjaaDoor
open Go.Ax
set_option maxRecDepth 1000000
theorem u1_loop (o : Unr) (hl : o.a.length ≤ 4611686018427387903) (k : Nat) : LoopOk Tryd.prog 9 14 (loopAt Tryd.prog 9 14) ⟨u1T o k, u1M o, []⟩ (T.map (lout rlX (u1S o)) (.ret ())) := by
  refine loop_vcH (ht := u1H o) (o := fun _ => .ret ()) (stM := fun _ => u1M o) Tryd.mixed (fun _ => rfl) (fun k => (vcU1_eq o k).mpr ?_) k
  unfold vcU1
  by_cases h : k < o.a.length
  · have e1 : IntKind.i64.wrap ((k : Int) + 1) = ((k + 1 : Nat) : Int) := by rw [wrap_i64 (by omega) (by omega)]; omega
    have hs := ke_take_len o.r o.a h
    have hz : decide ((k : Int) < o.a.length) = true := by simp; omega
    have b1 := (ke_len o.r o.a k (by omega)).2
    have e2 : ∀ n : Int, n = nK o k - nK o o.p + 1 → IntKind.i64.wrap (nK o k - nK o o.p + 1) = n := by
      intro n hn
      have b2 : nK o k = ((ke o.r (o.a.take k)).out.length : Nat) := rfl
      have b3 : nK o o.p = ((ke o.r (o.a.take o.p)).out.length : Nat) := rfl
      have b4 : (ke o.r (o.a.take o.p)).out.length ≤ (ke o.r (o.a.take o.a.length)).out.length := by
        rcases Nat.le_total o.p o.a.length with h1 | h1
        · exact ke_mono o.r o.a h1
        · rw [List.take_of_length_le h1, List.take_length]; exact Nat.le_refl _
      have b5 := (ke_len o.r o.a o.a.length (Nat.le_refl _)).2
      rw [hn, wrap_i64 (by omega) (by omega)]
    rw [e1]
    simp only [hz]
    cases hh : hasK o.r (o.a.getD k default).key
    · rw [hh] at hs
      simp
      refine Exists.intro (k + 1) ?_
      refine ⟨by omega, ?_, by omega⟩
      unfold nK; simp at hs; rw [hs]
    · rw [hh] at hs
      simp
      refine Exists.intro (k + 1) ?_
      refine ⟨by omega, ?_, by omega⟩
      refine e2 _ ?_
      unfold nK; simp at hs; rw [hs]; omega
  · have hz : decide ((k : Int) < o.a.length) = false := by simp; omega
    have hk : nK o k = nK o o.a.length := by unfold nK; rw [List.take_of_length_le (by omega), List.take_length]
    simp only [hz, hk]
    simp
/-- what is so of the parts -/
structure Unr.Good (o : Unr) : Prop where
  la : o.J.ta.length = o.a.length + 1
  lb : o.J.tb.length = o.b.length + 1
  ca : ∀ k, o.p ≤ k → k ≤ o.a.length → (o.c.getD 0 default).off ≤ o.J.ta.getD k 0
  cb : ∀ k, o.q ≤ k → k ≤ o.b.length → (o.c.getD 0 default).off ≤ o.J.tb.getD k 0
  n : o.c.length = 1
theorem u2a_loop (o : Unr) (g : o.Good) (hl : o.a.length ≤ 4611686018427387903) (k : { k : Nat // o.p ≤ k }) : LoopOk Tryd.prog 9 28 (loopAt Tryd.prog 9 28) ⟨u2T 7 o k.1, u2M 7 o, []⟩ (T.map (lout u2X (u2S 7 o)) (.ret ())) := by
  refine loop_vc (o := fun _ => .ret ()) (stT := fun (k : { k : Nat // o.p ≤ k }) => u2T 7 o k.1) (stM := fun _ => u2M 7 o) Tryd.mixed (fun _ => rfl) (fun k => (vcU2a_eq o k).mpr ?_) k
  unfold vcU2a
  obtain ⟨k, hk⟩ := k
  have h1 := g.la
  have h2 := g.n
  have h3 := g.ca k hk
  simp [h2] at h3
  simp [h1, h2]
  refine fun h => ⟨by omega, by omega, h3 (by omega), fun _ => ⟨k + 1, by omega, by omega, by rw [wrap_i64 (by omega) (by omega)]; omega⟩⟩
theorem u2b_loop (o : Unr) (g : o.Good) (hl : o.a.length ≤ 4611686018427387903) (k : { k : Nat // o.p ≤ k }) : LoopOk Tryd.prog 9 28 (loopAt Tryd.prog 9 28) ⟨u2T 3 o k.1, u2M 3 o, []⟩ (T.map (lout u2X (u2S 3 o)) (.ret ())) := by
  refine loop_vc (o := fun _ => .ret ()) (stT := fun (k : { k : Nat // o.p ≤ k }) => u2T 3 o k.1) (stM := fun _ => u2M 3 o) Tryd.mixed (fun _ => rfl) (fun k => (vcU2b_eq o k).mpr ?_) k
  unfold vcU2b
  obtain ⟨k, hk⟩ := k
  have h1 := g.la
  have h2 := g.n
  have h3 := g.ca k hk
  simp [h2] at h3
  simp [h1, h2]
  refine fun h => ⟨by omega, by omega, h3 (by omega), fun _ => ⟨k + 1, by omega, by omega, by rw [wrap_i64 (by omega) (by omega)]; omega⟩⟩
theorem u3a_loop (o : Unr) (g : o.Good) (hl : o.b.length ≤ 4611686018427387903) (k : { k : Nat // o.q ≤ k }) : LoopOk Tryd.prog 9 33 (loopAt Tryd.prog 9 33) ⟨u3T 7 o k.1, u2M 7 o, []⟩ (T.map (lout u2X u3S) (.ret ())) := by
  refine loop_vc (o := fun _ => .ret ()) (stT := fun (k : { k : Nat // o.q ≤ k }) => u3T 7 o k.1) (stM := fun _ => u2M 7 o) Tryd.mixed (fun _ => rfl) (fun k => (vcU3a_eq o k).mpr ?_) k
  unfold vcU3a
  obtain ⟨k, hk⟩ := k
  have h1 := g.lb
  have h2 := g.n
  have h3 := g.cb k hk
  simp [h2] at h3
  simp [h1, h2]
  refine fun h => ⟨by omega, by omega, h3 (by omega), fun _ => ⟨k + 1, by omega, by omega, by rw [wrap_i64 (by omega) (by omega)]; omega⟩⟩
theorem u3b_loop (o : Unr) (g : o.Good) (hl : o.b.length ≤ 4611686018427387903) (k : { k : Nat // o.q ≤ k }) : LoopOk Tryd.prog 9 33 (loopAt Tryd.prog 9 33) ⟨u3T 3 o k.1, u2M 3 o, []⟩ (T.map (lout u2X u3S) (.ret ())) := by
  refine loop_vc (o := fun _ => .ret ()) (stT := fun (k : { k : Nat // o.q ≤ k }) => u3T 3 o k.1) (stM := fun _ => u2M 3 o) Tryd.mixed (fun _ => rfl) (fun k => (vcU3b_eq o k).mpr ?_) k
  unfold vcU3b
  obtain ⟨k, hk⟩ := k
  have h1 := g.lb
  have h2 := g.n
  have h3 := g.cb k hk
  simp [h2] at h3
  simp [h1, h2]
  refine fun h => ⟨by omega, by omega, h3 (by omega), fun _ => ⟨k + 1, by omega, by omega, by rw [wrap_i64 (by omega) (by omega)]; omega⟩⟩
end Go.Proofs.YtjmdejbijigfjaaDoor

/-! Records: the law RecordsUnread: the law. -/
namespace Go.Proofs.YtjmdejbijigfjaaDoor
open Go.Ax
set_option maxRecDepth 1000000
theorem plc_ok {m : Int} {n : Nat} (h1 : 0 ≤ m) (h2 : m < 65536) (hn : n ≤ 4611686018427387903) : plcE m n = ((plcE m n).toNat : Int) ∧ (plcE m n).toNat ≤ n := by
  unfold plcE
  rw [wrap_i64 (n := m) (by omega) (by omega), wrap_i64 (n := (n : Int) + 1) (by omega) (by omega)]
  have h3 := Int.tmod_nonneg ((n : Int) + 1) h1
  have h4 := Int.tmod_lt_of_pos m (show (0 : Int) < (n : Int) + 1 by omega)
  omega
theorem nameB : nameOk cB = true := by decide
theorem consB (x : Int) : isCons [⟨cB, x⟩] = true := by
  have h : coOk [⟨cB, x⟩] 0 = true := by
    unfold coOk
    show (nameOk cB && !(decide (0 < 0) && _)) = true
    rw [nameB]; rfl
  unfold isCons
  rw [coFrom_step (by simp), h, coFrom_end (by simp)]
  rfl
theorem putL_nil (x : Con) : putL [] x = [x] := rfl
theorem readB (x : Int) : readO [⟨cB, x⟩] cB = x := by
  rw [readO_cons]
  simp [eqN]
theorem joB (p q : Int) (ta tb : List Int) (x : Int) : joC [⟨cB, p⟩] [⟨cB, q⟩] ta tb ⟨cB, x⟩ = ⟨cB, miN (elemO ta p) (elemO tb q)⟩ := by
  unfold joC
  rw [readB, readB]
theorem boB (p q : Int) (ta tb : List Int) : boU [⟨cB, p⟩] [⟨cB, q⟩] ta tb 2 = [⟨cB, miN (elemO ta p) (elemO tb q)⟩] := by
  show putL (putL [] (joC [⟨cB, p⟩] [⟨cB, q⟩] ta tb ⟨cB, p⟩)) (joC [⟨cB, p⟩] [⟨cB, q⟩] ta tb ⟨cB, q⟩) = _
  rw [joB, joB, putL_nil, putL_cons]
  have h : lt cB cB = false := less_irr _
  simp [h]
theorem botB (p q : Int) (ta tb : List Int) (h1 : 0 < ta.length) (h2 : 0 < tb.length) : bothE [⟨cB, p⟩] [⟨cB, q⟩] ta tb = 0 := by
  unfold bothE
  have e : boU [⟨cB, p⟩] [⟨cB, q⟩] ta tb ([⟨cB, p⟩] ++ [⟨cB, q⟩] : List Con).length = [⟨cB, miN (elemO ta p) (elemO tb q)⟩] := boB p q ta tb
  rw [consB, consB, e, decide_eq_false (show ¬ ta.length = 0 by omega), decide_eq_false (show ¬ tb.length = 0 by omega)]
  rfl
theorem mapB (p : Int) (to : List Int) (h : 0 < to.length) : mapU [⟨cB, p⟩] to 1 = [⟨cB, elemO to p⟩] := by
  unfold mapU
  rw [if_neg (by omega)]
  rfl
theorem lcB (x : Int) : contLe 1 2 (fun k j => Ax.get [AV.s (Value.string { data := #[99] }), AV.y (Value.int IntKind.u64 x)] (k * 2 + j)) (cellsOf' encC [{ name := cB, off := x }]) := by
  intro k hk j hj
  obtain rfl : k = 0 := by omega
  match j, hj with
  | 0, _ => simp [cellsOf', encC, cB]
  | 1, _ => simp [cellsOf', encC]
structure Unr.Facts (o : Unr) : Prop where
  la : o.a.length ≤ 4398046511104
  lb : o.b.length ≤ 4398046511104
  hp : plcE o.one o.a.length = o.p
  pl : o.p ≤ o.a.length
  hq : plcE o.two o.b.length = o.q
  ql : o.q ≤ o.b.length
  hK : o.K = (ke o.r o.a).end
  hJ : o.J = ((jo0 o.a o.b).run.getD (jo0 o.a o.b)).end
  hm : o.m = [⟨cB, elemO o.K.to o.p⟩]
  hc : o.c = [⟨cB, miN (elemO o.J.ta o.p) (elemO o.J.tb o.q)⟩]
theorem miN_le (x y : Int) : miN x y ≤ x ∧ miN x y ≤ y := by
  unfold miN; split <;> omega
theorem un_good {o : Unr} (f : o.Facts) (h : joOk o.a o.b = true) : o.Good ∧ (o.c.getD 0 default).off ≤ (o.J.out.length : Nat) ∧ 0 ≤ (o.c.getD 0 default).off ∧ o.J.out.length ≤ 4096 := by
  have g := run_je h
  rw [← f.hJ] at g
  have hn : o.a.length + o.b.length ≤ 4096 := by
    unfold joOk at h
    obtain ⟨_, h2⟩ := (Bool.and_eq_true _ _).mp h
    exact of_decide_eq_true ((Bool.and_eq_true _ _).mp h2).1
  have g1 := g.la
  have g2 := g.lb
  have p1 := f.pl
  have q1 := f.ql
  have ea : elemO o.J.ta o.p = o.J.ta.getD o.p 0 := elem_at (by omega)
  have eb : elemO o.J.tb o.q = o.J.tb.getD o.q 0 := elem_at (by omega)
  have hc : (o.c.getD 0 default).off = miN (o.J.ta.getD o.p 0) (o.J.tb.getD o.q 0) := by rw [f.hc, ea, eb]; rfl
  obtain ⟨m1, m2⟩ := miN_le (o.J.ta.getD o.p 0) (o.J.tb.getD o.q 0)
  have b1 := g.ba o.p (by omega)
  have b2 := g.bb o.q (by omega)
  have g3 := g.n
  refine ⟨⟨g1, g2, fun k h1 h2 => ?_, fun k h1 h2 => ?_, by rw [f.hc]; rfl⟩, by rw [hc]; omega, ?_, by omega⟩
  · rw [hc]; exact Int.le_trans m1 (g.na o.p k h1 (by omega))
  · rw [hc]; exact Int.le_trans m2 (g.nb o.q k h1 (by omega))
  · rw [hc]; unfold miN; split <;> omega
theorem un_c (o : Unr) (f : o.Facts) : (boolR true).Sat (ACall' Tryd.prog 9 [.agg (encX o)] []) := by
  have la := f.la
  have lb := f.lb
  have pl := f.pl
  have ql := f.ql
  have e1 : IntKind.i64.wrap ((o.a.length : Int) + 1) = (o.a.length : Int) + 1 := wrap_i64 (by omega) (by omega)
  have e2 : IntKind.i64.wrap ((o.b.length : Int) + 1) = (o.b.length : Int) + 1 := wrap_i64 (by omega) (by omega)
  have hp := f.hp
  have hq := f.hq
  unfold plcE at hp hq
  rw [e1] at hp
  rw [e2] at hq
  have wp : IntKind.u64.wrap (o.p : Int) = o.p := wrap_u64 (by omega) (by omega)
  have wq : IntKind.u64.wrap (o.q : Int) = o.q := wrap_u64 (by omega) (by omega)
  have n1 : ¬ ((o.a.length : Int) + 1 = 0) := by omega
  have n2 : ¬ ((o.b.length : Int) + 1 = 0) := by omega
  have n3 : ¬ ((0 : Int) = (o.a.length : Int) + 1) := by omega
  have l1 := u1_loop o (by omega) o.p
  have tm := tagC o.m
  have tc := tagC o.c
  have hK := f.hK
  have hJ := f.hJ
  cases hi : (isLog o.a && chkK o.r == 0)
  · cases hj : joOk o.a o.b
    · refine ctr_vc (ht := hh _ (u1J o noLp) (unC false false o) noOp) Tryd.mixed rfl ?_
      rw [vcN00_eq o]
      unfold vcN00
      simp only [e1, e2, hp, hq, wp, wq, hi, hj]
      simp [n1, n2, n3]
      repeat' apply And.intro
      all_goals first | omega | assumption
    · obtain ⟨g, gc, gz, gn⟩ := un_good f hj
      have l2 := u2b_loop o g (by omega) ⟨o.p, Nat.le_refl _⟩
      have l3 := u3b_loop o g (by omega) ⟨o.q, Nat.le_refl _⟩
      have wJ : IntKind.u64.wrap (o.J.out.length : Int) = o.J.out.length := wrap_u64 (by omega) (by omega)
      have ht1 := g.la
      have ht2 := g.lb
      have hcl := g.n
      have tc0 : ∀ (j : Nat), j < 2 → tagT (cellsOf' encC o.c 0 j) = true := tc 0 (by omega)
      have hb := botB o.p o.q o.J.ta o.J.tb (by omega) (by omega)
      have hjc := joB o.p o.q o.J.ta o.J.tb o.q
      have hc := f.hc
      have nc : ¬ ((o.J.out.length : Int) < (o.c.getD 0 default).off) := by omega
      refine ctr_vc (ht := hh _ (u1J o (u2J 3 o)) (unC false true o) noOp) Tryd.mixed rfl ?_
      rw [vcN01_eq o]
      unfold vcN01
      simp only [e1, e2, hp, hq, wp, wq, hi, hj, wJ, ht1, ht2, hcl, hb, hjc, l2, l3, nc]
      simp [n1, n2, n3]
      repeat' apply And.intro
      all_goals first | omega | assumption | exact lcB _ | exact tc0
  · have hln := log_len ((Bool.and_eq_true _ _).mp hi).1
    obtain ⟨q1, q2⟩ := ke_len' o.r o.a
    have kt : o.K.to.length = o.a.length + 1 := by rw [hK]; unfold Ke.end; simp [q1]
    have ko : nK o o.a.length = (o.K.out.length : Nat) := by rw [hK]; unfold nK; rw [List.take_length]; rfl
    have kl : o.K.out.length ≤ o.a.length := by rw [hK]; exact q2
    have kp : nK o o.p ≤ (o.K.out.length : Nat) := by
      rw [← ko]; unfold nK
      have := ke_mono o.r o.a pl
      omega
    have kz : 0 ≤ nK o o.p := by unfold nK; omega
    have em : elemO o.K.to o.p = nK o o.p := by
      rw [elem_at (by omega), hK, end_to o.r o.a o.p pl]
      have : ((ke o.r (o.a.take o.p)).out.length : Int) ≤ 4096 := by unfold nK at kp; omega
      unfold nK
      rw [wrap_u64 (by omega) (by omega)]
    have hm := f.hm
    rw [em] at hm
    have hmu := mapB o.p o.K.to (by omega)
    rw [em] at hmu
    have wK : IntKind.u64.wrap (o.K.out.length : Int) = o.K.out.length := wrap_u64 (by omega) (by omega)
    have wM : IntKind.i64.wrap (nK o o.p) = nK o o.p := wrap_i64 (by omega) (by omega)
    have wD : IntKind.i64.wrap ((o.K.out.length : Int) - nK o o.p) = (o.K.out.length : Int) - nK o o.p := wrap_i64 (by omega) (by omega)
    have hml : o.m.length = 1 := by rw [hm]; rfl
    have tm0 : ∀ (j : Nat), j < 2 → tagT (cellsOf' encC o.m 0 j) = true := tm 0 (by omega)
    have hmo : (o.m.getD 0 default).off = nK o o.p := by rw [hm]; rfl
    have nm : ¬ ((o.K.out.length : Int) < nK o o.p) := by omega
    cases hj : joOk o.a o.b
    · refine ctr_vc (ht := hh _ (u1J o noLp) (unC true false o) noOp) Tryd.mixed rfl ?_
      rw [vcN10_eq o]
      unfold vcN10
      simp only [e1, e2, hp, hq, wp, wq, hi, hj, kt, ko, wK, wM, wD, hml, hmo, nm, l1]
      simp [n1, n2, n3]
      repeat' apply And.intro
      all_goals first | omega | assumption | exact lcB _ | exact tm0 | (rw [hmu]; exact hm)
    · obtain ⟨g, gc, gz, gn⟩ := un_good f hj
      have l2 := u2a_loop o g (by omega) ⟨o.p, Nat.le_refl _⟩
      have l3 := u3a_loop o g (by omega) ⟨o.q, Nat.le_refl _⟩
      have wJ : IntKind.u64.wrap (o.J.out.length : Int) = o.J.out.length := wrap_u64 (by omega) (by omega)
      have ht1 := g.la
      have ht2 := g.lb
      have hcl := g.n
      have tc0 : ∀ (j : Nat), j < 2 → tagT (cellsOf' encC o.c 0 j) = true := tc 0 (by omega)
      have hb := botB o.p o.q o.J.ta o.J.tb (by omega) (by omega)
      have hjc := joB o.p o.q o.J.ta o.J.tb o.q
      have hc := f.hc
      have nc : ¬ ((o.J.out.length : Int) < (o.c.getD 0 default).off) := by omega
      refine ctr_vc (ht := hh _ (u1J o (u2J 7 o)) (unC true true o) noOp) Tryd.mixed rfl ?_
      rw [vcN11_eq o]
      unfold vcN11
      simp only [e1, e2, hp, hq, wp, wq, hi, hj, kt, ko, wK, wM, wD, hml, hmo, nm, l1, wJ, ht1, ht2, hcl, hb, hjc, l2, l3, nc]
      simp [n1, n2, n3]
      repeat' apply And.intro
      all_goals first | omega | assumption | exact lcB _ | exact tm0 | exact tc0 | (rw [hmu]; exact hm)
end Go.Proofs.YtjmdejbijigfjaaDoor

/-! Records: the law RecordsNames: evaluated, with the contract of Both. -/
namespace Go.Proofs.YtjmdejbijigfjaaDoor
open Go.Ax
set_option maxRecDepth 1000000
set_option maxHeartbeats 4000000
noncomputable def nmbH : HintsT Tryd.prog := hh _ noLp (cs1 10 1 0 livesC (cs1 10 6 6 (btX false false false false [⟨cB, 2⟩] [⟨cB, 0⟩] [1, 2, 4] [0, 3, 4] [⟨cB, 0⟩]) noCs)) noOp
def vcNmb (u : Unit) : Prop :=
  True ∧ True ∧ true = true ∧ (true = true ∧ true = true ∧ True) ∧ true = true ∧ True ∧ true = true ∧ True ∧ true = true ∧ True ∧ true = true ∧ True ∧ true = true ∧ True ∧ true = true ∧ True ∧ true = true ∧ True ∧ true = true ∧ True ∧ true = true ∧ True ∧ true = true ∧ True ∧ true = true ∧ (true = true ∧ true = true ∧ true = true ∧ True) ∧ true = true ∧ True ∧ true = true ∧ True ∧ true = true ∧ True ∧ true = true ∧ True ∧ true = true ∧ True ∧ true = true ∧ (true = true ∧ True) ∧ ((false = false ∧ (1 : Nat) = (1 : Nat) ∧ contLe (1 : Nat) (2 : Nat) (fun (k j : Nat) => Ax.get [AV.s (Value.string { data := #[(99 : UInt8)] : ByteArray }), AV.s (Value.int IntKind.u64 (2 : Int))] (((0 : Nat) + k) * (2 : Nat) + j)) (cellsOf' encC [{ name := cB, off := (2 : Int) : Con }])) ∧ (false = false ∧ (1 : Nat) = (1 : Nat) ∧ contLe (1 : Nat) (2 : Nat) (fun (k j : Nat) => Ax.get [AV.s (Value.string { data := #[(99 : UInt8)] : ByteArray }), AV.s (Value.int IntKind.u64 (0 : Int))] (((0 : Nat) + k) * (2 : Nat) + j)) (cellsOf' encC [{ name := cB, off := (0 : Int) : Con }])) ∧ (false = false ∧ (3 : Nat) = (3 : Nat) ∧ contLe (3 : Nat) (1 : Nat) (fun (k j : Nat) => Ax.get [AV.s (Value.int IntKind.u64 (1 : Int)), AV.s (Value.int IntKind.u64 (2 : Int)), AV.s (Value.int IntKind.u64 (4 : Int))] (((0 : Nat) + k) * (1 : Nat) + j)) (cellsOf' encU [(1 : Int), (2 : Int), (4 : Int)])) ∧ (false = false ∧ (3 : Nat) = (3 : Nat) ∧ contLe (3 : Nat) (1 : Nat) (fun (k j : Nat) => Ax.get [AV.s (Value.int IntKind.u64 (0 : Int)), AV.s (Value.int IntKind.u64 (3 : Int)), AV.s (Value.int IntKind.u64 (4 : Int))] (((0 : Nat) + k) * (1 : Nat) + j)) (cellsOf' encU [(0 : Int), (3 : Int), (4 : Int)])) ∧ True) ∧ True ∧ ((((1 : Nat) ≤ (9223372036854775806 : Nat) ∧ (1 : Nat) ≤ (9223372036854775806 : Nat) ∧ (∀ (x : Con), x ∈ [{ name := cB, off := (2 : Int) : Con }] → (0 : Int) ≤ x.off ∧ x.off < (18446744073709551616 : Int)) ∧ (∀ (x : Con), x ∈ [{ name := cB, off := (0 : Int) : Con }] → (0 : Int) ≤ x.off ∧ x.off < (18446744073709551616 : Int)) ∧ (3 : Nat) ≤ (9223372036854775806 : Nat) ∧ (3 : Nat) ≤ (9223372036854775806 : Nat)) ∧ true = true) ∧ [{ name := cB, off := (0 : Int) : Con }] = [joC [{ name := cB, off := (2 : Int) : Con }] [{ name := cB, off := (0 : Int) : Con }] [(1 : Int), (2 : Int), (4 : Int)] [(0 : Int), (3 : Int), (4 : Int)] { name := cB, off := (0 : Int) : Con }]) ∧ true = true ∧ ((∀ (k : Nat), k < (1 : Nat) → ∀ (j : Nat), j < (2 : Nat) → tagT (cellsOf' encC [{ name := cB, off := (0 : Int) : Con }] k j) = true) ∧ True) ∧ true = true ∧ True ∧ true = true ∧ True ∧ true = true ∧ True ∧ true = true ∧ True ∧ true = true ∧ True ∧ true = true ∧ True ∧ true = true ∧ True ∧ true = true ∧ True ∧ true = true ∧ True ∧ (true = true → true = true ∧ true = true ∧ (true = true → (true = true → true = true ∧ True) ∧ (true = false → false = true ∧ True)) ∧ (true = false → false = true ∧ True)) ∧ (true = false → (true = true → false = true ∧ True) ∧ (true = false → false = true ∧ True))
set_option maxRecDepth 1000000 in
theorem vcNmb_eq (u : Unit) : (ctrVC Tryd.prog nmbH 10 [] [] (boolR true)) = vcNmb u := by kernel_rfl
end Go.Proofs.YtjmdejbijigfjaaDoor
