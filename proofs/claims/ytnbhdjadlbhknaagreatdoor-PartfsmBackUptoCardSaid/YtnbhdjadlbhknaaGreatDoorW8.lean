/- PROVED: what a shard's state and a command are written to is read as it was, and what is read was written so, where what is read is of bulk at most 1048576 (PartfsmBack, second form). -/
import Derived.Test.YtnbhdjadlbhknaaGreatDoorRows
import Derived.Test.YtnbhdjadlbhknaaGreatDoorTie
import Derived.Test.YtnbhdjadlbhknaaGreatDoorCards
import Derived.OpenShut
import Derived.Lay
import Derived.Handed
import Derived.SevenTiedAt
import Derived.LaidHandle
import Derived.Deep.DeepHandedRow
import Derived.Test.YtnbhdjadlbhknaaGreatDoorE11
import Derived.Test.YtnbhdjadlbhknaaGreatDoorW1
import Derived.Test.YtnbhdjadlbhknaaGreatDoorW3
import Derived.Test.YtnbhdjadlbhknaaGreatDoorW7
set_option linter.unusedVariables false
set_option linter.unusedSimpArgs false
set_option linter.unusedSectionVars false
namespace Go.Proofs.YtnbhdjadlbhknaaGreatDoor.J
open Go.Ax
set_option maxRecDepth 1000000
theorem cmd_head {c : R.Cmd} (h : c.kind = 1 ∨ c.kind = 2 ∨ c.kind = 3 ∨ c.kind = 4 ∨ c.kind = 5 ∨ c.kind = 6) : ∃ r, cmdB c = intB c.kind ++ (uintB c.epoch ++ r) := by
  by_cases h1 : c.kind = 1
  · rw [cmd1 h1]; exact ⟨_, by simp only [encProduce, List.nil_append, List.append_assoc]; rfl⟩
  · by_cases h2 : c.kind = 2
    · rw [cmd2 h2]; exact ⟨_, by simp only [encFetch, List.nil_append, List.append_assoc]; rfl⟩
    · by_cases h3 : c.kind = 3
      · rw [cmd3 h3]; exact ⟨_, by simp only [encCommit, List.nil_append, List.append_assoc]; rfl⟩
      · by_cases h4 : c.kind = 4
        · rw [cmd4 h4]; exact ⟨_, by simp only [encRead, List.nil_append, List.append_assoc]; rfl⟩
        · rw [cmd5 (by omega)]; exact ⟨_, by simp only [encPlan, List.nil_append, List.append_assoc]; rfl⟩
theorem app_nil {a : List Int} : a = a ++ [] := by simp
theorem cm_not {c : R.Cmd} (h : CmT c) (h0 : (rcS (cmdB c)).2 = 0) : R.wellB c = true := by
  obtain ⟨e, hw, ht⟩ := cm_bwd (cmd_rl h) h0
  generalize (rcS (cmdB c)).1 = g at e hw ht
  have hg := well_kind hw
  obtain ⟨r, er⟩ := cmd_head hg
  have hc : c.kind = 1 ∨ c.kind = 2 ∨ c.kind = 3 ∨ c.kind = 4 ∨ c.kind = 5 ∨ c.kind = 6 := by
    by_cases hc : c.kind = 1 ∨ c.kind = 2 ∨ c.kind = 3 ∨ c.kind = 4 ∨ c.kind = 5 ∨ c.kind = 6
    · exact hc
    · exfalso
      rw [cmd0 hc, er] at e
      have h1 := congrArg List.length e
      have h2 := uintB_pos (zig g.kind)
      unfold intB at h1
      simp only [List.length_append, List.length_nil] at h1
      omega
  obtain ⟨r', er'⟩ := cmd_head hc
  have hk : g.kind = c.kind := by
    rw [er, er'] at e
    exact (i_inj ht.u.kind h.u.kind e).1
  obtain ⟨⟨g1, g2, g3, g4, g5, g6, g7, gn⟩, gb⟩ := ht
  obtain ⟨⟨c1, c2, c3, c4, c5, c6, c7, cn⟩, cb⟩ := h
  rw [← hw]
  by_cases k1 : c.kind = 1
  · rw [cmd1 (hk.trans k1), cmd1 k1] at e
    simp only [encProduce, List.nil_append, List.append_assoc] at e
    obtain ⟨_, e⟩ := i_inj g1 c1 e
    obtain ⟨_, e⟩ := u_inj g2 c2 e
    obtain ⟨e3, e⟩ := u_inj g3 c3 e
    obtain ⟨e4, e⟩ := u_inj g4 c4 e
    obtain ⟨e5, e⟩ := s_inj (by omega) (by omega) e
    rw [app_nil (a := textB g.val), app_nil (a := textB c.val)] at e
    obtain ⟨e6, _⟩ := t_inj (by omega) (by omega) e
    unfold R.wellB R.okN
    rw [hk, e3, e4, e5, e6, if_pos k1, if_pos k1]
  · by_cases k2 : c.kind = 2
    · rw [cmd2 (hk.trans k2), cmd2 k2] at e
      simp only [encFetch, List.nil_append, List.append_assoc] at e
      obtain ⟨_, e⟩ := i_inj g1 c1 e
      obtain ⟨_, e⟩ := u_inj g2 c2 e
      obtain ⟨_, e⟩ := u_inj g5 c5 e
      rw [app_nil (a := intB g.most), app_nil (a := intB c.most)] at e
      obtain ⟨e6, _⟩ := i_inj g6 c6 e
      unfold R.wellB
      rw [hk, e6, if_neg k1, if_pos k2, if_neg k1, if_pos k2]
    · by_cases k3 : c.kind = 3
      · rw [cmd3 (hk.trans k3), cmd3 k3] at e
        simp only [encCommit, List.nil_append, List.append_assoc] at e
        obtain ⟨_, e⟩ := i_inj g1 c1 e
        obtain ⟨_, e⟩ := u_inj g2 c2 e
        obtain ⟨e3, e⟩ := u_inj g3 c3 e
        obtain ⟨e4, e⟩ := u_inj g4 c4 e
        obtain ⟨e5, e⟩ := s_inj (by omega) (by omega) e
        unfold R.wellB R.okN
        rw [hk, e3, e4, e5, if_neg k1, if_neg k2, if_pos k3, if_neg k1, if_neg k2, if_pos k3]
      · by_cases k4 : c.kind = 4
        · rw [cmd4 (hk.trans k4), cmd4 k4] at e
          simp only [encRead, List.nil_append, List.append_assoc] at e
          obtain ⟨_, e⟩ := i_inj g1 c1 e
          obtain ⟨_, e⟩ := u_inj g2 c2 e
          rw [app_nil (a := textB (strB g.name)), app_nil (a := textB (strB c.name))] at e
          obtain ⟨e5, e⟩ := s_inj (by omega) (by omega) e
          unfold R.wellB
          rw [hk, e5, if_neg k1, if_neg k2, if_neg k3, if_pos k4, if_neg k1, if_neg k2, if_neg k3, if_pos k4]
        · have k5 : c.kind = 5 ∨ c.kind = 6 := by omega
          rw [cmd5 (by rw [hk]; exact k5), cmd5 k5] at e
          simp only [encPlan, List.nil_append, List.append_assoc] at e
          obtain ⟨_, e⟩ := i_inj g1 c1 e
          obtain ⟨_, e⟩ := u_inj g2 c2 e
          rw [app_nil (a := uintB g.plan), app_nil (a := uintB c.plan)] at e
          obtain ⟨e5, e⟩ := u_inj g7 c7 e
          unfold R.wellB
          rw [hk, e5, if_neg k1, if_neg k2, if_neg k3, if_neg k4, if_pos k5, if_neg k1, if_neg k2, if_neg k3, if_neg k4]
end Go.Proofs.YtnbhdjadlbhknaaGreatDoor.J

namespace Go.Proofs.YtnbhdjadlbhknaaGreatDoor.R
open Go.Ax
set_option maxRecDepth 1000000
def encCms (b : Bool) (l : List Cmd) : AV := .ys b 10 l.length (cellsOf' encCm l)
noncomputable def sptC (b1 b2 : Bool) (p q : Part) : Ctr Tryz.prog := ⟨19, [.agg (encPt b1 p), .agg (encPt b2 q)], [], .need (PartIn p) (boolR (samePt p q)), T.Sat.need fun h => spt_c b1 b2 p q h⟩
def stT (l : List Cmd) (i : Nat) : List AV := mkT 63 [(1, encCms true l), (2, .ptr 0 0 0 0), (5, .y (.bool true)), (6, .y (.int .i64 i))]
def stM (f : Nat → Part) (i : Nat) : List Blk := [.box 30 (encPt true (f i))]
def stS (_ : Unit) : Exit × List AV × List Blk := (.exit 0, mkT 63 [(5, .y (.bool true))], [])
end Go.Proofs.YtnbhdjadlbhknaaGreatDoor.R

namespace Go.Proofs.YtnbhdjadlbhknaaGreatDoor.J
open Go.Ax
set_option maxRecDepth 1000000
noncomputable def lvH3 : HintsT Tryz.prog := withInsC (closedH Tryz.prog noSh) P.lay
def vcLv3 (u : Unit) : Prop :=
  (false = true → (false = true → false = true ∧ True) ∧ (false = false → (false = true → false = true ∧ True) ∧ (false = false → (false = true → false = true ∧ True) ∧ (false = false → true = true ∧ false = true ∧ True)))) ∧ (false = false → (false = true → (false = true → false = true ∧ True) ∧ (false = false → (false = true → false = true ∧ True) ∧ (false = false → (false = true → false = true ∧ True) ∧ (false = false → true = true ∧ false = true ∧ True)))) ∧ (false = false → (false = true → (false = true → false = true ∧ True) ∧ (false = false → true = true ∧ True)) ∧ (false = false → true = true ∧ (false = true → false = true ∧ True) ∧ (false = false → (false = true → true = true ∧ false = true ∧ True) ∧ (false = false → true = true ∧ true = true ∧ True)))))
theorem vcLv3_eq (u : Unit) : (ctrVC Tryz.prog lvH3 10 [] [] (boolR true)) = vcLv3 u := by kernel_rfl
theorem lv3_c : (boolR true).Sat (ACall' Tryz.prog 10 [] []) := by
  refine ctr_vc (ht := lvH3) Tryz.mixed rfl ?_
  rw [vcLv3_eq ()]
  unfold vcLv3
  simp
noncomputable def livD : Ctr Tryz.prog := ⟨10, [], [], boolR true, lv3_c⟩
end Go.Proofs.YtnbhdjadlbhknaaGreatDoor.J

namespace Go.Proofs.YtnbhdjadlbhknaaGreatDoor.J
open Go.Ax
set_option maxRecDepth 1000000
noncomputable def nameD (s : ByteArray) : Ctr Tryz.prog := ⟨95, [.y (.string s)], [], boolR (nameOk s), nm_c s⟩
noncomputable def jdD (c : R.Cmd) : Ctr Tryz.prog := P.judgeC2 true [] c.prod c.seq (by decide)
noncomputable def isH (c : R.Cmd) : HintsT Tryz.prog := hh _ noLp (cs1 29 3 4 (jdD c) (cs1 29 8 4 (jdD c) (cs1 29 9 5 (nameD c.name) (cs1 29 11 2 (nameD c.name) noCs)))) noOp
def vcIs (c : R.Cmd) : Prop :=
  ((c.kind == (1 : Int)) = true → ((0 : Nat) = (0 : Nat) ∧ c.prod = c.prod ∧ c.seq = c.seq ∧ True) ∧ True ∧ ((P.judgeV [] c.prod c.seq != (4 : Int)) = true → (decide ((↑(ByteArray.size c.key) : Int) ≤ (32 : Int)) = true → decide ((↑(List.length c.val) : Int) ≤ (256 : Int)) = R.wellB c ∧ True) ∧ (decide ((↑(ByteArray.size c.key) : Int) ≤ (32 : Int)) = false → false = R.wellB c ∧ True)) ∧ ((P.judgeV [] c.prod c.seq != (4 : Int)) = false → false = R.wellB c ∧ True)) ∧ ((c.kind == (1 : Int)) = false → ((c.kind == (2 : Int)) = true → (decide ((1 : Int) ≤ c.most) = true → decide (c.most ≤ (64 : Int)) = R.wellB c ∧ True) ∧ (decide ((1 : Int) ≤ c.most) = false → false = R.wellB c ∧ True)) ∧ ((c.kind == (2 : Int)) = false → ((c.kind == (3 : Int)) = true → ((0 : Nat) = (0 : Nat) ∧ c.prod = c.prod ∧ c.seq = c.seq ∧ True) ∧ True ∧ ((P.judgeV [] c.prod c.seq != (4 : Int)) = true → (c.name = c.name ∧ True) ∧ True ∧ nameOk c.name = R.wellB c ∧ True) ∧ ((P.judgeV [] c.prod c.seq != (4 : Int)) = false → false = R.wellB c ∧ True)) ∧ ((c.kind == (3 : Int)) = false → ((c.kind == (4 : Int)) = true → (c.name = c.name ∧ True) ∧ True ∧ nameOk c.name = R.wellB c ∧ True) ∧ ((c.kind == (4 : Int)) = false → ((c.kind == (5 : Int)) = true → (c.plan != (0 : Int)) = R.wellB c ∧ True) ∧ ((c.kind == (5 : Int)) = false → ((c.kind == (6 : Int)) = true → (c.plan != (0 : Int)) = R.wellB c ∧ True) ∧ ((c.kind == (6 : Int)) = false → false = R.wellB c ∧ True))))))
theorem vcIs_eq (c : R.Cmd) : (ctrVC Tryz.prog (isH c) 29 [.agg (R.encCm c)] [] (boolR (R.wellB c))) = vcIs c := by kernel_rfl
theorem is_c (c : R.Cmd) : (boolR (R.wellB c)).Sat (ACall' Tryz.prog 29 [.agg (R.encCm c)] []) := by
  refine ctr_vc (ht := isH c) Tryz.mixed rfl ?_
  rw [vcIs_eq c]
  unfold vcIs R.wellB R.okN
  by_cases h1 : c.kind = 1
  · by_cases h2 : P.judgeV [] c.prod c.seq = 4 <;> by_cases h3 : (c.key.size : Int) ≤ 32 <;> simp [h1, h2, h3]
  · by_cases h2 : c.kind = 2
    · by_cases h3 : 1 ≤ c.most <;> simp [h2, h3]
    · by_cases h3 : c.kind = 3
      · by_cases h4 : P.judgeV [] c.prod c.seq = 4 <;> simp [h3, h4]
      · by_cases h4 : c.kind = 4
        · simp [h4]
        · by_cases h5 : c.kind = 5
          · simp [h5]; rfl
          · by_cases h6 : c.kind = 6
            · simp [h6]; rfl
            · simp [h1, h2, h3, h4, h5, h6]
noncomputable def isC (c : R.Cmd) : Ctr Tryz.prog := ⟨29, [.agg (R.encCm c)], [], boolR (R.wellB c), is_c c⟩
noncomputable def baH (p : Part) (c : R.Cmd) (b : List Int) (l1 : List Int) (p1 : Part) (e1 : Int) (l2 : List Int) (d : R.Cmd) (e : Int) (q : Part) (f : Int) (g : R.Cmd) (h : Int) : HintsT Tryz.prog := hh _ noLp (cs1 8 1 0 livD (cs1 8 2 1 (pcC true p) (cs1 8 3 1 (byC true p) (cs1 8 3 2 (rpC true l1 p1 e1) (cs1 8 4 2 (R.sptC true false p p1) (cs1 8 7 1 (wcC c) (cs1 8 7 2 (rcC true l2 d e) (cs1 8 8 1 (isC c) (cs1 8 9 8 (wcC d) (cs1 8 9 11 (wcC c) (cs1 8 11 1 (rpC true b q f) (cs1 8 12 4 (byC false q) (cs1 8 12 11 (pcC false q) (cs1 8 14 1 (rcC true b g h) (cs1 8 15 6 (wcC g) noCs))))))))))))))) noOp
def vcBa_q4 (c : R.Cmd) : Prop := ((c.kind = c.kind ∧ c.epoch = c.epoch ∧ c.prod = c.prod ∧ c.seq = c.seq ∧ c.key = c.key ∧ (true = true ∧ List.length c.val = List.length c.val ∧ contLe (List.length c.val) (1 : Nat) (cellsOf' encB c.val) (cellsOf' encB c.val)) ∧ c.off = c.off ∧ c.most = c.most ∧ c.name = c.name ∧ c.plan = c.plan ∧ True) ∧ True)
def vcBa_q7 (b : List Int) : Prop := ((true = true ∧ List.length b = List.length b ∧ contLe (List.length b) (1 : Nat) (cellsOf' encB b) (cellsOf' encB b)) ∧ True)
def vcBa_q6 (q : Part) : Prop := ((q.rng.lo = q.rng.lo ∧ q.rng.hi = q.rng.hi ∧ q.epoch = q.epoch ∧ q.frozen = q.frozen ∧ (false = false ∧ List.length q.recs = List.length q.recs ∧ contLe (List.length q.recs) (5 : Nat) (cellsOf' encR q.recs) (cellsOf' encR q.recs)) ∧ (false = false ∧ List.length q.prods = List.length q.prods ∧ contLe (List.length q.prods) (4 : Nat) (cellsOf' P.encP q.prods) (cellsOf' P.encP q.prods)) ∧ (false = false ∧ List.length q.cons = List.length q.cons ∧ contLe (List.length q.cons) (2 : Nat) (cellsOf' encC q.cons) (cellsOf' encC q.cons)) ∧ True) ∧ True)
def vcBa_q3 (b : List Int) (g : R.Cmd) (h : Int) : Prop := (true = true → ((h != (0 : Int)) = true → true = true ∧ True) ∧ ((h != (0 : Int)) = false → ((g.kind = g.kind ∧ g.epoch = g.epoch ∧ g.prod = g.prod ∧ g.seq = g.seq ∧ g.key = g.key ∧ (true = true ∧ List.length g.val = List.length g.val ∧ contLe (List.length g.val) (1 : Nat) (cellsOf' encB g.val) (cellsOf' encB g.val)) ∧ g.off = g.off ∧ g.most = g.most ∧ g.name = g.name ∧ g.plan = g.plan ∧ True) ∧ True) ∧ True ∧ CmdU g ∧ (∀ (k : Nat), k < List.length (cmdB g) → true = true) ∧ (∀ (k : Nat), k < List.length b → true = true) ∧ (List.map (fun (a : AV) => match match a with | AV.s (Value.int IntKind.u8 n) => some n | AV.y (Value.int IntKind.u8 n) => some n | x => none with | some n => UInt8.ofNat (Int.toNat n) | none => (0 : UInt8)) (List.map (fun (k : Nat) => AV.y (Value.int IntKind.u8 (List.getD (cmdB g) k (0 : Int)))) (List.range (List.length (cmdB g)))) == List.map (fun (a : AV) => match match a with | AV.s (Value.int IntKind.u8 n) => some n | AV.y (Value.int IntKind.u8 n) => some n | x => none with | some n => UInt8.ofNat (Int.toNat n) | none => (0 : UInt8)) (List.map (fun (k : Nat) => AV.y (Value.int IntKind.u8 (List.getD b k (0 : Int)))) (List.range (List.length b)))) = true ∧ True))
def vcBa_q2 (b : List Int) (q : Part) (f : Int) (g : R.Cmd) (h : Int) : Prop := ((f == (0 : Int)) = true → (vcBa_q6 q) ∧ True ∧ PtU q ∧ (∀ (k : Nat), k < List.length (bytesB q) → true = true) ∧ (∀ (k : Nat), k < List.length b → true = true) ∧ ((!List.map (fun (a : AV) => match match a with | AV.s (Value.int IntKind.u8 n) => some n | AV.y (Value.int IntKind.u8 n) => some n | x => none with | some n => UInt8.ofNat (Int.toNat n) | none => (0 : UInt8)) (List.map (fun (k : Nat) => AV.y (Value.int IntKind.u8 (List.getD (bytesB q) k (0 : Int)))) (List.range (List.length (bytesB q)))) == List.map (fun (a : AV) => match match a with | AV.s (Value.int IntKind.u8 n) => some n | AV.y (Value.int IntKind.u8 n) => some n | x => none with | some n => UInt8.ofNat (Int.toNat n) | none => (0 : UInt8)) (List.map (fun (k : Nat) => AV.y (Value.int IntKind.u8 (List.getD b k (0 : Int)))) (List.range (List.length b)))) = true → false = true ∧ True) ∧ ((!List.map (fun (a : AV) => match match a with | AV.s (Value.int IntKind.u8 n) => some n | AV.y (Value.int IntKind.u8 n) => some n | x => none with | some n => UInt8.ofNat (Int.toNat n) | none => (0 : UInt8)) (List.map (fun (k : Nat) => AV.y (Value.int IntKind.u8 (List.getD (bytesB q) k (0 : Int)))) (List.range (List.length (bytesB q)))) == List.map (fun (a : AV) => match match a with | AV.s (Value.int IntKind.u8 n) => some n | AV.y (Value.int IntKind.u8 n) => some n | x => none with | some n => UInt8.ofNat (Int.toNat n) | none => (0 : UInt8)) (List.map (fun (k : Nat) => AV.y (Value.int IntKind.u8 (List.getD b k (0 : Int)))) (List.range (List.length b)))) = false → (vcBa_q6 q) ∧ True ∧ PartIn q ∧ (partOk q = true → (vcBa_q7 b) ∧ True ∧ RlOk b ∧ (g, h) = rcS b ∧ (vcBa_q3 b g h) ∧ (true = false → false = true ∧ True)) ∧ (partOk q = false → false = true ∧ True)))
def vcBa_q1 (c : R.Cmd) (b : List Int) (d : R.Cmd) (e : Int) (q : Part) (f : Int) (g : R.Cmd) (h : Int) : Prop := ((!(e == (0 : Int)) == R.wellB c) = false → (R.wellB c = true → ((d.kind = d.kind ∧ d.epoch = d.epoch ∧ d.prod = d.prod ∧ d.seq = d.seq ∧ d.key = d.key ∧ (true = true ∧ List.length d.val = List.length d.val ∧ contLe (List.length d.val) (1 : Nat) (cellsOf' encB d.val) (cellsOf' encB d.val)) ∧ d.off = d.off ∧ d.most = d.most ∧ d.name = d.name ∧ d.plan = d.plan ∧ True) ∧ True) ∧ True ∧ CmdU d ∧ (∀ (k : Nat), k < List.length (cmdB d) → true = true) ∧ (vcBa_q4 c) ∧ True ∧ CmdU c ∧ (∀ (k : Nat), k < List.length (cmdB c) → true = true) ∧ ((!List.map (fun (a : AV) => match match a with | AV.s (Value.int IntKind.u8 n) => some n | AV.y (Value.int IntKind.u8 n) => some n | x => none with | some n => UInt8.ofNat (Int.toNat n) | none => (0 : UInt8)) (List.map (fun (k : Nat) => AV.y (Value.int IntKind.u8 (List.getD (cmdB d) k (0 : Int)))) (List.range (List.length (cmdB d)))) == List.map (fun (a : AV) => match match a with | AV.s (Value.int IntKind.u8 n) => some n | AV.y (Value.int IntKind.u8 n) => some n | x => none with | some n => UInt8.ofNat (Int.toNat n) | none => (0 : UInt8)) (List.map (fun (k : Nat) => AV.y (Value.int IntKind.u8 (List.getD (cmdB c) k (0 : Int)))) (List.range (List.length (cmdB c))))) = true → false = true ∧ True) ∧ ((!List.map (fun (a : AV) => match match a with | AV.s (Value.int IntKind.u8 n) => some n | AV.y (Value.int IntKind.u8 n) => some n | x => none with | some n => UInt8.ofNat (Int.toNat n) | none => (0 : UInt8)) (List.map (fun (k : Nat) => AV.y (Value.int IntKind.u8 (List.getD (cmdB d) k (0 : Int)))) (List.range (List.length (cmdB d)))) == List.map (fun (a : AV) => match match a with | AV.s (Value.int IntKind.u8 n) => some n | AV.y (Value.int IntKind.u8 n) => some n | x => none with | some n => UInt8.ofNat (Int.toNat n) | none => (0 : UInt8)) (List.map (fun (k : Nat) => AV.y (Value.int IntKind.u8 (List.getD (cmdB c) k (0 : Int)))) (List.range (List.length (cmdB c))))) = false → (vcBa_q7 b) ∧ True ∧ RlOk b ∧ (q, f) = rpS b ∧ (vcBa_q2 b q f g h) ∧ ((f == (0 : Int)) = false → (vcBa_q7 b) ∧ True ∧ RlOk b ∧ (g, h) = rcS b ∧ (vcBa_q3 b g h) ∧ (true = false → false = true ∧ True)))) ∧ (R.wellB c = false → (vcBa_q7 b) ∧ True ∧ RlOk b ∧ (q, f) = rpS b ∧ (vcBa_q2 b q f g h) ∧ ((f == (0 : Int)) = false → (vcBa_q7 b) ∧ True ∧ RlOk b ∧ (g, h) = rcS b ∧ (vcBa_q3 b g h) ∧ (true = false → false = true ∧ True))))
def vcBa_q5 (p : Part) : Prop := (p.rng.lo = p.rng.lo ∧ p.rng.hi = p.rng.hi ∧ p.epoch = p.epoch ∧ p.frozen = p.frozen ∧ (true = true ∧ List.length p.recs = List.length p.recs ∧ contLe (List.length p.recs) (5 : Nat) (cellsOf' encR p.recs) (cellsOf' encR p.recs)) ∧ (true = true ∧ List.length p.prods = List.length p.prods ∧ contLe (List.length p.prods) (4 : Nat) (cellsOf' P.encP p.prods) (cellsOf' P.encP p.prods)) ∧ (true = true ∧ List.length p.cons = List.length p.cons ∧ contLe (List.length p.cons) (2 : Nat) (cellsOf' encC p.cons) (cellsOf' encC p.cons)) ∧ True)
def vcBa (p : Part) (c : R.Cmd) (b : List Int) (l1 : List Int) (p1 : Part) (e1 : Int) (l2 : List Int) (d : R.Cmd) (e : Int) (q : Part) (f : Int) (g : R.Cmd) (h : Int) : Prop :=
  True ∧ True ∧ ((vcBa_q5 p) ∧ True) ∧ True ∧ PartIn p ∧ (partOk p = true → ((vcBa_q5 p) ∧ True) ∧ True ∧ PtU p ∧ ((true = true ∧ List.length (bytesB p) = List.length l1 ∧ contLe (List.length (bytesB p)) (1 : Nat) (cellsOf' encB (bytesB p)) (cellsOf' encB l1)) ∧ True) ∧ True ∧ RlOk l1 ∧ (p1, e1) = rpS l1 ∧ ((vcBa_q5 p) ∧ (p1.rng.lo = p1.rng.lo ∧ p1.rng.hi = p1.rng.hi ∧ p1.epoch = p1.epoch ∧ p1.frozen = p1.frozen ∧ (false = false ∧ List.length p1.recs = List.length p1.recs ∧ contLe (List.length p1.recs) (5 : Nat) (cellsOf' encR p1.recs) (cellsOf' encR p1.recs)) ∧ (false = false ∧ List.length p1.prods = List.length p1.prods ∧ contLe (List.length p1.prods) (4 : Nat) (cellsOf' P.encP p1.prods) (cellsOf' P.encP p1.prods)) ∧ (false = false ∧ List.length p1.cons = List.length p1.cons ∧ contLe (List.length p1.cons) (2 : Nat) (cellsOf' encC p1.cons) (cellsOf' encC p1.cons)) ∧ True) ∧ True) ∧ True ∧ PartIn p ∧ ((e1 != (0 : Int)) = true → false = true ∧ True) ∧ ((e1 != (0 : Int)) = false → ((!R.samePt p p1) = true → false = true ∧ True) ∧ ((!R.samePt p p1) = false → (vcBa_q4 c) ∧ True ∧ CmdU c ∧ ((true = true ∧ List.length (cmdB c) = List.length l2 ∧ contLe (List.length (cmdB c)) (1 : Nat) (cellsOf' encB (cmdB c)) (cellsOf' encB l2)) ∧ True) ∧ True ∧ RlOk l2 ∧ (d, e) = rcS l2 ∧ (vcBa_q4 c) ∧ True ∧ ((!(e == (0 : Int)) == R.wellB c) = true → false = true ∧ True) ∧ (vcBa_q1 c b d e q f g h)))) ∧ (partOk p = false → (vcBa_q4 c) ∧ True ∧ CmdU c ∧ ((true = true ∧ List.length (cmdB c) = List.length l2 ∧ contLe (List.length (cmdB c)) (1 : Nat) (cellsOf' encB (cmdB c)) (cellsOf' encB l2)) ∧ True) ∧ True ∧ RlOk l2 ∧ (d, e) = rcS l2 ∧ (vcBa_q4 c) ∧ True ∧ ((!(e == (0 : Int)) == R.wellB c) = true → false = true ∧ True) ∧ (vcBa_q1 c b d e q f g h))
theorem vcBa_eq (p : Part) (c : R.Cmd) (b : List Int) (l1 : List Int) (p1 : Part) (e1 : Int) (l2 : List Int) (d : R.Cmd) (e : Int) (q : Part) (f : Int) (g : R.Cmd) (h : Int) : (ctrVC Tryz.prog (baH p c b l1 p1 e1 l2 d e q f g h) 8 [.agg (encPt true p), .agg (R.encCm c), encBs true b] [] (boolR true)) = vcBa p c b l1 p1 e1 l2 d e q f g h := by kernel_rfl
end Go.Proofs.YtnbhdjadlbhknaaGreatDoor.J

namespace Go.Proofs.YtnbhdjadlbhknaaGreatDoor.J
open Go.Ax
set_option maxRecDepth 1000000
theorem rc_e (l : List Int) : (rcS l).2 = 0 ∨ (rcS l).2 = 161 := by
  unfold rcS
  split
  · exact .inl rfl
  · exact .inr rfl
theorem rp_e (l : List Int) : (rpS l).2 = 0 ∨ (rpS l).2 = 165 := by
  unfold rpS
  split
  · exact .inl rfl
  · exact .inr rfl
theorem cut_u {c : R.Cmd} (h : CmT c) : CmT (cutC c) := by
  obtain ⟨⟨h1, h2, h3, h4, h5, h6, h7, hn⟩, hb⟩ := h
  have z : U64 0 := u64_0
  have zi : I64 0 := ⟨by decide, by decide⟩
  have e0 : ByteArray.empty.size = 0 := rfl
  unfold cutC
  repeat' split
  all_goals exact ⟨⟨h1, h2, by assumption, by assumption, by assumption, by assumption, by assumption, by simp only [e0, List.length_nil]; omega⟩, by first | exact hb | exact Bytes.nil⟩
structure PtT (p : Part) : Prop where
  epoch : U64 p.epoch
  frozen : U64 p.frozen
  recs : ∀ x ∈ p.recs, RecU x ∧ Bytes x.val
  prods : ∀ x ∈ p.prods, ProdU x
  cons : ∀ x ∈ p.cons, U64 x.off
theorem st_of {p : Part} (h : PtT p) (ho : partOk p = true) : StOk p := by
  obtain ⟨k1, k2, k3, k4, k5, _⟩ := R.ok_un ho
  obtain ⟨l1, l2, l3⟩ := R.ok_len ho
  have hr := D.log_mem k3
  have hc := R.cons_name k5
  refine ⟨?_, h.epoch, h.frozen, ⟨by omega, by omega, fun x hx => ⟨(h.recs x hx).1, (hr x hx).1, (hr x hx).2, (h.recs x hx).2⟩⟩, ⟨by omega, by omega, h.prods⟩, ⟨by omega, by omega, fun x hx => ⟨?_, h.cons x hx⟩⟩⟩
  · unfold chkK at k1
    by_cases hb : 32 < p.rng.lo.size ∨ 32 < p.rng.hi.size
    · rw [if_pos hb] at k1
      exact absurd k1 (by decide)
    · exact ⟨by omega, by omega⟩
  · have := hc x hx
    unfold nameOk at this
    simp at this
    omega
structure BackIn (p : Part) (c : R.Cmd) (b : List Int) : Prop where
  t : PtT p
  i : PartIn p
  c : CmT c
  b : RlOk b
theorem ba_c (p : Part) (c : R.Cmd) (b : List Int) (hin : BackIn p c b) : (boolR true).Sat (ACall' Tryz.prog 8 [.agg (encPt true p), .agg (R.encCm c), encBs true b] []) := by
  obtain ⟨hp, hi, hc, hb⟩ := hin
  obtain ⟨d, e, h1⟩ : ∃ d e, (d, e) = rcS (cmdB c) := ⟨_, _, rfl⟩
  obtain ⟨q, f, h2⟩ : ∃ d e, (d, e) = rpS b := ⟨_, _, rfl⟩
  obtain ⟨g, h, h3⟩ : ∃ d e, (d, e) = rcS b := ⟨_, _, rfl⟩
  refine ctr_vc (ht := baH p c b (bytesB p) p 0 (cmdB c) d e q f g h) Tryz.mixed rfl ?_
  rw [vcBa_eq p c b (bytesB p) p 0 (cmdB c) d e q f g h]
  unfold vcBa vcBa_q5 vcBa_q1 vcBa_q2 vcBa_q3 vcBa_q6 vcBa_q7 vcBa_q4
  have hcu := hc.u
  have hcr := cmd_rl hc
  have hss := R.same_refl p
  have r1 := rc_e (cmdB c)
  rw [← h1] at r1
  have r2 := rp_e b
  rw [← h2] at r2
  have r3 := rc_e b
  rw [← h3] at r3
  have b2 := st_bwd hb
  rw [← h2] at b2
  have b3 := cm_bwd hb
  rw [← h3] at b3
  have f1 : R.wellB c = true → d = cutC c ∧ e = 0 := fun hw => by
    have := cm_fwd hc hw
    rw [← h1] at this
    exact Prod.mk.inj this
  have f2 : e = 0 → R.wellB c = true := fun he => cm_not hc (by rw [← h1]; exact he)
  simp only at r1 r2 r3 b2 b3
  have key2 : f = 0 → bytesB q = b ∧ partOk q = true ∧ PtU q ∧ PartIn q := fun hf => by
    obtain ⟨x1, x2, x3⟩ := b2 hf
    exact ⟨x1, x2, st_u x3, ⟨by have := x3.recs.n; omega, by have := x3.prods.n; omega, by have := x3.cons.n; omega, fun k hk => (x3.prods.ok _ (mem_getD hk)).offset.lo⟩⟩
  have key3 : h = 0 → cmdB g = b ∧ CmdU g := fun hf => ⟨(b3 hf).1, (b3 hf).2.2.u⟩
  have key1 : R.wellB c = true → cmdB d = cmdB c ∧ CmdU d := fun hw => by
    obtain ⟨rfl, _⟩ := f1 hw
    exact ⟨cut_cmd c, (cut_u hc).u⟩
  have kp : partOk p = true → PtU p ∧ RlOk (bytesB p) ∧ (p, 0) = rpS (bytesB p) := fun ho => ⟨st_u (st_of hp ho), st_rl (st_of hp ho), (st_fwd (st_of hp ho) ho).symm⟩
  have hbl := hb
  cases hw : R.wellB c
  · have he : e = 161 := by
      rcases r1 with r1 | r1
      · exact absurd (f2 r1) (by rw [hw]; decide)
      · exact r1
    rw [he] at h1 ⊢
    rcases r2 with hf | hf
    · obtain ⟨x1, x2, x3, x4⟩ := key2 hf
      rw [hf] at h2 ⊢
      rcases r3 with hh | hh
      · obtain ⟨y1, y2⟩ := key3 hh
        rw [hh] at h3 ⊢
        rw [x1, y1]
        cases ho : partOk p
        · simp [hi, hss, hcu, hcr, hbl, h1, h2, h3, x2, x3, x4, y2]
        · obtain ⟨z1, z2, z3⟩ := kp ho
          simp [hi, hss, hcu, hcr, hbl, h1, h2, h3, x2, x3, x4, y2, z1, z2, z3]
      · rw [hh] at h3 ⊢
        rw [x1]
        cases ho : partOk p
        · simp [hi, hss, hcu, hcr, hbl, h1, h2, h3, x2, x3, x4]
        · obtain ⟨z1, z2, z3⟩ := kp ho
          simp [hi, hss, hcu, hcr, hbl, h1, h2, h3, x2, x3, x4, z1, z2, z3]
    · rw [hf] at h2 ⊢
      rcases r3 with hh | hh
      · obtain ⟨y1, y2⟩ := key3 hh
        rw [hh] at h3 ⊢
        rw [y1]
        cases ho : partOk p
        · simp [hi, hss, hcu, hcr, hbl, h1, h2, h3, y2]
        · obtain ⟨z1, z2, z3⟩ := kp ho
          simp [hi, hss, hcu, hcr, hbl, h1, h2, h3, y2, z1, z2, z3]
      · rw [hh] at h3 ⊢
        cases ho : partOk p
        · simp [hi, hss, hcu, hcr, hbl, h1, h2, h3]
        · obtain ⟨z1, z2, z3⟩ := kp ho
          simp [hi, hss, hcu, hcr, hbl, h1, h2, h3, z1, z2, z3]
  · obtain ⟨hd, he⟩ := f1 hw
    obtain ⟨w1, w2⟩ := key1 hw
    rw [he] at h1 ⊢
    rw [w1]
    rcases r2 with hf | hf
    · obtain ⟨x1, x2, x3, x4⟩ := key2 hf
      rw [hf] at h2 ⊢
      rcases r3 with hh | hh
      · obtain ⟨y1, y2⟩ := key3 hh
        rw [hh] at h3 ⊢
        rw [x1, y1]
        cases ho : partOk p
        · simp [hi, hss, hcu, hcr, hbl, h1, h2, h3, w2, x2, x3, x4, y2]
        · obtain ⟨z1, z2, z3⟩ := kp ho
          simp [hi, hss, hcu, hcr, hbl, h1, h2, h3, w2, x2, x3, x4, y2, z1, z2, z3]
      · rw [hh] at h3 ⊢
        rw [x1]
        cases ho : partOk p
        · simp [hi, hss, hcu, hcr, hbl, h1, h2, h3, w2, x2, x3, x4]
        · obtain ⟨z1, z2, z3⟩ := kp ho
          simp [hi, hss, hcu, hcr, hbl, h1, h2, h3, w2, x2, x3, x4, z1, z2, z3]
    · rw [hf] at h2 ⊢
      rcases r3 with hh | hh
      · obtain ⟨y1, y2⟩ := key3 hh
        rw [hh] at h3 ⊢
        rw [y1]
        cases ho : partOk p
        · simp [hi, hss, hcu, hcr, hbl, h1, h2, h3, w2, y2]
        · obtain ⟨z1, z2, z3⟩ := kp ho
          simp [hi, hss, hcu, hcr, hbl, h1, h2, h3, w2, y2, z1, z2, z3]
      · rw [hh] at h3 ⊢
        cases ho : partOk p
        · simp [hi, hss, hcu, hcr, hbl, h1, h2, h3, w2]
        · obtain ⟨z1, z2, z3⟩ := kp ho
          simp [hi, hss, hcu, hcr, hbl, h1, h2, h3, w2, z1, z2, z3]
end Go.Proofs.YtnbhdjadlbhknaaGreatDoor.J

namespace Go.Proofs.YtnbhdjadlbhknaaGreatDoor
open Go.Ax Go.Shelf Go.RowKit Go.ChangeShapes Go.WideShapes Go.ChangeAt
set_option maxRecDepth 1000000
def toI {K : Type} : DataW K → Int
  | .lit (.int _ a) => a
  | _ => 0
def toS {K : Type} : DataW K → ByteArray
  | .lit (.string l) => ⟨l.toArray⟩
  | _ => ByteArray.empty
def toB {K : Type} : DataW K → Bool
  | .lit (.bool b) => b
  | _ => false
theorem encI_ok {K : Type} {k : IntKind} {d : DataW K} (h : (Sh.int k).wf d) : (Sh.int k).enc d = [.y (.int k (toI d))] := by
  obtain ⟨k', n, rfl, _⟩ := h
  rfl
theorem encS_ok {K : Type} {d : DataW K} (h : Sh.str.wf d) : Sh.str.enc d = [.y (.string (toS d))] := by
  obtain ⟨l, rfl, _⟩ := h
  rfl
theorem encO_ok {K : Type} {d : DataW K} (h : Sh.bool.wf d) : Sh.bool.enc d = [.y (.bool (toB d))] := by
  obtain ⟨l, rfl⟩ := h
  rfl
theorem enc_st {K : Type} (fs : List Sh) (ds : List (DataW K)) : (Sh.st fs).enc (.agg ds) = Sh.encL fs ds := by simp only [Sh.enc]
theorem enc_cons {K : Type} (s : Sh) (r : List Sh) (d : DataW K) (ds : List (DataW K)) : Sh.encL (s :: r) (d :: ds) = s.enc d ++ Sh.encL r ds := by simp only [Sh.encL]
theorem enc_nil {K : Type} (l : List (DataW K)) : Sh.encL [] l = [] := by simp only [Sh.encL]
theorem relA {P : Program} {W : World} {r : Reach} {base : Nat} {t : TypeId} {v : Value} {fs : Array Field} {l : List AV} {H : HH} {E : Env} (hu : P.underlying t = some (.struct fs)) (hv : Value.okWide P W r base t v) (h : RelL l H E v.cells.toList) : Rel (.agg l) H E v := by
  obtain ⟨cs, rfl, _⟩ := okWide_struct hu hv
  exact ⟨cs, rfl, h⟩
theorem Tryz.own : ownKnob Tryz.prog.godebug = Option.none := by kernel_rfl
theorem Tryz.laidOut : laidOutB Tryz.prog = true := by kernel_rfl
theorem Tryz.mapsRowed : mapsRowed Tryz.prog = true := by kernel_rfl
theorem Tryz.slicesOk : slicesOk Tryz.prog = true := by kernel_rfl
theorem underBool : Tryz.prog.underlying 4 = some .bool := by kernel_rfl
def structTypes (P : Program) (t : TypeId) : Option (List TypeId) := match P.underlying t with | some (.struct fs) => some (fs.toList.map (·.type)) | _ => Option.none
theorem structTypes_ok {P : Program} {t : TypeId} {l : List TypeId} (h : structTypes P t = some l) : ∃ fs, P.underlying t = some (.struct fs) ∧ fs.toList.map (·.type) = l := by
  unfold structTypes at h
  split at h
  · rename_i fs hu
    exact ⟨fs, hu, Option.some.inj h⟩
  · cases h
end Go.Proofs.YtnbhdjadlbhknaaGreatDoor

namespace Go.Proofs.YtnbhdjadlbhknaaGreatDoor
open Go.Ax Go.Shelf Go.RowKit Go.ChangeShapes Go.WideShapes Go.ChangeAt
set_option maxRecDepth 1000000
def shRec : Sh := .st [.int .u64, .str, .sl (.int .u8), .int .u64, .int .u64]
def toRec {K : Type} : DataW K → Rec
  | .agg [a, b, c, d, e] => ⟨toI a, toS b, listOf toI c, toI d, toI e⟩
  | _ => default
theorem relB {K : Type} {d : DataW K} (hd : (Sh.sl (.int .u8)).wf d) {H : HH} {E : Env} {v : Value} (h : Rel (slAV (.int .u8) d) H E v) : Rel (encBs true (listOf toI d)) H E v := conv_sl (encA := encB) (fun x hx => encI_ok hx) hd h
theorem rec_enc {K : Type} {d : DataW K} (hd : shRec.wf d) : ∃ a b c e f, d = .agg [a, b, c, e, f] ∧ (Sh.sl (.int .u8)).wf c ∧ shRec.enc d = [.y (.int .u64 (toI a)), .y (.string (toS b)), slAV (.int .u8) c, .y (.int .u64 (toI e)), .y (.int .u64 (toI f))] := by
  obtain ⟨ds, rfl, d1, r1, rfl, w1, d2, r2, rfl, w2, d3, r3, rfl, w3, d4, r4, rfl, w4, d5, r5, rfl, w5, rfl⟩ := hd
  refine ⟨d1, d2, d3, d4, d5, rfl, w3, ?_⟩
  simp only [shRec, enc_st, enc_cons, enc_nil, encI_ok w1, encS_ok w2, slAV_eq, encI_ok w4, encI_ok w5]
  rfl
theorem rec_conv {K : Type} {d : DataW K} (hd : shRec.wf d) (j : Nat) (hj : j < 5) (H : HH) (E : Env) (v : Value) (h : Rel (Ax.get (shRec.enc d) j) H E v) : Rel (Ax.get (encR (toRec d)) j) H E v := by
  obtain ⟨a, b, c, e, f, rfl, wc, he⟩ := rec_enc hd
  rw [he] at h
  match j, hj with
  | 0, _ => exact h
  | 1, _ => exact h
  | 2, _ => exact relB wc h
  | 3, _ => exact h
  | 4, _ => exact h
theorem relRs {K : Type} {d : DataW K} (hd : (Sh.sl shRec).wf d) {H : HH} {E : Env} {v : Value} (h : Rel (slAV shRec d) H E v) : Rel (encRs true (listOf toRec d)) H E v :=
  conv_slR (encA := encR) (fun x hx j hj H E v => rec_conv hx j hj H E v) hd h
theorem undRs : Tryz.prog.underlying 26 = some (.slice 54) := by kernel_rfl
theorem bytesR : Tryz.prog.bytesOf 54 = 64 := by kernel_rfl
theorem rs_sized {K : Type} {d : DataW K} (hw : (d.weights Tryz.prog 26).all (· ≤ reachBytes) = true) : (listOf toRec d).length * 64 ≤ 140737488351232 := by
  have := weights_slice toRec undRs hw
  rwa [bytesR] at this
def shCon : Sh := .st [.str, .int .u64]
def toC {K : Type} : DataW K → Con
  | .agg [a, b] => ⟨toS a, toI b⟩
  | _ => default
theorem off_of {K : Type} {d : DataW K} (h : (Sh.int .u64).wf d) : offOk (toI d) := by
  obtain ⟨k, n, rfl, w⟩ := h
  have := bounds_u64 w
  exact ⟨by show 0 ≤ n; omega, by show n < _; omega⟩
theorem toC_ok {K : Type} {d : DataW K} (h : shCon.wf d) : shCon.enc d = encC (toC d) ∧ offOk (toC d).off := by
  obtain ⟨ds, rfl, d1, r1, rfl, w1, d2, r2, rfl, w2, rfl⟩ := h
  refine ⟨?_, off_of w2⟩
  simp only [shCon, enc_st, enc_cons, enc_nil, encS_ok w1, encI_ok w2]
  rfl
theorem wf_cons {K : Type} {d : DataW K} (h : (Sh.sl shCon).wf d) : wfC (listOf toC d) := by
  rcases h with rfl | ⟨xs, r, rfl, hx⟩
  · intro y hy; cases hy
  · intro y hy
    obtain ⟨x, hx', rfl⟩ := List.mem_map.1 hy
    exact (toC_ok (hx x hx')).2
theorem relCs {K : Type} {d : DataW K} (hd : (Sh.sl shCon).wf d) {H : HH} {E : Env} {v : Value} (h : Rel (slAV shCon d) H E v) : Rel (encCs true (listOf toC d)) H E v := conv_sl (fun x hx => (toC_ok hx).1) hd h
theorem undCs : Tryz.prog.underlying 28 = some (.slice 83) := by kernel_rfl
theorem bytesC : Tryz.prog.bytesOf 83 = 24 := by kernel_rfl
def shPro : Sh := .st [.int .u64, .int .u64, .bool, .int .u64]
def toPro {K : Type} : DataW K → P.Producer
  | .agg [a, b, c, e] => ⟨toI a, toI b, toB c, toI e⟩
  | _ => default
theorem toPro_ok {K : Type} {d : DataW K} (h : shPro.wf d) : shPro.enc d = P.encP (toPro d) ∧ offOk (toPro d).offset := by
  obtain ⟨ds, rfl, d1, r1, rfl, w1, d2, r2, rfl, w2, d3, r3, rfl, w3, d4, r4, rfl, w4, rfl⟩ := h
  refine ⟨?_, off_of w4⟩
  simp only [shPro, enc_st, enc_cons, enc_nil, encI_ok w1, encI_ok w2, encO_ok w3, encI_ok w4]
  rfl
theorem wf_prods {K : Type} {d : DataW K} (h : (Sh.sl shPro).wf d) : ∀ x ∈ listOf toPro d, 0 ≤ x.offset ∧ x.offset < 18446744073709551616 := by
  rcases h with rfl | ⟨xs, r, rfl, hx⟩
  · intro y hy; cases hy
  · intro y hy
    obtain ⟨x, hx', rfl⟩ := List.mem_map.1 hy
    exact (toPro_ok (hx x hx')).2
theorem relPs {K : Type} {d : DataW K} (hd : (Sh.sl shPro).wf d) {H : HH} {E : Env} {v : Value} (h : Rel (slAV shPro d) H E v) : Rel (P.encPs true (listOf toPro d)) H E v := conv_sl (fun x hx => (toPro_ok hx).1) hd h
theorem undPs : Tryz.prog.underlying 27 = some (.slice 80) := by kernel_rfl
theorem bytesP : Tryz.prog.bytesOf 80 = 32 := by kernel_rfl
def shRng : Sh := .st [.str, .str]
def toRng {K : Type} : DataW K → Rng
  | .agg [a, b] => ⟨toS a, toS b⟩
  | _ => default
theorem toRng_ok {K : Type} {d : DataW K} (h : shRng.wf d) : shRng.enc d = encG (toRng d) := by
  obtain ⟨ds, rfl, d1, r1, rfl, w1, d2, r2, rfl, w2, rfl⟩ := h
  simp only [shRng, enc_st, enc_cons, enc_nil, encS_ok w1, encS_ok w2]
  rfl
def shPart : Sh := .st [shRng, .int .u64, .int .u64, .sl shRec, .sl shPro, .sl shCon]
def toPart {K : Type} : DataW K → Part
  | .agg [a, b, c, e, f, g] => ⟨toRng a, toI b, toI c, listOf toRec e, listOf toPro f, listOf toC g⟩
  | _ => default
theorem relPart {K : Type} {d : DataW K} (hd : shPart.wf d) {H : HH} {E : Env} {vs : List Value} (h : RelL (shPart.enc d) H E vs) : RelL (encPt true (toPart d)) H E vs := by
  obtain ⟨ds, rfl, d1, r1, rfl, w1, d2, r2, rfl, w2, d3, r3, rfl, w3, d4, r4, rfl, w4, d5, r5, rfl, w5, d6, r6, rfl, w6, rfl⟩ := hd
  have e : shPart.enc (DataW.agg [d1, d2, d3, d4, d5, d6]) = [.y (.string (toRng d1).lo), .y (.string (toRng d1).hi), .y (.int .u64 (toI d2)), .y (.int .u64 (toI d3)), slAV shRec d4, slAV shPro d5, slAV shCon d6] := by
    simp only [shPart, enc_st, enc_cons, enc_nil, slAV_eq, toRng_ok w1, encI_ok w2, encI_ok w3]
    rfl
  rw [e] at h
  obtain ⟨v1, x1, rfl, h1, v2, x2, rfl, h2, v3, x3, rfl, h3, v4, x4, rfl, h4, v5, x5, rfl, h5, v6, x6, rfl, h6, v7, x7, rfl, h7, rfl⟩ := h
  exact ⟨_, _, rfl, h1, _, _, rfl, h2, _, _, rfl, h3, _, _, rfl, h4, _, _, rfl, relRs w4 h5, _, _, rfl, relPs w5 h6, _, _, rfl, relCs w6 h7, rfl⟩
theorem undPart : ∃ fs, Tryz.prog.underlying 30 = some (.struct fs) ∧ fs.toList.map (·.type) = [24, 25, 25, 26, 27, 28] := structTypes_ok (by kernel_rfl)
structure PartSz (p : Part) : Prop where
  rl : p.recs.length * 64 ≤ 140737488351232
  pl : p.prods.length * 32 ≤ 140737488351232
  cl : p.cons.length * 24 ≤ 140737488351232
  po : ∀ x ∈ p.prods, 0 ≤ x.offset ∧ x.offset < 18446744073709551616
  co : wfC p.cons
theorem part_sz {K : Type} {d : DataW K} (hd : shPart.wf d) (hw : (d.weights Tryz.prog 30).all (· ≤ reachBytes) = true) : PartSz (toPart d) := by
  obtain ⟨ds, rfl, d1, r1, rfl, w1, d2, r2, rfl, w2, d3, r3, rfl, w3, d4, r4, rfl, w4, d5, r5, rfl, w5, d6, r6, rfl, w6, rfl⟩ := hd
  obtain ⟨fs, hf, ht⟩ := undPart
  have h := weights_struct hf hw
  rw [ht] at h
  obtain ⟨h1, h⟩ := weights_cons h
  obtain ⟨h2, h⟩ := weights_cons h
  obtain ⟨h3, h⟩ := weights_cons h
  obtain ⟨h4, h⟩ := weights_cons h
  obtain ⟨h5, h⟩ := weights_cons h
  obtain ⟨h6, h⟩ := weights_cons h
  have k5 := weights_slice toPro undPs h5
  have k6 := weights_slice toC undCs h6
  rw [bytesP] at k5
  rw [bytesC] at k6
  exact ⟨rs_sized h4, k5, k6, wf_prods w5, wf_cons w6⟩
end Go.Proofs.YtnbhdjadlbhknaaGreatDoor

namespace Go.Proofs.YtnbhdjadlbhknaaGreatDoor
open Go.Ax Go.Shelf Go.RowKit Go.ChangeShapes Go.WideShapes Go.ChangeAt
set_option maxRecDepth 1000000
def shCm : Sh := .st [.int .i64, .int .u64, .int .u64, .int .u64, .str, .sl (.int .u8), .int .u64, .int .i64, .str, .int .u64]
def toCm {K : Type} : DataW K → R.Cmd
  | .agg [a, b, c, d, e, f, g, h, i, j] => ⟨toI a, toI b, toI c, toI d, toS e, listOf toI f, toI g, toI h, toS i, toI j⟩
  | _ => default
theorem cm_enc {K : Type} {d : DataW K} (hd : shCm.wf d) : ∃ a1 a2 a3 a4 a5 a6 a7 a8 a9 a10, d = .agg [a1, a2, a3, a4, a5, a6, a7, a8, a9, a10] ∧ (Sh.sl (.int .u8)).wf a6 ∧ (Sh.int .u64).wf a7 ∧ shCm.enc d = [.y (.int .i64 (toI a1)), .y (.int .u64 (toI a2)), .y (.int .u64 (toI a3)), .y (.int .u64 (toI a4)), .y (.string (toS a5)), slAV (.int .u8) a6, .y (.int .u64 (toI a7)), .y (.int .i64 (toI a8)), .y (.string (toS a9)), .y (.int .u64 (toI a10))] := by
  obtain ⟨ds, rfl, d1, r1, rfl, w1, d2, r2, rfl, w2, d3, r3, rfl, w3, d4, r4, rfl, w4, d5, r5, rfl, w5, d6, r6, rfl, w6, d7, r7, rfl, w7, d8, r8, rfl, w8, d9, r9, rfl, w9, d10, r10, rfl, w10, rfl⟩ := hd
  refine ⟨d1, d2, d3, d4, d5, d6, d7, d8, d9, d10, rfl, w6, w7, ?_⟩
  simp only [shCm, enc_st, enc_cons, enc_nil, encI_ok w1, encI_ok w2, encI_ok w3, encI_ok w4, encS_ok w5, slAV_eq, encI_ok w7, encI_ok w8, encS_ok w9, encI_ok w10]
  rfl
theorem hd_var : Tryz.prog.globalNamed "errors.errorType" = some 0 := by kernel_rfl
theorem hd_row : (Tryz.prog.cutTypes.find? (·.1 == "internal/reflectlite.rtype")).map (·.2) = some 191 := by kernel_rfl
theorem hd_one : ((List.range Tryz.prog.types.size).filter fun t => Tryz.prog.rowNamed t [101, 114, 114, 111, 114]) = [74] := by kernel_rfl
theorem gl_of {laid : List (String × DataW Unit)} {W : World} (hf : (laid.filter fun x => x.2.handleName?.isSome) = [("errors.errorType", Rows.laid_errors_errorType)]) (h : laidMetH Tryz.prog laid W) : GlOk W := by
  unfold laidMetH at h
  rw [hf] at h
  obtain ⟨name, u, ty, e1, e2, e3, e4, e5⟩ := h.2 _ (List.mem_singleton.2 rfl)
  have en : name = [101, 114, 114, 111, 114] := (Option.some.inj e1).symm
  subst en
  obtain rfl := Option.some.inj (hd_row.symm.trans e2)
  have hm : ty ∈ (List.range Tryz.prog.types.size).filter fun t => Tryz.prog.rowNamed t [101, 114, 114, 111, 114] := List.mem_filter.2 ⟨List.mem_range.2 e3, e4⟩
  rw [hd_one] at hm
  obtain rfl := List.mem_singleton.1 hm
  have hc := World.var?_cell hd_var e5 0
  intro p hp
  obtain rfl := List.mem_singleton.1 hp
  exact ⟨by kernel_rfl, hc⟩
noncomputable def hdWorld (os : Os) : World :=
  { World.holding Tryz.prog os ⟨#[], #[], []⟩ with heap := (World.holding Tryz.prog os ⟨#[], #[], []⟩).heap.modify 0 fun
      | .cells _ t frozen => .cells #[.iface 191 (.agg #[typeHandle Tryz.prog 74])] t frozen
      | o => o }
theorem laidMet_lay {P : Program} {w0 : World} {laid : List (String × DataW Unit)} (args : Array Value) (hf : w0.layFits P laid [] = true) (hi : w0.layIfaces P laid (w0.layVars P laid) = true) :
    laidMet P laid ((w0.layVars P laid).forCall (fun _ _ => 0) ⟨#[], args, []⟩).memory := by
  have e1 : (laid.filter fun x => (laid.map (·.1)).contains x.1) = laid := List.filter_eq_self.2 fun x hx => List.contains_iff_mem.2 (List.mem_map.2 ⟨x, hx, rfl⟩)
  have e2 : (laid.filter fun x => !(laid.map (·.1)).contains x.1) = [] := List.filter_eq_nil_iff.2 fun x hx => by rw [List.contains_iff_mem.2 (List.mem_map.2 ⟨x, hx, rfl⟩)]; simp
  have h : laidMet P laid (w0.layVars P laid) := laidMet_layVars (w0 := w0) (laid.map (·.1)) [] (by rw [e1]) (by rw [e1]; exact hf) (by rw [e1]; exact hi) (by rw [e2]; exact LaidIn.none)
  exact h.of_heap (by simp [World.memory, World.forCall, Input.heap])
end Go.Proofs.YtnbhdjadlbhknaaGreatDoor

namespace Go.Proofs.YtnbhdjadlbhknaaGreatDoor.J
open Go.Ax Go.Shelf Go.RowKit Go.ChangeShapes Go.WideShapes Go.ChangeAt
set_option maxRecDepth 1000000
theorem u64_of {K : Type} {d : DataW K} (h : (Sh.int .u64).wf d) : U64 (toI d) := by
  obtain ⟨h0, h1⟩ := off_of h
  exact ⟨h0, h1⟩
theorem i64_of {K : Type} {d : DataW K} (h : (Sh.int .i64).wf d) : I64 (toI d) := by
  obtain ⟨k, n, rfl, w⟩ := h
  have := bounds_i64 w
  exact ⟨by show _ ≤ n; omega, by show n < _; omega⟩
theorem u8_of {K : Type} {d : DataW K} (h : (Sh.int .u8).wf d) : 0 ≤ toI d ∧ toI d < 256 := by
  obtain ⟨k, n, rfl, w⟩ := h
  have := bounds_u8 w
  exact ⟨by show 0 ≤ n; omega, by show n < _; omega⟩
theorem by_of {K : Type} {d : DataW K} (h : (Sh.sl (.int .u8)).wf d) : Bytes (listOf toI d) := by
  rcases h with rfl | ⟨xs, r, rfl, hx⟩
  · exact Bytes.nil
  · exact ⟨fun y hy => by
      obtain ⟨x, hx', rfl⟩ := List.mem_map.1 hy
      exact u8_of (hx x hx')⟩
theorem mem_of {K α : Type} {e : Sh} {to : DataW K → α} {Q : α → Prop} (h : ∀ d, e.wf d → Q (to d)) {d : DataW K} (hd : (Sh.sl e).wf d) : ∀ x ∈ listOf to d, Q x := by
  rcases hd with rfl | ⟨xs, r, rfl, hx⟩
  · intro y hy; cases hy
  · intro y hy
    obtain ⟨x, hx', rfl⟩ := List.mem_map.1 hy
    exact h x (hx x hx')
theorem rec_of {K : Type} {d : DataW K} (h : shRec.wf d) : RecU (toRec d) ∧ Bytes (toRec d).val := by
  obtain ⟨ds, rfl, d1, r1, rfl, w1, d2, r2, rfl, w2, d3, r3, rfl, w3, d4, r4, rfl, w4, d5, r5, rfl, w5, rfl⟩ := h
  exact ⟨⟨u64_of w1, u64_of w4, u64_of w5⟩, by_of w3⟩
theorem pro_of {K : Type} {d : DataW K} (h : shPro.wf d) : ProdU (toPro d) := by
  obtain ⟨ds, rfl, d1, r1, rfl, w1, d2, r2, rfl, w2, d3, r3, rfl, w3, d4, r4, rfl, w4, rfl⟩ := h
  exact ⟨u64_of w1, u64_of w2, u64_of w4⟩
theorem con_of {K : Type} {d : DataW K} (h : shCon.wf d) : U64 (toC d).off := by
  obtain ⟨ds, rfl, d1, r1, rfl, w1, d2, r2, rfl, w2, rfl⟩ := h
  exact u64_of w2
theorem pt_of {K : Type} {d : DataW K} (h : shPart.wf d) : PtT (toPart d) := by
  obtain ⟨ds, rfl, d1, r1, rfl, w1, d2, r2, rfl, w2, d3, r3, rfl, w3, d4, r4, rfl, w4, d5, r5, rfl, w5, d6, r6, rfl, w6, rfl⟩ := h
  exact ⟨u64_of w2, u64_of w3, mem_of (to := toRec) (Q := fun x => RecU x ∧ Bytes x.val) (fun d => rec_of) w4, mem_of (fun d => pro_of) w5, mem_of (to := toC) (Q := fun x => U64 x.off) (fun d => con_of) w6⟩
theorem bulk_one {H : Type} (d : DataW H) : 1 ≤ Rows.uptoBulk d := by
  cases d with
  | lit l => cases l <;> simp [Rows.uptoBulk]
  | nil => simp [Rows.uptoBulk]
  | ptr d => simp [Rows.uptoBulk]
  | slice elems spare => simp [Rows.uptoBulk]
  | agg parts => simp [Rows.uptoBulk]
  | iface t d => simp [Rows.uptoBulk]
  | map entries => simp [Rows.uptoBulk]
  | held h => simp [Rows.uptoBulk]
theorem bulk_part {H : Type} {d : DataW H} {l : List (DataW H)} (h : d ∈ l) : Rows.uptoBulk d ≤ Rows.uptoBulkAll l := by
  induction l with
  | nil => cases h
  | cons x r ih =>
    simp only [Rows.uptoBulkAll]
    cases List.mem_cons.1 h with
    | inl e => subst e; omega
    | inr e => have := ih e; omega
theorem bulk_len {H : Type} (l : List (DataW H)) : l.length ≤ Rows.uptoBulkAll l := by
  induction l with
  | nil => simp [Rows.uptoBulkAll]
  | cons x r ih => have := bulk_one x; simp only [Rows.uptoBulkAll, List.length_cons]; omega
theorem bulk_list {K α : Type} (to : DataW K → α) (d : DataW K) : (listOf to d).length ≤ Rows.uptoBulk d := by
  cases d with
  | slice elems spare =>
    have := bulk_len elems
    simp only [Rows.uptoBulk, listOf, List.length_map]
    omega
  | _ => simp [listOf]
theorem bulk_agg {H : Type} {d : DataW H} {l : List (DataW H)} (h : d ∈ l) : Rows.uptoBulk d ≤ Rows.uptoBulk (DataW.agg l) := by
  have := bulk_part h
  simp only [Rows.uptoBulk]
  omega
theorem bulk_str {K : Type} {d : DataW K} (h : Sh.str.wf d) : (toS d).size ≤ Rows.uptoBulk d := by
  obtain ⟨l, rfl, _⟩ := h
  show (toS (DataW.lit (.string l))).size ≤ _
  simp only [toS, Rows.uptoBulk]
  first | omega | (simp [ByteArray.size]) | skip
theorem small_bound {H : Type} {l : List (DataW H)} (hk : Rows.uptoSmall H l = true) : ∀ d ∈ l, Rows.uptoBulk d ≤ 1048576 := by
  have : Rows.uptoBulkAll l ≤ 1048576 := of_decide_eq_true hk
  intro d hd
  exact Nat.le_trans (bulk_part hd) this
theorem cm_of {K : Type} {d : DataW K} (h : shCm.wf d) (hb : Rows.uptoBulk d ≤ 1048576) : CmT (toCm d) := by
  obtain ⟨ds, rfl, d1, r1, rfl, w1, d2, r2, rfl, w2, d3, r3, rfl, w3, d4, r4, rfl, w4, d5, r5, rfl, w5, d6, r6, rfl, w6, d7, r7, rfl, w7, d8, r8, rfl, w8, d9, r9, rfl, w9, d10, r10, rfl, w10, rfl⟩ := h
  have b5 := Nat.le_trans (Nat.le_trans (bulk_str w5) (bulk_agg (l := [d1, d2, d3, d4, d5, d6, d7, d8, d9, d10]) (by simp))) hb
  have b6 := Nat.le_trans (Nat.le_trans (bulk_list toI d6) (bulk_agg (l := [d1, d2, d3, d4, d5, d6, d7, d8, d9, d10]) (by simp))) hb
  have b9 := Nat.le_trans (Nat.le_trans (bulk_str w9) (bulk_agg (l := [d1, d2, d3, d4, d5, d6, d7, d8, d9, d10]) (by simp))) hb
  exact ⟨⟨i64_of w1, u64_of w2, u64_of w3, u64_of w4, u64_of w7, i64_of w8, u64_of w10, by show (toS d5).size + (listOf toI d6).length + (toS d9).size + 1000 ≤ _; omega⟩, by_of w6⟩
theorem relCm {K : Type} {d : DataW K} (hd : shCm.wf d) {H : HH} {E : Env} {vs : List Value} (h : RelL (shCm.enc d) H E vs) : RelL (R.encCm (toCm d)) H E vs := by
  obtain ⟨a1, a2, a3, a4, a5, a6, a7, a8, a9, a10, rfl, wc, _, he⟩ := cm_enc hd
  rw [he] at h
  obtain ⟨v1, x1, rfl, h1, v2, x2, rfl, h2, v3, x3, rfl, h3, v4, x4, rfl, h4, v5, x5, rfl, h5, v6, x6, rfl, h6, h7⟩ := h
  exact ⟨_, _, rfl, h1, _, _, rfl, h2, _, _, rfl, h3, _, _, rfl, h4, _, _, rfl, h5, _, _, rfl, relB wc h6, h7⟩
theorem undCm : ∃ fs, Tryz.prog.underlying 37 = some (.struct fs) ∧ fs.toList.map (·.type) = [34, 25, 25, 25, 9, 35, 25, 3, 9, 25] := structTypes_ok (by kernel_rfl)
theorem undBs : Tryz.prog.underlying 35 = some (.slice 5) := by kernel_rfl
theorem pt_in {p : Part} (h : PartSz p) : PartIn p := by
  obtain ⟨h1, h2, h3, h4, h5⟩ := h
  exact ⟨by omega, by omega, by omega, fun k hk => (h4 _ (mem_getD hk)).1⟩
end Go.Proofs.YtnbhdjadlbhknaaGreatDoor.J

namespace Go.Proofs.YtnbhdjadlbhknaaGreatDoor.J
open Go.Ax Go.Shelf Go.RowKit Go.ChangeShapes Go.WideShapes Go.ChangeAt
set_option maxRecDepth 1000000
theorem bs_ok {K : Type} {d : DataW K} (hd : (Sh.sl (.int .u8)).wf d) (hb : Rows.uptoBulk d ≤ 1048576) : RlOk (listOf toI d) := ⟨⟨by have := bulk_list toI d; omega⟩, by_of hd⟩
def partfsmBack_laidL : List (String × DataW Unit) := Rows.partfsmBackUptoRow.laid
noncomputable def partfsmBack_layW (os : Os) : World := World.layVars Tryz.prog (hdWorld os) (partfsmBack_laidL.filter fun x => x.2.handleName?.isNone)
theorem partfsmBack_lay_met (os : Os) (args : Array Value) : laidMetH Tryz.prog partfsmBack_laidL ((partfsmBack_layW os).forCall (fun _ _ => 0) ⟨#[], args, []⟩).memory :=
  laidMetH_of_parts (laidMet_lay args (by kernel_rfl) (by kernel_rfl)) (by kernel_rfl)
theorem partfsmBack_reads (os : Os) {H : Type} (enc : TypeId × Value → H) : ∃ places, DataW.whole enc Tryz.prog ((partfsmBack_layW os).forCall (fun _ _ => 0) ⟨#[], #[.agg #[.string ⟨#[]⟩, .string ⟨#[]⟩, .int .u64 0, .int .u64 0, .slice Option.none 0 0, .slice Option.none 0 0, .slice Option.none 0 0], .agg #[.int .i64 0, .int .u64 0, .int .u64 0, .int .u64 0, .string ⟨#[]⟩, .slice Option.none 0 0, .int .u64 0, .int .i64 0, .string ⟨#[]⟩, .int .u64 0], .slice Option.none 0 0], []⟩).memory Tryz.f8.params.toList Rows.partfsmBackSpec.vars false (#[.agg #[.string ⟨#[]⟩, .string ⟨#[]⟩, .int .u64 0, .int .u64 0, .slice Option.none 0 0, .slice Option.none 0 0, .slice Option.none 0 0], .agg #[.int .i64 0, .int .u64 0, .int .u64 0, .int .u64 0, .string ⟨#[]⟩, .slice Option.none 0 0, .int .u64 0, .int .i64 0, .string ⟨#[]⟩, .int .u64 0], .slice Option.none 0 0] : Array Value).toList 8 = some ([.agg [.agg [.lit (.string []), .lit (.string [])], .lit (.int .u64 0), .lit (.int .u64 0), .nil, .nil, .nil], .agg [.lit (.int .i64 0), .lit (.int .u64 0), .lit (.int .u64 0), .lit (.int .u64 0), .lit (.string []), .nil, .lit (.int .u64 0), .lit (.int .i64 0), .lit (.string []), .lit (.int .u64 0)], .nil], [], places) :=
  ⟨[], by kernel_rfl⟩
theorem partfsmBack_lifted (os : Os) (started : os.Started) (K : Type) (enc : TypeId × Value → K) (F : Stop.Interp) :
    ReturnsInHanded {} Tryz.checked os 8 .any ((Rows.OpenSpec.upto Rows.partfsmBackSpec).preRow enc Tryz.prog Tryz.f8 Rows.partfsmBackUptoRow.domain false Rows.partfsmBackUptoRow.laid) (((Rows.OpenSpec.upto Rows.partfsmBackSpec).at F).post enc Tryz.prog Tryz.f8 false true false false) := by
  obtain ⟨places, hx⟩ := partfsmBack_reads os enc
  refine returnsInHanded_of_row (C := Tryz.checked) (s := Rows.OpenSpec.upto Rows.partfsmBackSpec) Tryz.own started (by kernel_rfl) Tryz.func8
    (witness_row_at (enc := enc) (C := Tryz.checked) false (partfsmBack_layW os) #[.agg #[.string ⟨#[]⟩, .string ⟨#[]⟩, .int .u64 0, .int .u64 0, .slice Option.none 0 0, .slice Option.none 0 0, .slice Option.none 0 0], .agg #[.int .i64 0, .int .u64 0, .int .u64 0, .int .u64 0, .string ⟨#[]⟩, .slice Option.none 0 0, .int .u64 0, .int .i64 0, .string ⟨#[]⟩, .int .u64 0], .slice Option.none 0 0] rfl (by kernel_rfl) (by kernel_rfl) (by kernel_rfl)
      (OpenSpec.preRow_of_cond 8 hx (by kernel_rfl) (fun k hk => by cases hk; kernel_rfl) (by kernel_rfl) (partfsmBack_lay_met os _))) ?_
  intro W base args ds gs before hval0 hW _ hcond hsz hL _ _
  have hps : Tryz.f8.params.toList = [30, 37, 35] := by kernel_rfl
  obtain ⟨p, q, hA, hV, hbef, hfz, hnd⟩ := id hW
  have hA : DataW.TrodAll enc Tryz.prog W 0 (fun _ => true) true Tryz.f8.params.toList args.toList ds p := hA
  have hk := small_bound (hcond _ rfl)
  rw [hps] at hA hsz
  have ⟨hr, hwf⟩ := lift_all [shPart, shCm, .sl (.int .u8)] (by kernel_rfl) hA
  obtain ⟨v1, v2, v3, d1, d2, d3, _, _, _, e1, rfl, _, _, _, _⟩ := trodAll_three hA
  obtain ⟨_, _, g1, w1, _, _, g2, w2, _, _, g3, w3, _⟩ := hwf
  obtain ⟨rfl, q1⟩ := List.cons.inj g1
  subst q1
  obtain ⟨rfl, q2⟩ := List.cons.inj g2
  subst q2
  obtain ⟨rfl, _⟩ := List.cons.inj g3
  subst e1
  obtain ⟨h1, hs1⟩ := weights_cons (P := Tryz.prog) (t := 30) (d := d1) hsz
  obtain ⟨h2, hs2⟩ := weights_cons (P := Tryz.prog) (t := 37) (d := d2) hs1
  obtain ⟨h3, hs3⟩ := weights_cons (P := Tryz.prog) (t := 35) (d := d3) hs2
  have r1 := hr.1
  obtain ⟨fs1, hf1, _⟩ := undPart
  have r1 := relA hf1 (hval0 0 _ _ (by kernel_rfl) rfl) (relPart w1 r1)
  have r2 := hr.2.1
  obtain ⟨fs2, hf2, _⟩ := undCm
  have r2 := relA hf2 (hval0 1 _ _ (by kernel_rfl) rfl) (relCm w2 r2)
  have r3 := hr.2.2.1
  rw [slAV_eq] at r3
  obtain ⟨s3, n3, c3, rfl⟩ := okWide_slice undBs (hval0 2 _ _ (by kernel_rfl) rfl)
  obtain ⟨_, _, er, r3, _⟩ := r3
  cases er
  have r3 := relB w3 r3
  have b1 := hk d1 (by simp)
  have b2 := hk d2 (by simp)
  have b3 := hk d3 (by simp)
  exact open_calls (s := Rows.partfsmBackSpec) (call_of (ba_c _ _ _ ⟨pt_of w1, pt_in (part_sz w1 h1), cm_of w2 b2, bs_ok w3 b3⟩)) (t := 4) (ds := [d1, d2, d3]) ⟨_, _, rfl, r1, _, _, rfl, r2, _, _, rfl, r3, rfl⟩ (by kernel_rfl) underBool rfl rfl Tryz.laidOut Tryz.mapsRowed Tryz.slicesOk (by rw [hps]; intro t ht; simp only [List.mem_cons, List.not_mem_nil, or_false] at ht; rcases ht with rfl | rfl | rfl <;> exact of_decide_eq_true (by kernel_rfl)) hW (gl_of (by kernel_rfl) hL)
theorem partfsmBack_holds : Rows.PartfsmBackUptoSaid :=
  OpenClaim.holds_of_cond 8 Tryz.f8 rfl rfl rfl rfl rfl rfl rfl ⟨rfl, rfl, rfl, rfl, rfl⟩ rfl rfl rfl rfl rfl (by kernel_rfl) Tryz.func8 (by kernel_rfl)
    (of_decide_eq_true (by kernel_rfl)) (by unfold Func.isWrapper; first | (rw [if_pos (by decide +kernel)]; kernel_rfl) | (rw [if_neg (by decide +kernel)]; exact ⟨rfl, rfl⟩))
    (fun os started H enc _ F => by rw [OpenClaim.pre_eq_preRow]; exact partfsmBack_lifted os started H enc F)
theorem partfsmBack_said : Rows.PartfsmBackUptoCardSaid :=
  Claim7.holds_tied_plain_at .later [] [.data, .handle, .pinned] true (true, "4008c0ec14d4e8318941b98147842fa4797ed9bf7edcfa700debfb0742dcc49e") true
    partfsmBack_holds (fun _ h => by cases h) (by kernel_rfl) (fun _ h => by cases h) partfsmBackUpto_row_tie rfl ⟨rfl, rfl⟩ (by kernel_rfl) rfl
    (fun f fn hf hfn => by
      obtain rfl : f = 8 := Option.some.inj ((show Tryz.prog.funcNamed "gazette/gazettelaw16.PartfsmBack" = some 8 by kernel_rfl).symm.trans hf) |>.symm
      obtain rfl : fn = Tryz.f8 := (Option.some.inj (Tryz.func8.symm.trans hfn)).symm
      exact ⟨by kernel_rfl, fun j t ht => by
        rw [show Tryz.f8.params = #[30, 37, 35] by kernel_rfl] at ht
        have h3 : t = 30 ∨ t = 37 ∨ t = 35 := by
          rcases j with _ | _ | _ | j
          · exact Or.inl (by simpa using ht.symm)
          · exact Or.inr (Or.inl (by simpa using ht.symm))
          · exact Or.inr (Or.inr ((by simpa using ht.symm)))
          · simp at ht
        rcases h3 with rfl | rfl | rfl
        · exact (show Tryz.prog.wantsStandIn 30 = false by kernel_rfl)
        · exact (show Tryz.prog.wantsStandIn 37 = false by kernel_rfl)
        · exact (show Tryz.prog.wantsStandIn 35 = false by kernel_rfl)⟩)
    (by kernel_rfl)
end Go.Proofs.YtnbhdjadlbhknaaGreatDoor.J
namespace Go.Proofs.YtnbhdjadlbhknaaGreatDoor
theorem back_said : Rows.PartfsmBackUptoCardSaid := J.partfsmBack_said
end Go.Proofs.YtnbhdjadlbhknaaGreatDoor
