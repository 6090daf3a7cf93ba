import Derived.Shelf.Sort.Plain
import Derived.Shelf.Slices.CompactI
import Derived.Sort.OwnSortedInts
import Derived.Test.YtdpbogaldcpfeaaDoorE10
import Derived.Test.YtdpbogaldcpfeaaDoorW5
set_option linter.unusedVariables false
set_option linter.unusedSimpArgs false
set_option linter.unusedSectionVars false
/-! A client is answered. -/
--fold
namespace Go.Proofs.YtdpbogaldcpfeaaDoor.C
open Go.Ax
set_option maxRecDepth 1000000
structure AnsOk (x : Nod) (r : Rep) : Prop where
  f : r.err = 0 → FinOk x r
  s : x.c.servers.length ≤ 9223372036854775806
  t : TrnOk x
  tz : TrnOk (taken x)
  w : SndOk (ledN x r.leader)
  l : (x.c.leaders.length + 1) * 16 ≤ 140737488355328
  tp : x.c.topics.length ≤ 9223372036854775806
theorem wr1_le (l : List Sit) (i : Nat) (n : Int) : contLe l.length 2 (wrRow (cellsOf' encSi l) i 1 [.y (.int .i64 n)]) (cellsOf' encSi (l.set i ⟨(l.getD i default).group, n⟩)) := by
  intro k hk j hj
  have e : wrRow (cellsOf' encSi l) i 1 [.y (.int .i64 n)] k j = cellsOf' encSi (l.set i ⟨(l.getD i default).group, n⟩) k j := by
    unfold wrRow cellsOf'
    have hlen : len [AV.y (Value.int IntKind.i64 n)] = 1 := rfl
    rw [hlen]
    by_cases h : k = i
    · subst h
      match j, hj with
      | 0, _ => simp [hk]; rfl
      | 1, _ => simp [hk]; rfl
    · have h' : ¬ i = k := fun e => h e.symm
      simp [h, h', List.getElem?_set]
  rw [e]
  exact le0_refl _
theorem an_c (x : Nod) (r : Rep) (h : AnsOk x r) : (unitB (ansN x r)).Sat (ACall' Tryd.prog 42 [ndP, .agg (encRp r)] (ndM x)) := by
  refine ctr_vcg (ht := anH x r (taken x) (turnN (taken x)) (turnN x) (ledN x r.leader) (ansN x r)) Tryd.mixed rfl ?_
  rw [vcAnG_eq x r (taken x) (turnN (taken x)) (turnN x) (ledN x r.leader) (ansN x r)]
  unfold vcAnG vcAnG_q11 vcAnG_q5 vcAnG_q4 vcAnG_q1 vcAnG_q6 vcAnG_q2 vcAnG_q10 vcAnG_q7 vcAnG_q8 vcAnG_q9 vcAnG_q3
  obtain ⟨hf, hs, ht, htz, hw, hl, htp⟩ := h
  have hl2 : x.c.leaders.length ≤ 9223372036854775806 := by omega
  generalize hy : ansN x r = y
  by_cases e0 : r.err = 0
  · have q : FinQ x r y := ⟨by rw [← hy]; simp [ansN, e0], hf e0⟩
    simp [e0, q]
  · by_cases e1 : r.err = 201
    · cases hc : iany r.leader x.c.servers
      · have q1 : TrnQ x (turnN x) := ⟨rfl, ht⟩
        have q2 : LatQ (turnN x) y := ⟨by rw [← hy]; simp [ansN, e1, hc]⟩
        generalize turnN x = tx at *
        simp [e0, e1, hc, hs, q1, q2]
      · have q2 : SndQ (ledN x r.leader) y := ⟨by rw [← hy]; simp [ansN, e1, hc], hw⟩
        have hla : siAny x.c.group x.c.leaders = ldA x x.c.group := rfl
        have hlt : ledN x r.leader = ⟨{ x.c with leaders := ledT x r.leader }, x.o⟩ := rfl
        cases ha : ldA x x.c.group
        · have hT : ledT x r.leader = x.c.leaders ++ [⟨x.c.group, r.leader⟩] := by unfold ledT; simp [ha]
          rw [hT] at hlt
          rw [hlt] at q2 ⊢
          simp [e0, e1, hc, hs, hl2, hla, ha, q2]
          exact ⟨hl, app1_le (enc := encSi) (l := x.c.leaders) (n := x.c.leaders.length) (sz := 2) (x := ⟨x.c.group, r.leader⟩) (cs := encSi ⟨x.c.group, r.leader⟩) rfl fun _ _ => le0_refl _⟩
        · have hT : ledT x r.leader = x.c.leaders.set (ldI x x.c.group) ⟨(x.c.leaders.getD (ldI x x.c.group) default).group, r.leader⟩ := by unfold ledT; simp [ha]
          rw [hT] at hlt
          rw [hlt] at q2 ⊢
          simp [e0, e1, hc, hs, hl2, hla, ha, q2]
          have hwr := wr1_le x.c.leaders (ldI x x.c.group) r.leader
          rw [List.getD_eq_getElem?_getD] at hwr
          refine ⟨by simpa [ldA] using ha, ⟨hwr, ?_⟩, ?_⟩
          · unfold fdNd
            simp
          · rw [List.getD_eq_getElem?_getD] at q2
            exact q2
    · by_cases e4 : is4 r.err = true
      · have hor : r.err = 162 ∨ r.err = 164 ∨ r.err = 163 ∨ r.err = 182 := by simpa [is4] using e4
        by_cases k5 : x.c.call.kind = 5
        · have q : EndQ x r y := ⟨by rw [← hy]; simp [ansN, e0, e1, e4, k5]⟩
          rcases hor with e | e | e | e <;> simp [e, k5, q]
        · have q2 : LatQ (turnN (taken x)) y := ⟨by rw [← hy]; simp [ansN, e0, e1, e4, k5, goneN]⟩
          have q1 : TrnQ (taken x) (turnN (taken x)) := ⟨rfl, htz⟩
          generalize turnN (taken x) = tz at *
          cases ha : topA x
          · have hz : taken x = x := by unfold taken; simp [ha]
            rw [hz] at q1 ⊢
            rcases hor with e | e | e | e <;> simp [e, k5, htp, ha, q1, q2]
          · have hz : taken x = ⟨{ x.c with topics := tout x.c.topics (topI x) }, x.o⟩ := by unfold taken; simp [ha, k5]
            have hi := top_lt ha
            rw [hz] at q1 ⊢
            have hw1 : IntKind.i64.wrap ((topI x : Int) + 1) = (topI x : Int) + 1 := wrap_i64 (by omega) (by omega)
            rcases hor with e | e | e | e <;> simp [e, k5, htp, ha, q1, q2, hi, hw1]
      · have hne : ¬ r.err = 162 ∧ ¬ r.err = 164 ∧ ¬ r.err = 163 ∧ ¬ r.err = 182 := by simpa [is4] using e4
        obtain ⟨n1, n2, n3, n4⟩ := hne
        by_cases e5 : r.err = 202
        · have q2 : LatQ (turnN (taken x)) y := ⟨by rw [← hy]; simp [ansN, is4, e5, goneN]⟩
          have q1 : TrnQ (taken x) (turnN (taken x)) := ⟨rfl, htz⟩
          generalize turnN (taken x) = tz at *
          by_cases k5 : x.c.call.kind = 5
          · have hz : taken x = x := by unfold taken; simp [k5]
            rw [hz] at q1 ⊢
            cases ha : topA x <;> simp [e5, k5, htp, ha, q1, q2]
          · cases ha : topA x
            · have hz : taken x = x := by unfold taken; simp [ha]
              rw [hz] at q1 ⊢
              simp [e5, k5, htp, ha, q1, q2]
            · have hz : taken x = ⟨{ x.c with topics := tout x.c.topics (topI x) }, x.o⟩ := by unfold taken; simp [ha, k5]
              have hi := top_lt ha
              rw [hz] at q1 ⊢
              have hw1 : IntKind.i64.wrap ((topI x : Int) + 1) = (topI x : Int) + 1 := wrap_i64 (by omega) (by omega)
              simp [e5, k5, htp, ha, q1, q2, hi, hw1]
        · by_cases e6 : r.err = 203
          · by_cases k5 : x.c.call.kind = 5
            · have q : EndQ x (rep0 213) y := ⟨by rw [← hy]; simp [ansN, is4, e6, k5]⟩
              simp [e6, k5, q]
            · have q : LatQ x y := ⟨by rw [← hy]; simp [ansN, is4, e6, k5]⟩
              simp [e6, k5, q]
          · have q : EndQ x r y := ⟨by rw [← hy]; simp [ansN, is4, e0, e1, n1, n2, n3, n4, e5, e6]⟩
            simp [e0, e1, n1, n2, n3, n4, e5, e6, q]
/-! hears, ticks -/
structure AnsQ (x : Nod) (r : Rep) (y : Nod) : Prop where
  y : y = ansN x r
  o : AnsOk x r
noncomputable def ansO (x : Nod) (r : Rep) (y : Nod) : Ctr Tryd.prog := ⟨42, [ndP, .agg (encRp r)], ndM x, .need (AnsQ x r y) (unitB y), T.Sat.need fun h => by obtain ⟨rfl, h⟩ := h; exact an_c x r h⟩
def encIk (n : Int) (i : Inp) : List AV := [.s (.int .i64 n)] ++ encCl i.call ++ encRp i.rep
noncomputable def hrH (x : Nod) (r : Rep) (y : Nod) : HintsT Tryd.prog := withSub (hh _ noLp (cs1 27 3 2 (ansO x r y) noCs) noOp) [42]
def vcHr (x : Nod) (i : Inp) (y : Nod) : Prop :=
  (x.c.busy = true → ((!x.c.again) = true → ((i.rep.id == x.c.number) = true → (((0 : Nat) = (0 : Nat) ∧ (0 : Nat) = (0 : Nat)) ∧ (fdRp i.rep i.rep) ∧ True) ∧ ((List.length x.c.topics = List.length x.c.topics ∧ contLe (List.length x.c.topics) (2 : Nat) (cellsOf' encTp x.c.topics) (cellsOf' encTp x.c.topics)) ∧ (List.length x.c.leaders = List.length x.c.leaders ∧ contLe (List.length x.c.leaders) (2 : Nat) (cellsOf' encSi x.c.leaders) (cellsOf' encSi x.c.leaders)) ∧ (fdNd x x) ∧ True) ∧ AnsQ x i.rep y ∧ (0 : Int) = (0 : Int) ∧ (List.length y.c.topics = List.length y.c.topics ∧ contLe (List.length y.c.topics) (2 : Nat) (cellsOf' encTp y.c.topics) (cellsOf' encTp y.c.topics)) ∧ (List.length y.c.leaders = List.length y.c.leaders ∧ contLe (List.length y.c.leaders) (2 : Nat) (cellsOf' encSi y.c.leaders) (cellsOf' encSi y.c.leaders)) ∧ (fdNd y y) ∧ True) ∧ ((i.rep.id == x.c.number) = false → (0 : Int) = (0 : Int) ∧ (List.length x.c.topics = List.length y.c.topics ∧ contLe (List.length x.c.topics) (2 : Nat) (cellsOf' encTp x.c.topics) (cellsOf' encTp y.c.topics)) ∧ (List.length x.c.leaders = List.length y.c.leaders ∧ contLe (List.length x.c.leaders) (2 : Nat) (cellsOf' encSi x.c.leaders) (cellsOf' encSi y.c.leaders)) ∧ (fdNd x y) ∧ True)) ∧ ((!x.c.again) = false → (0 : Int) = (0 : Int) ∧ (List.length x.c.topics = List.length y.c.topics ∧ contLe (List.length x.c.topics) (2 : Nat) (cellsOf' encTp x.c.topics) (cellsOf' encTp y.c.topics)) ∧ (List.length x.c.leaders = List.length y.c.leaders ∧ contLe (List.length x.c.leaders) (2 : Nat) (cellsOf' encSi x.c.leaders) (cellsOf' encSi y.c.leaders)) ∧ (fdNd x y) ∧ True)) ∧ (x.c.busy = false → (0 : Int) = (0 : Int) ∧ (List.length x.c.topics = List.length y.c.topics ∧ contLe (List.length x.c.topics) (2 : Nat) (cellsOf' encTp x.c.topics) (cellsOf' encTp y.c.topics)) ∧ (List.length x.c.leaders = List.length y.c.leaders ∧ contLe (List.length x.c.leaders) (2 : Nat) (cellsOf' encSi x.c.leaders) (cellsOf' encSi y.c.leaders)) ∧ (fdNd x y) ∧ True)
set_option maxRecDepth 1000000 in
theorem vcHr_eq (x : Nod) (i : Inp) (y : Nod) : (ctrVCg Tryd.prog (hrH x i.rep y) 27 [ndP, .agg (encIk 2 i)] (ndM x) (.ret (.s (.int .i64 0), ndM y, [4, 5]))) = vcHr x i y := by kernel_rfl
def wt1 (x : Nod) : Nod := ⟨{ x.c with waited := IntKind.i64.wrap (x.c.waited + 1) }, x.o⟩
def ticN (x : Nod) : Nod :=
  if x.c.busy = false then x
  else if x.c.again = true then sendN x
  else if IntKind.i64.wrap (x.c.waited + 1) < 12 then wt1 x
  else if x.c.call.kind = 5 then endN (turnN (wt1 x)) (rep0 213) else sendN (turnN (wt1 x))
noncomputable def tkH (x w t y : Nod) : HintsT Tryd.prog := withSub (hh _ noLp (cs1 28 4 1 (sndO x y) (cs1 28 9 1 (trnO w t) (cs1 28 11 2 (endW t (rep0 213) y) (cs1 28 12 1 (sndO t y) noCs)))) noOp) [41, 43, 44]
def vcTk_q1 (t : Nod) : Prop := ((List.length t.c.topics = List.length t.c.topics ∧ contLe (List.length t.c.topics) (2 : Nat) (cellsOf' encTp t.c.topics) (cellsOf' encTp t.c.topics)) ∧ (List.length t.c.leaders = List.length t.c.leaders ∧ contLe (List.length t.c.leaders) (2 : Nat) (cellsOf' encSi t.c.leaders) (cellsOf' encSi t.c.leaders)) ∧ (fdNd t t) ∧ True)
def vcTk (x : Nod) (i : Inp) (w : Nod) (t : Nod) (y : Nod) : Prop :=
  ((!x.c.busy) = true → (0 : Int) = (0 : Int) ∧ (List.length x.c.topics = List.length y.c.topics ∧ contLe (List.length x.c.topics) (2 : Nat) (cellsOf' encTp x.c.topics) (cellsOf' encTp y.c.topics)) ∧ (List.length x.c.leaders = List.length y.c.leaders ∧ contLe (List.length x.c.leaders) (2 : Nat) (cellsOf' encSi x.c.leaders) (cellsOf' encSi y.c.leaders)) ∧ (fdNd x y) ∧ True) ∧ ((!x.c.busy) = false → (x.c.again = true → (((0 : Nat) = (0 : Nat) ∧ (0 : Nat) = (0 : Nat)) ∧ True) ∧ ((List.length x.c.topics = List.length x.c.topics ∧ contLe (List.length x.c.topics) (2 : Nat) (cellsOf' encTp x.c.topics) (cellsOf' encTp x.c.topics)) ∧ (List.length x.c.leaders = List.length x.c.leaders ∧ contLe (List.length x.c.leaders) (2 : Nat) (cellsOf' encSi x.c.leaders) (cellsOf' encSi x.c.leaders)) ∧ (fdNd x x) ∧ True) ∧ SndQ x y ∧ (0 : Int) = (0 : Int) ∧ (List.length y.c.topics = List.length y.c.topics ∧ contLe (List.length y.c.topics) (2 : Nat) (cellsOf' encTp y.c.topics) (cellsOf' encTp y.c.topics)) ∧ (List.length y.c.leaders = List.length y.c.leaders ∧ contLe (List.length y.c.leaders) (2 : Nat) (cellsOf' encSi y.c.leaders) (cellsOf' encSi y.c.leaders)) ∧ (fdNd y y) ∧ True) ∧ (x.c.again = false → (decide (IntKind.wrap IntKind.i64 (x.c.waited + (1 : Int)) < (12 : Int)) = true → (0 : Int) = (0 : Int) ∧ (List.length x.c.topics = List.length y.c.topics ∧ contLe (List.length x.c.topics) (2 : Nat) (cellsOf' encTp x.c.topics) (cellsOf' encTp y.c.topics)) ∧ (List.length x.c.leaders = List.length y.c.leaders ∧ contLe (List.length x.c.leaders) (2 : Nat) (cellsOf' encSi x.c.leaders) (cellsOf' encSi y.c.leaders)) ∧ (x.c.id = y.c.id ∧ (true = true ∧ List.length x.c.servers = List.length y.c.servers ∧ contLe (List.length x.c.servers) (1 : Nat) (cellsOf' encI x.c.servers) (cellsOf' encI y.c.servers)) ∧ x.c.prod = y.c.prod ∧ x.c.seq = y.c.seq ∧ ((0 : Nat) = (0 : Nat) ∧ List.length x.c.topics = List.length y.c.topics) ∧ ((0 : Nat) = (0 : Nat) ∧ List.length x.c.leaders = List.length y.c.leaders) ∧ x.c.busy = y.c.busy ∧ x.c.call.kind = y.c.call.kind ∧ x.c.call.topic = y.c.call.topic ∧ x.c.call.key = y.c.call.key ∧ (true = true ∧ List.length x.c.call.val = List.length y.c.call.val ∧ contLe (List.length x.c.call.val) (1 : Nat) (cellsOf' encB x.c.call.val) (cellsOf' encB y.c.call.val)) ∧ x.c.call.off = y.c.call.off ∧ x.c.call.most = y.c.call.most ∧ x.c.call.name = y.c.call.name ∧ x.c.call.adm.kind = y.c.call.adm.kind ∧ x.c.call.adm.prod = y.c.call.adm.prod ∧ x.c.call.adm.seq = y.c.call.adm.seq ∧ x.c.call.adm.topic = y.c.call.adm.topic ∧ (true = true ∧ List.length x.c.call.adm.nodes = List.length y.c.call.adm.nodes ∧ contLe (List.length x.c.call.adm.nodes) (1 : Nat) (cellsOf' encI x.c.call.adm.nodes) (cellsOf' encI y.c.call.adm.nodes)) ∧ x.c.call.adm.group = y.c.call.adm.group ∧ x.c.call.adm.other = y.c.call.adm.other ∧ x.c.call.adm.key = y.c.call.adm.key ∧ x.c.call.adm.fr = y.c.call.adm.fr ∧ x.c.call.adm.to = y.c.call.adm.to ∧ x.c.call.adm.plan = y.c.call.adm.plan ∧ x.c.call.adm.step = y.c.call.adm.step ∧ x.c.number = y.c.number ∧ x.c.route = y.c.route ∧ x.c.group = y.c.group ∧ x.c.tries = y.c.tries ∧ IntKind.wrap IntKind.i64 (x.c.waited + (1 : Int)) = y.c.waited ∧ x.c.again = y.c.again ∧ x.c.at' = y.c.at' ∧ x.o.send = y.o.send ∧ x.o.to = y.o.to ∧ x.o.req.id = y.o.req.id ∧ x.o.req.kind = y.o.req.kind ∧ x.o.req.group = y.o.req.group ∧ x.o.req.part.kind = y.o.req.part.kind ∧ x.o.req.part.epoch = y.o.req.part.epoch ∧ x.o.req.part.prod = y.o.req.part.prod ∧ x.o.req.part.seq = y.o.req.part.seq ∧ x.o.req.part.key = y.o.req.part.key ∧ (true = true ∧ List.length x.o.req.part.val = List.length y.o.req.part.val ∧ contLe (List.length x.o.req.part.val) (1 : Nat) (cellsOf' encB x.o.req.part.val) (cellsOf' encB y.o.req.part.val)) ∧ x.o.req.part.off = y.o.req.part.off ∧ x.o.req.part.most = y.o.req.part.most ∧ x.o.req.part.name = y.o.req.part.name ∧ x.o.req.part.plan = y.o.req.part.plan ∧ x.o.req.adm.kind = y.o.req.adm.kind ∧ x.o.req.adm.prod = y.o.req.adm.prod ∧ x.o.req.adm.seq = y.o.req.adm.seq ∧ x.o.req.adm.topic = y.o.req.adm.topic ∧ (true = true ∧ List.length x.o.req.adm.nodes = List.length y.o.req.adm.nodes ∧ contLe (List.length x.o.req.adm.nodes) (1 : Nat) (cellsOf' encI x.o.req.adm.nodes) (cellsOf' encI y.o.req.adm.nodes)) ∧ x.o.req.adm.group = y.o.req.adm.group ∧ x.o.req.adm.other = y.o.req.adm.other ∧ x.o.req.adm.key = y.o.req.adm.key ∧ x.o.req.adm.fr = y.o.req.adm.fr ∧ x.o.req.adm.to = y.o.req.adm.to ∧ x.o.req.adm.plan = y.o.req.adm.plan ∧ x.o.req.adm.step = y.o.req.adm.step ∧ x.o.req.topic = y.o.req.topic ∧ x.o.done = y.o.done ∧ x.o.rep.id = y.o.rep.id ∧ x.o.rep.err = y.o.rep.err ∧ x.o.rep.leader = y.o.rep.leader ∧ x.o.rep.rerr = y.o.rep.rerr ∧ x.o.rep.roff = y.o.rep.roff ∧ x.o.rep.rold = y.o.rep.rold ∧ (true = true ∧ List.length x.o.rep.recs = List.length y.o.rep.recs ∧ contLe (List.length x.o.rep.recs) (5 : Nat) (cellsOf' encR x.o.rep.recs) (cellsOf' encR y.o.rep.recs)) ∧ x.o.rep.number = y.o.rep.number ∧ (true = true ∧ List.length x.o.rep.shards = List.length y.o.rep.shards ∧ contLe (List.length x.o.rep.shards) (7 : Nat) (cellsOf' encSh x.o.rep.shards) (cellsOf' encSh y.o.rep.shards)) ∧ x.o.rep.group = y.o.rep.group ∧ x.o.rep.index = y.o.rep.index ∧ x.o.rep.term = y.o.rep.term ∧ True) ∧ True) ∧ (decide (IntKind.wrap IntKind.i64 (x.c.waited + (1 : Int)) < (12 : Int)) = false → (((0 : Nat) = (0 : Nat) ∧ (0 : Nat) = (0 : Nat)) ∧ True) ∧ ((List.length x.c.topics = List.length w.c.topics ∧ contLe (List.length x.c.topics) (2 : Nat) (cellsOf' encTp x.c.topics) (cellsOf' encTp w.c.topics)) ∧ (List.length x.c.leaders = List.length w.c.leaders ∧ contLe (List.length x.c.leaders) (2 : Nat) (cellsOf' encSi x.c.leaders) (cellsOf' encSi w.c.leaders)) ∧ (x.c.id = w.c.id ∧ (true = true ∧ List.length x.c.servers = List.length w.c.servers ∧ contLe (List.length x.c.servers) (1 : Nat) (cellsOf' encI x.c.servers) (cellsOf' encI w.c.servers)) ∧ x.c.prod = w.c.prod ∧ x.c.seq = w.c.seq ∧ ((0 : Nat) = (0 : Nat) ∧ List.length x.c.topics = List.length w.c.topics) ∧ ((0 : Nat) = (0 : Nat) ∧ List.length x.c.leaders = List.length w.c.leaders) ∧ x.c.busy = w.c.busy ∧ x.c.call.kind = w.c.call.kind ∧ x.c.call.topic = w.c.call.topic ∧ x.c.call.key = w.c.call.key ∧ (true = true ∧ List.length x.c.call.val = List.length w.c.call.val ∧ contLe (List.length x.c.call.val) (1 : Nat) (cellsOf' encB x.c.call.val) (cellsOf' encB w.c.call.val)) ∧ x.c.call.off = w.c.call.off ∧ x.c.call.most = w.c.call.most ∧ x.c.call.name = w.c.call.name ∧ x.c.call.adm.kind = w.c.call.adm.kind ∧ x.c.call.adm.prod = w.c.call.adm.prod ∧ x.c.call.adm.seq = w.c.call.adm.seq ∧ x.c.call.adm.topic = w.c.call.adm.topic ∧ (true = true ∧ List.length x.c.call.adm.nodes = List.length w.c.call.adm.nodes ∧ contLe (List.length x.c.call.adm.nodes) (1 : Nat) (cellsOf' encI x.c.call.adm.nodes) (cellsOf' encI w.c.call.adm.nodes)) ∧ x.c.call.adm.group = w.c.call.adm.group ∧ x.c.call.adm.other = w.c.call.adm.other ∧ x.c.call.adm.key = w.c.call.adm.key ∧ x.c.call.adm.fr = w.c.call.adm.fr ∧ x.c.call.adm.to = w.c.call.adm.to ∧ x.c.call.adm.plan = w.c.call.adm.plan ∧ x.c.call.adm.step = w.c.call.adm.step ∧ x.c.number = w.c.number ∧ x.c.route = w.c.route ∧ x.c.group = w.c.group ∧ x.c.tries = w.c.tries ∧ IntKind.wrap IntKind.i64 (x.c.waited + (1 : Int)) = w.c.waited ∧ x.c.again = w.c.again ∧ x.c.at' = w.c.at' ∧ x.o.send = w.o.send ∧ x.o.to = w.o.to ∧ x.o.req.id = w.o.req.id ∧ x.o.req.kind = w.o.req.kind ∧ x.o.req.group = w.o.req.group ∧ x.o.req.part.kind = w.o.req.part.kind ∧ x.o.req.part.epoch = w.o.req.part.epoch ∧ x.o.req.part.prod = w.o.req.part.prod ∧ x.o.req.part.seq = w.o.req.part.seq ∧ x.o.req.part.key = w.o.req.part.key ∧ (true = true ∧ List.length x.o.req.part.val = List.length w.o.req.part.val ∧ contLe (List.length x.o.req.part.val) (1 : Nat) (cellsOf' encB x.o.req.part.val) (cellsOf' encB w.o.req.part.val)) ∧ x.o.req.part.off = w.o.req.part.off ∧ x.o.req.part.most = w.o.req.part.most ∧ x.o.req.part.name = w.o.req.part.name ∧ x.o.req.part.plan = w.o.req.part.plan ∧ x.o.req.adm.kind = w.o.req.adm.kind ∧ x.o.req.adm.prod = w.o.req.adm.prod ∧ x.o.req.adm.seq = w.o.req.adm.seq ∧ x.o.req.adm.topic = w.o.req.adm.topic ∧ (true = true ∧ List.length x.o.req.adm.nodes = List.length w.o.req.adm.nodes ∧ contLe (List.length x.o.req.adm.nodes) (1 : Nat) (cellsOf' encI x.o.req.adm.nodes) (cellsOf' encI w.o.req.adm.nodes)) ∧ x.o.req.adm.group = w.o.req.adm.group ∧ x.o.req.adm.other = w.o.req.adm.other ∧ x.o.req.adm.key = w.o.req.adm.key ∧ x.o.req.adm.fr = w.o.req.adm.fr ∧ x.o.req.adm.to = w.o.req.adm.to ∧ x.o.req.adm.plan = w.o.req.adm.plan ∧ x.o.req.adm.step = w.o.req.adm.step ∧ x.o.req.topic = w.o.req.topic ∧ x.o.done = w.o.done ∧ x.o.rep.id = w.o.rep.id ∧ x.o.rep.err = w.o.rep.err ∧ x.o.rep.leader = w.o.rep.leader ∧ x.o.rep.rerr = w.o.rep.rerr ∧ x.o.rep.roff = w.o.rep.roff ∧ x.o.rep.rold = w.o.rep.rold ∧ (true = true ∧ List.length x.o.rep.recs = List.length w.o.rep.recs ∧ contLe (List.length x.o.rep.recs) (5 : Nat) (cellsOf' encR x.o.rep.recs) (cellsOf' encR w.o.rep.recs)) ∧ x.o.rep.number = w.o.rep.number ∧ (true = true ∧ List.length x.o.rep.shards = List.length w.o.rep.shards ∧ contLe (List.length x.o.rep.shards) (7 : Nat) (cellsOf' encSh x.o.rep.shards) (cellsOf' encSh w.o.rep.shards)) ∧ x.o.rep.group = w.o.rep.group ∧ x.o.rep.index = w.o.rep.index ∧ x.o.rep.term = w.o.rep.term ∧ True) ∧ True) ∧ TrnQ w t ∧ ((t.c.call.kind == (5 : Int)) = true → (((0 : Nat) = (0 : Nat) ∧ (0 : Nat) = (0 : Nat)) ∧ ((0 : Int) = (0 : Int) ∧ (213 : Int) = (213 : Int) ∧ (0 : Int) = (0 : Int) ∧ (0 : Int) = (0 : Int) ∧ (0 : Int) = (0 : Int) ∧ false = false ∧ (0 : Nat) = (0 : Nat) ∧ (0 : Int) = (0 : Int) ∧ (0 : Nat) = (0 : Nat) ∧ (0 : Int) = (0 : Int) ∧ (0 : Int) = (0 : Int) ∧ (0 : Int) = (0 : Int) ∧ True) ∧ True) ∧ (vcTk_q1 t) ∧ EndQ t (rep0 (213 : Int)) y ∧ (0 : Int) = (0 : Int) ∧ (List.length y.c.topics = List.length y.c.topics ∧ contLe (List.length y.c.topics) (2 : Nat) (cellsOf' encTp y.c.topics) (cellsOf' encTp y.c.topics)) ∧ (List.length y.c.leaders = List.length y.c.leaders ∧ contLe (List.length y.c.leaders) (2 : Nat) (cellsOf' encSi y.c.leaders) (cellsOf' encSi y.c.leaders)) ∧ (fdNd y y) ∧ True) ∧ ((t.c.call.kind == (5 : Int)) = false → (((0 : Nat) = (0 : Nat) ∧ (0 : Nat) = (0 : Nat)) ∧ True) ∧ (vcTk_q1 t) ∧ SndQ t y ∧ (0 : Int) = (0 : Int) ∧ (List.length y.c.topics = List.length y.c.topics ∧ contLe (List.length y.c.topics) (2 : Nat) (cellsOf' encTp y.c.topics) (cellsOf' encTp y.c.topics)) ∧ (List.length y.c.leaders = List.length y.c.leaders ∧ contLe (List.length y.c.leaders) (2 : Nat) (cellsOf' encSi y.c.leaders) (cellsOf' encSi y.c.leaders)) ∧ (fdNd y y) ∧ True))))
set_option maxRecDepth 1000000 in
theorem vcTk_eq (x : Nod) (i : Inp) (w : Nod) (t : Nod) (y : Nod) : (ctrVCg Tryd.prog (tkH x w t y) 28 [ndP, .agg (encIk 3 i)] (ndM x) (.ret (.s (.int .i64 0), ndM y, [5]))) = vcTk x i w t y := by kernel_rfl
end Go.Proofs.YtdpbogaldcpfeaaDoor.C

/-! A client: a step of any kind: the conditions. -/
--fold
namespace Go.Proofs.YtdpbogaldcpfeaaDoor.C
open Go.Ax
set_option maxRecDepth 1000000
structure HrOk (x : Nod) (i : Inp) : Prop where
  f : heaB x i.rep = true → AnsOk x i.rep
def herN (x : Nod) (r : Rep) : Nod := if heaB x r = true then ansN x r else x
theorem hr_c (x : Nod) (i : Inp) (h : HrOk x i) : (T.ret (.s (.int .i64 0), ndM (herN x i.rep), [4, 5]) : T An).Sat (ACall' Tryd.prog 27 [ndP, .agg (encIk 2 i)] (ndM x)) := by
  refine ctr_vcg (ht := hrH x i.rep (herN x i.rep)) Tryd.mixed rfl ?_
  rw [vcHr_eq x i (herN x i.rep)]
  unfold vcHr
  generalize hy : herN x i.rep = y
  obtain ⟨hf⟩ := h
  unfold herN at hy
  cases c1 : x.c.busy
  · have : x = y := by rw [← hy]; simp [heaB, c1]
    subst this
    simp [c1]
  · cases c2 : x.c.again
    · by_cases c3 : i.rep.id = x.c.number
      · have hb : heaB x i.rep = true := by simp [heaB, c1, c2, c3]
        have q : AnsQ x i.rep y := ⟨by rw [← hy, if_pos hb], hf hb⟩
        simp [c1, c2, c3, q]
      · have : x = y := by rw [← hy]; simp [heaB, c3]
        subst this
        simp [c1, c2, c3]
    · have : x = y := by rw [← hy]; simp [heaB, c2]
      subst this
      simp [c1, c2]
structure TkOk (x : Nod) : Prop where
  a : x.c.busy = true → x.c.again = true → SndOk x
  t : TrnOk (wt1 x)
  s : SndOk (turnN (wt1 x))
theorem tk_c (x : Nod) (i : Inp) (h : TkOk x) : (T.ret (.s (.int .i64 0), ndM (ticN x), [5]) : T An).Sat (ACall' Tryd.prog 28 [ndP, .agg (encIk 3 i)] (ndM x)) := by
  refine ctr_vcg (ht := tkH x (wt1 x) (turnN (wt1 x)) (ticN x)) Tryd.mixed rfl ?_
  rw [vcTk_eq x i (wt1 x) (turnN (wt1 x)) (ticN x)]
  unfold vcTk vcTk_q1
  obtain ⟨ha, ht, hs⟩ := h
  generalize hy : ticN x = y
  cases c1 : x.c.busy
  · have : x = y := by rw [← hy]; simp [ticN, c1]
    subst this
    simp [c1]
  · cases c2 : x.c.again
    · by_cases c3 : IntKind.i64.wrap (x.c.waited + 1) < 12
      · have : y = wt1 x := by rw [← hy]; simp [ticN, c1, c2, c3]
        subst this
        simp [c1, c2, c3]
        repeat' apply And.intro
        all_goals first | rfl | exact contLe_refl _ _ _ | exact c1 | exact c1.symm | exact c2 | exact c2.symm | exact k5.symm | exact k5 | assumption
      · have q1 : TrnQ (wt1 x) (turnN (wt1 x)) := ⟨rfl, ht⟩
        by_cases k5 : x.c.call.kind = 5
        · have q2 : EndQ (turnN (wt1 x)) (rep0 213) y := ⟨by rw [← hy]; simp [ticN, c1, c2, c3, k5]⟩
          have kt : (turnN (wt1 x)).c.call.kind = 5 := k5
          generalize turnN (wt1 x) = t at *
          simp [c1, c2, c3, k5, kt, q1, q2]
          repeat' apply And.intro
          all_goals first | rfl | exact contLe_refl _ _ _ | exact c1 | exact c1.symm | exact c2 | exact c2.symm | exact k5.symm | exact k5 | assumption
        · have q2 : SndQ (turnN (wt1 x)) y := ⟨by rw [← hy]; simp [ticN, c1, c2, c3, k5], hs⟩
          have kt : ¬ (turnN (wt1 x)).c.call.kind = 5 := k5
          generalize turnN (wt1 x) = t at *
          simp [c1, c2, c3, k5, kt, q1, q2]
          repeat' apply And.intro
          all_goals first | rfl | exact contLe_refl _ _ _ | exact c1 | exact c1.symm | exact c2 | exact c2.symm | exact k5.symm | exact k5 | assumption
    · have q : SndQ x y := ⟨by rw [← hy]; simp [ticN, c1, c2], ha c1 c2⟩
      simp [c1, c2, q]
structure HrQ (x : Nod) (i : Inp) (y : Nod) : Prop where
  y : y = herN x i.rep
  o : HrOk x i
noncomputable def hrW (x : Nod) (i : Inp) (y : Nod) : Ctr Tryd.prog := ⟨27, [ndP, .agg (encIk 2 i)], ndM x, .need (HrQ x i y) (.ret (.s (.int .i64 0), ndM y, [4, 5])), T.Sat.need fun h => by obtain ⟨rfl, h⟩ := h; exact hr_c x i h⟩
structure TkQ (x : Nod) (y : Nod) : Prop where
  y : y = ticN x
  o : TkOk x
noncomputable def tkW (x : Nod) (i : Inp) (y : Nod) : Ctr Tryd.prog := ⟨28, [ndP, .agg (encIk 3 i)], ndM x, .need (TkQ x y) (.ret (.s (.int .i64 0), ndM y, [5])), T.Sat.need fun h => by obtain ⟨rfl, h⟩ := h; exact tk_c x i h⟩
structure BgQ (x : Nod) (i : Inp) (y : Nod) (e : Int) : Prop where
  y : y = begQ x i.call
  e : e = begE x i.call
  o : SndOk (beg1 x i.call)
noncomputable def bgW (x : Nod) (i : Inp) (y : Nod) (e : Int) : Ctr Tryd.prog := ⟨26, [ndP, .agg (encIn i)], ndM x, .need (BgQ x i y e) (.ret (.y (.int .i64 e), ndM y, [])), T.Sat.need fun h => by obtain ⟨rfl, rfl, h⟩ := h; exact beg_c x i h⟩
noncomputable def sgH (b : Bool) (c : Clt) (i : Inp) (y : Nod) (e : Int) : HintsT Tryd.prog := withSub (hh _ noLp (cs1 12 1 1 (copC b c) (cs1 12 5 3 (bgW ⟨c, default⟩ i y e) (cs1 12 7 1 (copC b c) noCs))) noOp) [26]
def vcSg1_q1 (b : Bool) (c : Clt) : Prop := ((c.id = c.id ∧ (true = true ∧ List.length c.servers = List.length c.servers ∧ contLe (List.length c.servers) (1 : Nat) (cellsOf' encI c.servers) (cellsOf' encI c.servers)) ∧ c.prod = c.prod ∧ c.seq = c.seq ∧ (b = b ∧ List.length c.topics = List.length c.topics ∧ contLe (List.length c.topics) (2 : Nat) (cellsOf' encTp c.topics) (cellsOf' encTp c.topics)) ∧ (b = b ∧ List.length c.leaders = List.length c.leaders ∧ contLe (List.length c.leaders) (2 : Nat) (cellsOf' encSi c.leaders) (cellsOf' encSi c.leaders)) ∧ c.busy = c.busy ∧ c.call.kind = c.call.kind ∧ c.call.topic = c.call.topic ∧ c.call.key = c.call.key ∧ (true = true ∧ List.length c.call.val = List.length c.call.val ∧ contLe (List.length c.call.val) (1 : Nat) (cellsOf' encB c.call.val) (cellsOf' encB c.call.val)) ∧ c.call.off = c.call.off ∧ c.call.most = c.call.most ∧ c.call.name = c.call.name ∧ c.call.adm.kind = c.call.adm.kind ∧ c.call.adm.prod = c.call.adm.prod ∧ c.call.adm.seq = c.call.adm.seq ∧ c.call.adm.topic = c.call.adm.topic ∧ (true = true ∧ List.length c.call.adm.nodes = List.length c.call.adm.nodes ∧ contLe (List.length c.call.adm.nodes) (1 : Nat) (cellsOf' encI c.call.adm.nodes) (cellsOf' encI c.call.adm.nodes)) ∧ c.call.adm.group = c.call.adm.group ∧ c.call.adm.other = c.call.adm.other ∧ c.call.adm.key = c.call.adm.key ∧ c.call.adm.fr = c.call.adm.fr ∧ c.call.adm.to = c.call.adm.to ∧ c.call.adm.plan = c.call.adm.plan ∧ c.call.adm.step = c.call.adm.step ∧ c.number = c.number ∧ c.route = c.route ∧ c.group = c.group ∧ c.tries = c.tries ∧ c.waited = c.waited ∧ c.again = c.again ∧ c.at' = c.at' ∧ True) ∧ True)
def vcSg1 (b : Bool) (c : Clt) (i : Inp) (y : Nod) (e : Int) : Prop :=
  (vcSg1_q1 b c) ∧ True ∧ CltOk c ∧ (((0 : Nat) = (0 : Nat) ∧ (0 : Nat) = (0 : Nat)) ∧ ((1 : Int) = i.kind ∧ i.call.kind = i.call.kind ∧ i.call.topic = i.call.topic ∧ i.call.key = i.call.key ∧ (true = true ∧ List.length i.call.val = List.length i.call.val ∧ contLe (List.length i.call.val) (1 : Nat) (cellsOf' encB i.call.val) (cellsOf' encB i.call.val)) ∧ i.call.off = i.call.off ∧ i.call.most = i.call.most ∧ i.call.name = i.call.name ∧ i.call.adm.kind = i.call.adm.kind ∧ i.call.adm.prod = i.call.adm.prod ∧ i.call.adm.seq = i.call.adm.seq ∧ i.call.adm.topic = i.call.adm.topic ∧ (true = true ∧ List.length i.call.adm.nodes = List.length i.call.adm.nodes ∧ contLe (List.length i.call.adm.nodes) (1 : Nat) (cellsOf' encI i.call.adm.nodes) (cellsOf' encI i.call.adm.nodes)) ∧ i.call.adm.group = i.call.adm.group ∧ i.call.adm.other = i.call.adm.other ∧ i.call.adm.key = i.call.adm.key ∧ i.call.adm.fr = i.call.adm.fr ∧ i.call.adm.to = i.call.adm.to ∧ i.call.adm.plan = i.call.adm.plan ∧ i.call.adm.step = i.call.adm.step ∧ i.rep.id = i.rep.id ∧ i.rep.err = i.rep.err ∧ i.rep.leader = i.rep.leader ∧ i.rep.rerr = i.rep.rerr ∧ i.rep.roff = i.rep.roff ∧ i.rep.rold = i.rep.rold ∧ (true = true ∧ List.length i.rep.recs = List.length i.rep.recs ∧ contLe (List.length i.rep.recs) (5 : Nat) (cellsOf' encR i.rep.recs) (cellsOf' encR i.rep.recs)) ∧ i.rep.number = i.rep.number ∧ (true = true ∧ List.length i.rep.shards = List.length i.rep.shards ∧ contLe (List.length i.rep.shards) (7 : Nat) (cellsOf' encSh i.rep.shards) (cellsOf' encSh i.rep.shards)) ∧ i.rep.group = i.rep.group ∧ i.rep.index = i.rep.index ∧ i.rep.term = i.rep.term ∧ True) ∧ True) ∧ ((List.length c.topics = List.length c.topics ∧ contLe (List.length c.topics) (2 : Nat) (cellsOf' encTp c.topics) (cellsOf' encTp c.topics)) ∧ (List.length c.leaders = List.length c.leaders ∧ contLe (List.length c.leaders) (2 : Nat) (cellsOf' encSi c.leaders) (cellsOf' encSi c.leaders)) ∧ (c.id = c.id ∧ (true = true ∧ List.length c.servers = List.length c.servers ∧ contLe (List.length c.servers) (1 : Nat) (cellsOf' encI c.servers) (cellsOf' encI c.servers)) ∧ c.prod = c.prod ∧ c.seq = c.seq ∧ ((0 : Nat) = (0 : Nat) ∧ List.length c.topics = List.length c.topics) ∧ ((0 : Nat) = (0 : Nat) ∧ List.length c.leaders = List.length c.leaders) ∧ c.busy = c.busy ∧ c.call.kind = c.call.kind ∧ c.call.topic = c.call.topic ∧ c.call.key = c.call.key ∧ (true = true ∧ List.length c.call.val = List.length c.call.val ∧ contLe (List.length c.call.val) (1 : Nat) (cellsOf' encB c.call.val) (cellsOf' encB c.call.val)) ∧ c.call.off = c.call.off ∧ c.call.most = c.call.most ∧ c.call.name = c.call.name ∧ c.call.adm.kind = c.call.adm.kind ∧ c.call.adm.prod = c.call.adm.prod ∧ c.call.adm.seq = c.call.adm.seq ∧ c.call.adm.topic = c.call.adm.topic ∧ (true = true ∧ List.length c.call.adm.nodes = List.length c.call.adm.nodes ∧ contLe (List.length c.call.adm.nodes) (1 : Nat) (cellsOf' encI c.call.adm.nodes) (cellsOf' encI c.call.adm.nodes)) ∧ c.call.adm.group = c.call.adm.group ∧ c.call.adm.other = c.call.adm.other ∧ c.call.adm.key = c.call.adm.key ∧ c.call.adm.fr = c.call.adm.fr ∧ c.call.adm.to = c.call.adm.to ∧ c.call.adm.plan = c.call.adm.plan ∧ c.call.adm.step = c.call.adm.step ∧ c.number = c.number ∧ c.route = c.route ∧ c.group = c.group ∧ c.tries = c.tries ∧ c.waited = c.waited ∧ c.again = c.again ∧ c.at' = c.at' ∧ false = false ∧ (0 : Int) = (0 : Int) ∧ (0 : Int) = (0 : Int) ∧ (0 : Int) = (0 : Int) ∧ (0 : Int) = (0 : Int) ∧ (0 : Int) = (0 : Int) ∧ (0 : Int) = (0 : Int) ∧ (0 : Int) = (0 : Int) ∧ (0 : Int) = (0 : Int) ∧ { data := #[] : ByteArray } = ByteArray.empty ∧ (0 : Nat) = (0 : Nat) ∧ (0 : Int) = (0 : Int) ∧ (0 : Int) = (0 : Int) ∧ { data := #[] : ByteArray } = ByteArray.empty ∧ (0 : Int) = (0 : Int) ∧ (0 : Int) = (0 : Int) ∧ (0 : Int) = (0 : Int) ∧ (0 : Int) = (0 : Int) ∧ { data := #[] : ByteArray } = ByteArray.empty ∧ (0 : Nat) = (0 : Nat) ∧ (0 : Int) = (0 : Int) ∧ (0 : Int) = (0 : Int) ∧ { data := #[] : ByteArray } = ByteArray.empty ∧ (0 : Int) = (0 : Int) ∧ (0 : Int) = (0 : Int) ∧ (0 : Int) = (0 : Int) ∧ (0 : Int) = (0 : Int) ∧ { data := #[] : ByteArray } = ByteArray.empty ∧ false = false ∧ (0 : Int) = (0 : Int) ∧ (0 : Int) = (0 : Int) ∧ (0 : Int) = (0 : Int) ∧ (0 : Int) = (0 : Int) ∧ (0 : Int) = (0 : Int) ∧ false = false ∧ (0 : Nat) = (0 : Nat) ∧ (0 : Int) = (0 : Int) ∧ (0 : Nat) = (0 : Nat) ∧ (0 : Int) = (0 : Int) ∧ (0 : Int) = (0 : Int) ∧ (0 : Int) = (0 : Int) ∧ True) ∧ True) ∧ BgQ { c := c, o := @default Out instInhabitedOut : Nod } i y e ∧ ((e != (0 : Int)) = true → (vcSg1_q1 b c) ∧ True ∧ CltOk c ∧ ((c.id = y.c.id ∧ (true = true ∧ List.length c.servers = List.length y.c.servers ∧ contLe (List.length c.servers) (1 : Nat) (cellsOf' encI c.servers) (cellsOf' encI y.c.servers)) ∧ c.prod = y.c.prod ∧ c.seq = y.c.seq ∧ ((0 : Nat) = (0 : Nat) ∧ List.length c.topics = List.length y.c.topics) ∧ ((0 : Nat) = (0 : Nat) ∧ List.length c.leaders = List.length y.c.leaders) ∧ c.busy = y.c.busy ∧ c.call.kind = y.c.call.kind ∧ c.call.topic = y.c.call.topic ∧ c.call.key = y.c.call.key ∧ (true = true ∧ List.length c.call.val = List.length y.c.call.val ∧ contLe (List.length c.call.val) (1 : Nat) (cellsOf' encB c.call.val) (cellsOf' encB y.c.call.val)) ∧ c.call.off = y.c.call.off ∧ c.call.most = y.c.call.most ∧ c.call.name = y.c.call.name ∧ c.call.adm.kind = y.c.call.adm.kind ∧ c.call.adm.prod = y.c.call.adm.prod ∧ c.call.adm.seq = y.c.call.adm.seq ∧ c.call.adm.topic = y.c.call.adm.topic ∧ (true = true ∧ List.length c.call.adm.nodes = List.length y.c.call.adm.nodes ∧ contLe (List.length c.call.adm.nodes) (1 : Nat) (cellsOf' encI c.call.adm.nodes) (cellsOf' encI y.c.call.adm.nodes)) ∧ c.call.adm.group = y.c.call.adm.group ∧ c.call.adm.other = y.c.call.adm.other ∧ c.call.adm.key = y.c.call.adm.key ∧ c.call.adm.fr = y.c.call.adm.fr ∧ c.call.adm.to = y.c.call.adm.to ∧ c.call.adm.plan = y.c.call.adm.plan ∧ c.call.adm.step = y.c.call.adm.step ∧ c.number = y.c.number ∧ c.route = y.c.route ∧ c.group = y.c.group ∧ c.tries = y.c.tries ∧ c.waited = y.c.waited ∧ c.again = y.c.again ∧ c.at' = y.c.at' ∧ True) ∧ (false = y.o.send ∧ (0 : Int) = y.o.to ∧ (0 : Int) = y.o.req.id ∧ (0 : Int) = y.o.req.kind ∧ (0 : Int) = y.o.req.group ∧ (0 : Int) = y.o.req.part.kind ∧ (0 : Int) = y.o.req.part.epoch ∧ (0 : Int) = y.o.req.part.prod ∧ (0 : Int) = y.o.req.part.seq ∧ { data := #[] : ByteArray } = y.o.req.part.key ∧ List.length y.o.req.part.val = (0 : Nat) ∧ (0 : Int) = y.o.req.part.off ∧ (0 : Int) = y.o.req.part.most ∧ { data := #[] : ByteArray } = y.o.req.part.name ∧ (0 : Int) = y.o.req.part.plan ∧ (0 : Int) = y.o.req.adm.kind ∧ (0 : Int) = y.o.req.adm.prod ∧ (0 : Int) = y.o.req.adm.seq ∧ { data := #[] : ByteArray } = y.o.req.adm.topic ∧ List.length y.o.req.adm.nodes = (0 : Nat) ∧ (0 : Int) = y.o.req.adm.group ∧ (0 : Int) = y.o.req.adm.other ∧ { data := #[] : ByteArray } = y.o.req.adm.key ∧ (0 : Int) = y.o.req.adm.fr ∧ (0 : Int) = y.o.req.adm.to ∧ (0 : Int) = y.o.req.adm.plan ∧ (0 : Int) = y.o.req.adm.step ∧ { data := #[] : ByteArray } = y.o.req.topic ∧ false = y.o.done ∧ (0 : Int) = y.o.rep.id ∧ (0 : Int) = y.o.rep.err ∧ (0 : Int) = y.o.rep.leader ∧ (0 : Int) = y.o.rep.rerr ∧ (0 : Int) = y.o.rep.roff ∧ false = y.o.rep.rold ∧ List.length y.o.rep.recs = (0 : Nat) ∧ (0 : Int) = y.o.rep.number ∧ List.length y.o.rep.shards = (0 : Nat) ∧ (0 : Int) = y.o.rep.group ∧ (0 : Int) = y.o.rep.index ∧ (0 : Int) = y.o.rep.term ∧ True) ∧ e = e ∧ True) ∧ (List.length c.topics = List.length y.c.topics ∧ contLe (List.length c.topics) (2 : Nat) (cellsOf' encTp c.topics) (cellsOf' encTp y.c.topics)) ∧ (List.length c.leaders = List.length y.c.leaders ∧ contLe (List.length c.leaders) (2 : Nat) (cellsOf' encSi c.leaders) (cellsOf' encSi y.c.leaders)) ∧ True) ∧ ((e != (0 : Int)) = false → ((y.c.id = y.c.id ∧ (true = true ∧ List.length y.c.servers = List.length y.c.servers ∧ contLe (List.length y.c.servers) (1 : Nat) (cellsOf' encI y.c.servers) (cellsOf' encI y.c.servers)) ∧ y.c.prod = y.c.prod ∧ y.c.seq = y.c.seq ∧ ((0 : Nat) = (0 : Nat) ∧ List.length y.c.topics = List.length y.c.topics) ∧ ((0 : Nat) = (0 : Nat) ∧ List.length y.c.leaders = List.length y.c.leaders) ∧ y.c.busy = y.c.busy ∧ y.c.call.kind = y.c.call.kind ∧ y.c.call.topic = y.c.call.topic ∧ y.c.call.key = y.c.call.key ∧ (true = true ∧ List.length y.c.call.val = List.length y.c.call.val ∧ contLe (List.length y.c.call.val) (1 : Nat) (cellsOf' encB y.c.call.val) (cellsOf' encB y.c.call.val)) ∧ y.c.call.off = y.c.call.off ∧ y.c.call.most = y.c.call.most ∧ y.c.call.name = y.c.call.name ∧ y.c.call.adm.kind = y.c.call.adm.kind ∧ y.c.call.adm.prod = y.c.call.adm.prod ∧ y.c.call.adm.seq = y.c.call.adm.seq ∧ y.c.call.adm.topic = y.c.call.adm.topic ∧ (true = true ∧ List.length y.c.call.adm.nodes = List.length y.c.call.adm.nodes ∧ contLe (List.length y.c.call.adm.nodes) (1 : Nat) (cellsOf' encI y.c.call.adm.nodes) (cellsOf' encI y.c.call.adm.nodes)) ∧ y.c.call.adm.group = y.c.call.adm.group ∧ y.c.call.adm.other = y.c.call.adm.other ∧ y.c.call.adm.key = y.c.call.adm.key ∧ y.c.call.adm.fr = y.c.call.adm.fr ∧ y.c.call.adm.to = y.c.call.adm.to ∧ y.c.call.adm.plan = y.c.call.adm.plan ∧ y.c.call.adm.step = y.c.call.adm.step ∧ y.c.number = y.c.number ∧ y.c.route = y.c.route ∧ y.c.group = y.c.group ∧ y.c.tries = y.c.tries ∧ y.c.waited = y.c.waited ∧ y.c.again = y.c.again ∧ y.c.at' = y.c.at' ∧ True) ∧ (y.o.send = y.o.send ∧ y.o.to = y.o.to ∧ y.o.req.id = y.o.req.id ∧ y.o.req.kind = y.o.req.kind ∧ y.o.req.group = y.o.req.group ∧ y.o.req.part.kind = y.o.req.part.kind ∧ y.o.req.part.epoch = y.o.req.part.epoch ∧ y.o.req.part.prod = y.o.req.part.prod ∧ y.o.req.part.seq = y.o.req.part.seq ∧ y.o.req.part.key = y.o.req.part.key ∧ (true = true ∧ List.length y.o.req.part.val = List.length y.o.req.part.val ∧ contLe (List.length y.o.req.part.val) (1 : Nat) (cellsOf' encB y.o.req.part.val) (cellsOf' encB y.o.req.part.val)) ∧ y.o.req.part.off = y.o.req.part.off ∧ y.o.req.part.most = y.o.req.part.most ∧ y.o.req.part.name = y.o.req.part.name ∧ y.o.req.part.plan = y.o.req.part.plan ∧ y.o.req.adm.kind = y.o.req.adm.kind ∧ y.o.req.adm.prod = y.o.req.adm.prod ∧ y.o.req.adm.seq = y.o.req.adm.seq ∧ y.o.req.adm.topic = y.o.req.adm.topic ∧ (true = true ∧ List.length y.o.req.adm.nodes = List.length y.o.req.adm.nodes ∧ contLe (List.length y.o.req.adm.nodes) (1 : Nat) (cellsOf' encI y.o.req.adm.nodes) (cellsOf' encI y.o.req.adm.nodes)) ∧ y.o.req.adm.group = y.o.req.adm.group ∧ y.o.req.adm.other = y.o.req.adm.other ∧ y.o.req.adm.key = y.o.req.adm.key ∧ y.o.req.adm.fr = y.o.req.adm.fr ∧ y.o.req.adm.to = y.o.req.adm.to ∧ y.o.req.adm.plan = y.o.req.adm.plan ∧ y.o.req.adm.step = y.o.req.adm.step ∧ y.o.req.topic = y.o.req.topic ∧ y.o.done = y.o.done ∧ y.o.rep.id = y.o.rep.id ∧ y.o.rep.err = y.o.rep.err ∧ y.o.rep.leader = y.o.rep.leader ∧ y.o.rep.rerr = y.o.rep.rerr ∧ y.o.rep.roff = y.o.rep.roff ∧ y.o.rep.rold = y.o.rep.rold ∧ (true = true ∧ List.length y.o.rep.recs = List.length y.o.rep.recs ∧ contLe (List.length y.o.rep.recs) (5 : Nat) (cellsOf' encR y.o.rep.recs) (cellsOf' encR y.o.rep.recs)) ∧ y.o.rep.number = y.o.rep.number ∧ (true = true ∧ List.length y.o.rep.shards = List.length y.o.rep.shards ∧ contLe (List.length y.o.rep.shards) (7 : Nat) (cellsOf' encSh y.o.rep.shards) (cellsOf' encSh y.o.rep.shards)) ∧ y.o.rep.group = y.o.rep.group ∧ y.o.rep.index = y.o.rep.index ∧ y.o.rep.term = y.o.rep.term ∧ True) ∧ (0 : Int) = e ∧ True) ∧ (List.length y.c.topics = List.length y.c.topics ∧ contLe (List.length y.c.topics) (2 : Nat) (cellsOf' encTp y.c.topics) (cellsOf' encTp y.c.topics)) ∧ (List.length y.c.leaders = List.length y.c.leaders ∧ contLe (List.length y.c.leaders) (2 : Nat) (cellsOf' encSi y.c.leaders) (cellsOf' encSi y.c.leaders)) ∧ True)
set_option maxRecDepth 1000000 in
theorem vcSg1_eq (b : Bool) (c : Clt) (i : Inp) (y : Nod) (e : Int) : (ctrVC Tryd.prog (sgH b c i y e) 12 [.agg (encC0 b c), .agg (encIk 1 i)] [] (stpR y e)) = vcSg1 b c i y e := by kernel_rfl
noncomputable def shgH (b : Bool) (c : Clt) (i : Inp) (y : Nod) : HintsT Tryd.prog := withSub (hh _ noLp (cs1 12 1 1 (copC b c) (cs1 12 5 3 (hrW ⟨c, default⟩ i y) noCs)) noOp) [27]
def vcSg2 (b : Bool) (c : Clt) (i : Inp) (y : Nod) : Prop :=
  ((c.id = c.id ∧ (true = true ∧ List.length c.servers = List.length c.servers ∧ contLe (List.length c.servers) (1 : Nat) (cellsOf' encI c.servers) (cellsOf' encI c.servers)) ∧ c.prod = c.prod ∧ c.seq = c.seq ∧ (b = b ∧ List.length c.topics = List.length c.topics ∧ contLe (List.length c.topics) (2 : Nat) (cellsOf' encTp c.topics) (cellsOf' encTp c.topics)) ∧ (b = b ∧ List.length c.leaders = List.length c.leaders ∧ contLe (List.length c.leaders) (2 : Nat) (cellsOf' encSi c.leaders) (cellsOf' encSi c.leaders)) ∧ c.busy = c.busy ∧ c.call.kind = c.call.kind ∧ c.call.topic = c.call.topic ∧ c.call.key = c.call.key ∧ (true = true ∧ List.length c.call.val = List.length c.call.val ∧ contLe (List.length c.call.val) (1 : Nat) (cellsOf' encB c.call.val) (cellsOf' encB c.call.val)) ∧ c.call.off = c.call.off ∧ c.call.most = c.call.most ∧ c.call.name = c.call.name ∧ c.call.adm.kind = c.call.adm.kind ∧ c.call.adm.prod = c.call.adm.prod ∧ c.call.adm.seq = c.call.adm.seq ∧ c.call.adm.topic = c.call.adm.topic ∧ (true = true ∧ List.length c.call.adm.nodes = List.length c.call.adm.nodes ∧ contLe (List.length c.call.adm.nodes) (1 : Nat) (cellsOf' encI c.call.adm.nodes) (cellsOf' encI c.call.adm.nodes)) ∧ c.call.adm.group = c.call.adm.group ∧ c.call.adm.other = c.call.adm.other ∧ c.call.adm.key = c.call.adm.key ∧ c.call.adm.fr = c.call.adm.fr ∧ c.call.adm.to = c.call.adm.to ∧ c.call.adm.plan = c.call.adm.plan ∧ c.call.adm.step = c.call.adm.step ∧ c.number = c.number ∧ c.route = c.route ∧ c.group = c.group ∧ c.tries = c.tries ∧ c.waited = c.waited ∧ c.again = c.again ∧ c.at' = c.at' ∧ True) ∧ True) ∧ True ∧ CltOk c ∧ (((0 : Nat) = (0 : Nat) ∧ (0 : Nat) = (0 : Nat)) ∧ ((2 : Int) = (2 : Int) ∧ i.call.kind = i.call.kind ∧ i.call.topic = i.call.topic ∧ i.call.key = i.call.key ∧ (true = true ∧ List.length i.call.val = List.length i.call.val ∧ contLe (List.length i.call.val) (1 : Nat) (cellsOf' encB i.call.val) (cellsOf' encB i.call.val)) ∧ i.call.off = i.call.off ∧ i.call.most = i.call.most ∧ i.call.name = i.call.name ∧ i.call.adm.kind = i.call.adm.kind ∧ i.call.adm.prod = i.call.adm.prod ∧ i.call.adm.seq = i.call.adm.seq ∧ i.call.adm.topic = i.call.adm.topic ∧ (true = true ∧ List.length i.call.adm.nodes = List.length i.call.adm.nodes ∧ contLe (List.length i.call.adm.nodes) (1 : Nat) (cellsOf' encI i.call.adm.nodes) (cellsOf' encI i.call.adm.nodes)) ∧ i.call.adm.group = i.call.adm.group ∧ i.call.adm.other = i.call.adm.other ∧ i.call.adm.key = i.call.adm.key ∧ i.call.adm.fr = i.call.adm.fr ∧ i.call.adm.to = i.call.adm.to ∧ i.call.adm.plan = i.call.adm.plan ∧ i.call.adm.step = i.call.adm.step ∧ i.rep.id = i.rep.id ∧ i.rep.err = i.rep.err ∧ i.rep.leader = i.rep.leader ∧ i.rep.rerr = i.rep.rerr ∧ i.rep.roff = i.rep.roff ∧ i.rep.rold = i.rep.rold ∧ (true = true ∧ List.length i.rep.recs = List.length i.rep.recs ∧ contLe (List.length i.rep.recs) (5 : Nat) (cellsOf' encR i.rep.recs) (cellsOf' encR i.rep.recs)) ∧ i.rep.number = i.rep.number ∧ (true = true ∧ List.length i.rep.shards = List.length i.rep.shards ∧ contLe (List.length i.rep.shards) (7 : Nat) (cellsOf' encSh i.rep.shards) (cellsOf' encSh i.rep.shards)) ∧ i.rep.group = i.rep.group ∧ i.rep.index = i.rep.index ∧ i.rep.term = i.rep.term ∧ True) ∧ True) ∧ ((List.length c.topics = List.length c.topics ∧ contLe (List.length c.topics) (2 : Nat) (cellsOf' encTp c.topics) (cellsOf' encTp c.topics)) ∧ (List.length c.leaders = List.length c.leaders ∧ contLe (List.length c.leaders) (2 : Nat) (cellsOf' encSi c.leaders) (cellsOf' encSi c.leaders)) ∧ (c.id = c.id ∧ (true = true ∧ List.length c.servers = List.length c.servers ∧ contLe (List.length c.servers) (1 : Nat) (cellsOf' encI c.servers) (cellsOf' encI c.servers)) ∧ c.prod = c.prod ∧ c.seq = c.seq ∧ ((0 : Nat) = (0 : Nat) ∧ List.length c.topics = List.length c.topics) ∧ ((0 : Nat) = (0 : Nat) ∧ List.length c.leaders = List.length c.leaders) ∧ c.busy = c.busy ∧ c.call.kind = c.call.kind ∧ c.call.topic = c.call.topic ∧ c.call.key = c.call.key ∧ (true = true ∧ List.length c.call.val = List.length c.call.val ∧ contLe (List.length c.call.val) (1 : Nat) (cellsOf' encB c.call.val) (cellsOf' encB c.call.val)) ∧ c.call.off = c.call.off ∧ c.call.most = c.call.most ∧ c.call.name = c.call.name ∧ c.call.adm.kind = c.call.adm.kind ∧ c.call.adm.prod = c.call.adm.prod ∧ c.call.adm.seq = c.call.adm.seq ∧ c.call.adm.topic = c.call.adm.topic ∧ (true = true ∧ List.length c.call.adm.nodes = List.length c.call.adm.nodes ∧ contLe (List.length c.call.adm.nodes) (1 : Nat) (cellsOf' encI c.call.adm.nodes) (cellsOf' encI c.call.adm.nodes)) ∧ c.call.adm.group = c.call.adm.group ∧ c.call.adm.other = c.call.adm.other ∧ c.call.adm.key = c.call.adm.key ∧ c.call.adm.fr = c.call.adm.fr ∧ c.call.adm.to = c.call.adm.to ∧ c.call.adm.plan = c.call.adm.plan ∧ c.call.adm.step = c.call.adm.step ∧ c.number = c.number ∧ c.route = c.route ∧ c.group = c.group ∧ c.tries = c.tries ∧ c.waited = c.waited ∧ c.again = c.again ∧ c.at' = c.at' ∧ false = false ∧ (0 : Int) = (0 : Int) ∧ (0 : Int) = (0 : Int) ∧ (0 : Int) = (0 : Int) ∧ (0 : Int) = (0 : Int) ∧ (0 : Int) = (0 : Int) ∧ (0 : Int) = (0 : Int) ∧ (0 : Int) = (0 : Int) ∧ (0 : Int) = (0 : Int) ∧ { data := #[] : ByteArray } = ByteArray.empty ∧ (0 : Nat) = (0 : Nat) ∧ (0 : Int) = (0 : Int) ∧ (0 : Int) = (0 : Int) ∧ { data := #[] : ByteArray } = ByteArray.empty ∧ (0 : Int) = (0 : Int) ∧ (0 : Int) = (0 : Int) ∧ (0 : Int) = (0 : Int) ∧ (0 : Int) = (0 : Int) ∧ { data := #[] : ByteArray } = ByteArray.empty ∧ (0 : Nat) = (0 : Nat) ∧ (0 : Int) = (0 : Int) ∧ (0 : Int) = (0 : Int) ∧ { data := #[] : ByteArray } = ByteArray.empty ∧ (0 : Int) = (0 : Int) ∧ (0 : Int) = (0 : Int) ∧ (0 : Int) = (0 : Int) ∧ (0 : Int) = (0 : Int) ∧ { data := #[] : ByteArray } = ByteArray.empty ∧ false = false ∧ (0 : Int) = (0 : Int) ∧ (0 : Int) = (0 : Int) ∧ (0 : Int) = (0 : Int) ∧ (0 : Int) = (0 : Int) ∧ (0 : Int) = (0 : Int) ∧ false = false ∧ (0 : Nat) = (0 : Nat) ∧ (0 : Int) = (0 : Int) ∧ (0 : Nat) = (0 : Nat) ∧ (0 : Int) = (0 : Int) ∧ (0 : Int) = (0 : Int) ∧ (0 : Int) = (0 : Int) ∧ True) ∧ True) ∧ HrQ { c := c, o := @default Out instInhabitedOut : Nod } i y ∧ ((y.c.id = y.c.id ∧ (true = true ∧ List.length y.c.servers = List.length y.c.servers ∧ contLe (List.length y.c.servers) (1 : Nat) (cellsOf' encI y.c.servers) (cellsOf' encI y.c.servers)) ∧ y.c.prod = y.c.prod ∧ y.c.seq = y.c.seq ∧ ((0 : Nat) = (0 : Nat) ∧ List.length y.c.topics = List.length y.c.topics) ∧ ((0 : Nat) = (0 : Nat) ∧ List.length y.c.leaders = List.length y.c.leaders) ∧ y.c.busy = y.c.busy ∧ y.c.call.kind = y.c.call.kind ∧ y.c.call.topic = y.c.call.topic ∧ y.c.call.key = y.c.call.key ∧ (true = true ∧ List.length y.c.call.val = List.length y.c.call.val ∧ contLe (List.length y.c.call.val) (1 : Nat) (cellsOf' encB y.c.call.val) (cellsOf' encB y.c.call.val)) ∧ y.c.call.off = y.c.call.off ∧ y.c.call.most = y.c.call.most ∧ y.c.call.name = y.c.call.name ∧ y.c.call.adm.kind = y.c.call.adm.kind ∧ y.c.call.adm.prod = y.c.call.adm.prod ∧ y.c.call.adm.seq = y.c.call.adm.seq ∧ y.c.call.adm.topic = y.c.call.adm.topic ∧ (true = true ∧ List.length y.c.call.adm.nodes = List.length y.c.call.adm.nodes ∧ contLe (List.length y.c.call.adm.nodes) (1 : Nat) (cellsOf' encI y.c.call.adm.nodes) (cellsOf' encI y.c.call.adm.nodes)) ∧ y.c.call.adm.group = y.c.call.adm.group ∧ y.c.call.adm.other = y.c.call.adm.other ∧ y.c.call.adm.key = y.c.call.adm.key ∧ y.c.call.adm.fr = y.c.call.adm.fr ∧ y.c.call.adm.to = y.c.call.adm.to ∧ y.c.call.adm.plan = y.c.call.adm.plan ∧ y.c.call.adm.step = y.c.call.adm.step ∧ y.c.number = y.c.number ∧ y.c.route = y.c.route ∧ y.c.group = y.c.group ∧ y.c.tries = y.c.tries ∧ y.c.waited = y.c.waited ∧ y.c.again = y.c.again ∧ y.c.at' = y.c.at' ∧ True) ∧ (y.o.send = y.o.send ∧ y.o.to = y.o.to ∧ y.o.req.id = y.o.req.id ∧ y.o.req.kind = y.o.req.kind ∧ y.o.req.group = y.o.req.group ∧ y.o.req.part.kind = y.o.req.part.kind ∧ y.o.req.part.epoch = y.o.req.part.epoch ∧ y.o.req.part.prod = y.o.req.part.prod ∧ y.o.req.part.seq = y.o.req.part.seq ∧ y.o.req.part.key = y.o.req.part.key ∧ (true = true ∧ List.length y.o.req.part.val = List.length y.o.req.part.val ∧ contLe (List.length y.o.req.part.val) (1 : Nat) (cellsOf' encB y.o.req.part.val) (cellsOf' encB y.o.req.part.val)) ∧ y.o.req.part.off = y.o.req.part.off ∧ y.o.req.part.most = y.o.req.part.most ∧ y.o.req.part.name = y.o.req.part.name ∧ y.o.req.part.plan = y.o.req.part.plan ∧ y.o.req.adm.kind = y.o.req.adm.kind ∧ y.o.req.adm.prod = y.o.req.adm.prod ∧ y.o.req.adm.seq = y.o.req.adm.seq ∧ y.o.req.adm.topic = y.o.req.adm.topic ∧ (true = true ∧ List.length y.o.req.adm.nodes = List.length y.o.req.adm.nodes ∧ contLe (List.length y.o.req.adm.nodes) (1 : Nat) (cellsOf' encI y.o.req.adm.nodes) (cellsOf' encI y.o.req.adm.nodes)) ∧ y.o.req.adm.group = y.o.req.adm.group ∧ y.o.req.adm.other = y.o.req.adm.other ∧ y.o.req.adm.key = y.o.req.adm.key ∧ y.o.req.adm.fr = y.o.req.adm.fr ∧ y.o.req.adm.to = y.o.req.adm.to ∧ y.o.req.adm.plan = y.o.req.adm.plan ∧ y.o.req.adm.step = y.o.req.adm.step ∧ y.o.req.topic = y.o.req.topic ∧ y.o.done = y.o.done ∧ y.o.rep.id = y.o.rep.id ∧ y.o.rep.err = y.o.rep.err ∧ y.o.rep.leader = y.o.rep.leader ∧ y.o.rep.rerr = y.o.rep.rerr ∧ y.o.rep.roff = y.o.rep.roff ∧ y.o.rep.rold = y.o.rep.rold ∧ (true = true ∧ List.length y.o.rep.recs = List.length y.o.rep.recs ∧ contLe (List.length y.o.rep.recs) (5 : Nat) (cellsOf' encR y.o.rep.recs) (cellsOf' encR y.o.rep.recs)) ∧ y.o.rep.number = y.o.rep.number ∧ (true = true ∧ List.length y.o.rep.shards = List.length y.o.rep.shards ∧ contLe (List.length y.o.rep.shards) (7 : Nat) (cellsOf' encSh y.o.rep.shards) (cellsOf' encSh y.o.rep.shards)) ∧ y.o.rep.group = y.o.rep.group ∧ y.o.rep.index = y.o.rep.index ∧ y.o.rep.term = y.o.rep.term ∧ True) ∧ (0 : Int) = (0 : Int) ∧ True) ∧ (List.length y.c.topics = List.length y.c.topics ∧ contLe (List.length y.c.topics) (2 : Nat) (cellsOf' encTp y.c.topics) (cellsOf' encTp y.c.topics)) ∧ (List.length y.c.leaders = List.length y.c.leaders ∧ contLe (List.length y.c.leaders) (2 : Nat) (cellsOf' encSi y.c.leaders) (cellsOf' encSi y.c.leaders)) ∧ True
set_option maxRecDepth 1000000 in
theorem vcSg2_eq (b : Bool) (c : Clt) (i : Inp) (y : Nod) : (ctrVC Tryd.prog (shgH b c i y) 12 [.agg (encC0 b c), .agg (encIk 2 i)] [] (stpR y 0)) = vcSg2 b c i y := by kernel_rfl
noncomputable def stgH (b : Bool) (c : Clt) (i : Inp) (y : Nod) : HintsT Tryd.prog := withSub (hh _ noLp (cs1 12 1 1 (copC b c) (cs1 12 5 3 (tkW ⟨c, default⟩ i y) noCs)) noOp) [28]
def vcSg3 (b : Bool) (c : Clt) (i : Inp) (y : Nod) : Prop :=
  ((c.id = c.id ∧ (true = true ∧ List.length c.servers = List.length c.servers ∧ contLe (List.length c.servers) (1 : Nat) (cellsOf' encI c.servers) (cellsOf' encI c.servers)) ∧ c.prod = c.prod ∧ c.seq = c.seq ∧ (b = b ∧ List.length c.topics = List.length c.topics ∧ contLe (List.length c.topics) (2 : Nat) (cellsOf' encTp c.topics) (cellsOf' encTp c.topics)) ∧ (b = b ∧ List.length c.leaders = List.length c.leaders ∧ contLe (List.length c.leaders) (2 : Nat) (cellsOf' encSi c.leaders) (cellsOf' encSi c.leaders)) ∧ c.busy = c.busy ∧ c.call.kind = c.call.kind ∧ c.call.topic = c.call.topic ∧ c.call.key = c.call.key ∧ (true = true ∧ List.length c.call.val = List.length c.call.val ∧ contLe (List.length c.call.val) (1 : Nat) (cellsOf' encB c.call.val) (cellsOf' encB c.call.val)) ∧ c.call.off = c.call.off ∧ c.call.most = c.call.most ∧ c.call.name = c.call.name ∧ c.call.adm.kind = c.call.adm.kind ∧ c.call.adm.prod = c.call.adm.prod ∧ c.call.adm.seq = c.call.adm.seq ∧ c.call.adm.topic = c.call.adm.topic ∧ (true = true ∧ List.length c.call.adm.nodes = List.length c.call.adm.nodes ∧ contLe (List.length c.call.adm.nodes) (1 : Nat) (cellsOf' encI c.call.adm.nodes) (cellsOf' encI c.call.adm.nodes)) ∧ c.call.adm.group = c.call.adm.group ∧ c.call.adm.other = c.call.adm.other ∧ c.call.adm.key = c.call.adm.key ∧ c.call.adm.fr = c.call.adm.fr ∧ c.call.adm.to = c.call.adm.to ∧ c.call.adm.plan = c.call.adm.plan ∧ c.call.adm.step = c.call.adm.step ∧ c.number = c.number ∧ c.route = c.route ∧ c.group = c.group ∧ c.tries = c.tries ∧ c.waited = c.waited ∧ c.again = c.again ∧ c.at' = c.at' ∧ True) ∧ True) ∧ True ∧ CltOk c ∧ (((0 : Nat) = (0 : Nat) ∧ (0 : Nat) = (0 : Nat)) ∧ ((3 : Int) = (3 : Int) ∧ i.call.kind = i.call.kind ∧ i.call.topic = i.call.topic ∧ i.call.key = i.call.key ∧ (true = true ∧ List.length i.call.val = List.length i.call.val ∧ contLe (List.length i.call.val) (1 : Nat) (cellsOf' encB i.call.val) (cellsOf' encB i.call.val)) ∧ i.call.off = i.call.off ∧ i.call.most = i.call.most ∧ i.call.name = i.call.name ∧ i.call.adm.kind = i.call.adm.kind ∧ i.call.adm.prod = i.call.adm.prod ∧ i.call.adm.seq = i.call.adm.seq ∧ i.call.adm.topic = i.call.adm.topic ∧ (true = true ∧ List.length i.call.adm.nodes = List.length i.call.adm.nodes ∧ contLe (List.length i.call.adm.nodes) (1 : Nat) (cellsOf' encI i.call.adm.nodes) (cellsOf' encI i.call.adm.nodes)) ∧ i.call.adm.group = i.call.adm.group ∧ i.call.adm.other = i.call.adm.other ∧ i.call.adm.key = i.call.adm.key ∧ i.call.adm.fr = i.call.adm.fr ∧ i.call.adm.to = i.call.adm.to ∧ i.call.adm.plan = i.call.adm.plan ∧ i.call.adm.step = i.call.adm.step ∧ i.rep.id = i.rep.id ∧ i.rep.err = i.rep.err ∧ i.rep.leader = i.rep.leader ∧ i.rep.rerr = i.rep.rerr ∧ i.rep.roff = i.rep.roff ∧ i.rep.rold = i.rep.rold ∧ (true = true ∧ List.length i.rep.recs = List.length i.rep.recs ∧ contLe (List.length i.rep.recs) (5 : Nat) (cellsOf' encR i.rep.recs) (cellsOf' encR i.rep.recs)) ∧ i.rep.number = i.rep.number ∧ (true = true ∧ List.length i.rep.shards = List.length i.rep.shards ∧ contLe (List.length i.rep.shards) (7 : Nat) (cellsOf' encSh i.rep.shards) (cellsOf' encSh i.rep.shards)) ∧ i.rep.group = i.rep.group ∧ i.rep.index = i.rep.index ∧ i.rep.term = i.rep.term ∧ True) ∧ True) ∧ ((List.length c.topics = List.length c.topics ∧ contLe (List.length c.topics) (2 : Nat) (cellsOf' encTp c.topics) (cellsOf' encTp c.topics)) ∧ (List.length c.leaders = List.length c.leaders ∧ contLe (List.length c.leaders) (2 : Nat) (cellsOf' encSi c.leaders) (cellsOf' encSi c.leaders)) ∧ (c.id = c.id ∧ (true = true ∧ List.length c.servers = List.length c.servers ∧ contLe (List.length c.servers) (1 : Nat) (cellsOf' encI c.servers) (cellsOf' encI c.servers)) ∧ c.prod = c.prod ∧ c.seq = c.seq ∧ ((0 : Nat) = (0 : Nat) ∧ List.length c.topics = List.length c.topics) ∧ ((0 : Nat) = (0 : Nat) ∧ List.length c.leaders = List.length c.leaders) ∧ c.busy = c.busy ∧ c.call.kind = c.call.kind ∧ c.call.topic = c.call.topic ∧ c.call.key = c.call.key ∧ (true = true ∧ List.length c.call.val = List.length c.call.val ∧ contLe (List.length c.call.val) (1 : Nat) (cellsOf' encB c.call.val) (cellsOf' encB c.call.val)) ∧ c.call.off = c.call.off ∧ c.call.most = c.call.most ∧ c.call.name = c.call.name ∧ c.call.adm.kind = c.call.adm.kind ∧ c.call.adm.prod = c.call.adm.prod ∧ c.call.adm.seq = c.call.adm.seq ∧ c.call.adm.topic = c.call.adm.topic ∧ (true = true ∧ List.length c.call.adm.nodes = List.length c.call.adm.nodes ∧ contLe (List.length c.call.adm.nodes) (1 : Nat) (cellsOf' encI c.call.adm.nodes) (cellsOf' encI c.call.adm.nodes)) ∧ c.call.adm.group = c.call.adm.group ∧ c.call.adm.other = c.call.adm.other ∧ c.call.adm.key = c.call.adm.key ∧ c.call.adm.fr = c.call.adm.fr ∧ c.call.adm.to = c.call.adm.to ∧ c.call.adm.plan = c.call.adm.plan ∧ c.call.adm.step = c.call.adm.step ∧ c.number = c.number ∧ c.route = c.route ∧ c.group = c.group ∧ c.tries = c.tries ∧ c.waited = c.waited ∧ c.again = c.again ∧ c.at' = c.at' ∧ false = false ∧ (0 : Int) = (0 : Int) ∧ (0 : Int) = (0 : Int) ∧ (0 : Int) = (0 : Int) ∧ (0 : Int) = (0 : Int) ∧ (0 : Int) = (0 : Int) ∧ (0 : Int) = (0 : Int) ∧ (0 : Int) = (0 : Int) ∧ (0 : Int) = (0 : Int) ∧ { data := #[] : ByteArray } = ByteArray.empty ∧ (0 : Nat) = (0 : Nat) ∧ (0 : Int) = (0 : Int) ∧ (0 : Int) = (0 : Int) ∧ { data := #[] : ByteArray } = ByteArray.empty ∧ (0 : Int) = (0 : Int) ∧ (0 : Int) = (0 : Int) ∧ (0 : Int) = (0 : Int) ∧ (0 : Int) = (0 : Int) ∧ { data := #[] : ByteArray } = ByteArray.empty ∧ (0 : Nat) = (0 : Nat) ∧ (0 : Int) = (0 : Int) ∧ (0 : Int) = (0 : Int) ∧ { data := #[] : ByteArray } = ByteArray.empty ∧ (0 : Int) = (0 : Int) ∧ (0 : Int) = (0 : Int) ∧ (0 : Int) = (0 : Int) ∧ (0 : Int) = (0 : Int) ∧ { data := #[] : ByteArray } = ByteArray.empty ∧ false = false ∧ (0 : Int) = (0 : Int) ∧ (0 : Int) = (0 : Int) ∧ (0 : Int) = (0 : Int) ∧ (0 : Int) = (0 : Int) ∧ (0 : Int) = (0 : Int) ∧ false = false ∧ (0 : Nat) = (0 : Nat) ∧ (0 : Int) = (0 : Int) ∧ (0 : Nat) = (0 : Nat) ∧ (0 : Int) = (0 : Int) ∧ (0 : Int) = (0 : Int) ∧ (0 : Int) = (0 : Int) ∧ True) ∧ True) ∧ TkQ { c := c, o := @default Out instInhabitedOut : Nod } y ∧ ((y.c.id = y.c.id ∧ (true = true ∧ List.length y.c.servers = List.length y.c.servers ∧ contLe (List.length y.c.servers) (1 : Nat) (cellsOf' encI y.c.servers) (cellsOf' encI y.c.servers)) ∧ y.c.prod = y.c.prod ∧ y.c.seq = y.c.seq ∧ ((0 : Nat) = (0 : Nat) ∧ List.length y.c.topics = List.length y.c.topics) ∧ ((0 : Nat) = (0 : Nat) ∧ List.length y.c.leaders = List.length y.c.leaders) ∧ y.c.busy = y.c.busy ∧ y.c.call.kind = y.c.call.kind ∧ y.c.call.topic = y.c.call.topic ∧ y.c.call.key = y.c.call.key ∧ (true = true ∧ List.length y.c.call.val = List.length y.c.call.val ∧ contLe (List.length y.c.call.val) (1 : Nat) (cellsOf' encB y.c.call.val) (cellsOf' encB y.c.call.val)) ∧ y.c.call.off = y.c.call.off ∧ y.c.call.most = y.c.call.most ∧ y.c.call.name = y.c.call.name ∧ y.c.call.adm.kind = y.c.call.adm.kind ∧ y.c.call.adm.prod = y.c.call.adm.prod ∧ y.c.call.adm.seq = y.c.call.adm.seq ∧ y.c.call.adm.topic = y.c.call.adm.topic ∧ (true = true ∧ List.length y.c.call.adm.nodes = List.length y.c.call.adm.nodes ∧ contLe (List.length y.c.call.adm.nodes) (1 : Nat) (cellsOf' encI y.c.call.adm.nodes) (cellsOf' encI y.c.call.adm.nodes)) ∧ y.c.call.adm.group = y.c.call.adm.group ∧ y.c.call.adm.other = y.c.call.adm.other ∧ y.c.call.adm.key = y.c.call.adm.key ∧ y.c.call.adm.fr = y.c.call.adm.fr ∧ y.c.call.adm.to = y.c.call.adm.to ∧ y.c.call.adm.plan = y.c.call.adm.plan ∧ y.c.call.adm.step = y.c.call.adm.step ∧ y.c.number = y.c.number ∧ y.c.route = y.c.route ∧ y.c.group = y.c.group ∧ y.c.tries = y.c.tries ∧ y.c.waited = y.c.waited ∧ y.c.again = y.c.again ∧ y.c.at' = y.c.at' ∧ True) ∧ (y.o.send = y.o.send ∧ y.o.to = y.o.to ∧ y.o.req.id = y.o.req.id ∧ y.o.req.kind = y.o.req.kind ∧ y.o.req.group = y.o.req.group ∧ y.o.req.part.kind = y.o.req.part.kind ∧ y.o.req.part.epoch = y.o.req.part.epoch ∧ y.o.req.part.prod = y.o.req.part.prod ∧ y.o.req.part.seq = y.o.req.part.seq ∧ y.o.req.part.key = y.o.req.part.key ∧ (true = true ∧ List.length y.o.req.part.val = List.length y.o.req.part.val ∧ contLe (List.length y.o.req.part.val) (1 : Nat) (cellsOf' encB y.o.req.part.val) (cellsOf' encB y.o.req.part.val)) ∧ y.o.req.part.off = y.o.req.part.off ∧ y.o.req.part.most = y.o.req.part.most ∧ y.o.req.part.name = y.o.req.part.name ∧ y.o.req.part.plan = y.o.req.part.plan ∧ y.o.req.adm.kind = y.o.req.adm.kind ∧ y.o.req.adm.prod = y.o.req.adm.prod ∧ y.o.req.adm.seq = y.o.req.adm.seq ∧ y.o.req.adm.topic = y.o.req.adm.topic ∧ (true = true ∧ List.length y.o.req.adm.nodes = List.length y.o.req.adm.nodes ∧ contLe (List.length y.o.req.adm.nodes) (1 : Nat) (cellsOf' encI y.o.req.adm.nodes) (cellsOf' encI y.o.req.adm.nodes)) ∧ y.o.req.adm.group = y.o.req.adm.group ∧ y.o.req.adm.other = y.o.req.adm.other ∧ y.o.req.adm.key = y.o.req.adm.key ∧ y.o.req.adm.fr = y.o.req.adm.fr ∧ y.o.req.adm.to = y.o.req.adm.to ∧ y.o.req.adm.plan = y.o.req.adm.plan ∧ y.o.req.adm.step = y.o.req.adm.step ∧ y.o.req.topic = y.o.req.topic ∧ y.o.done = y.o.done ∧ y.o.rep.id = y.o.rep.id ∧ y.o.rep.err = y.o.rep.err ∧ y.o.rep.leader = y.o.rep.leader ∧ y.o.rep.rerr = y.o.rep.rerr ∧ y.o.rep.roff = y.o.rep.roff ∧ y.o.rep.rold = y.o.rep.rold ∧ (true = true ∧ List.length y.o.rep.recs = List.length y.o.rep.recs ∧ contLe (List.length y.o.rep.recs) (5 : Nat) (cellsOf' encR y.o.rep.recs) (cellsOf' encR y.o.rep.recs)) ∧ y.o.rep.number = y.o.rep.number ∧ (true = true ∧ List.length y.o.rep.shards = List.length y.o.rep.shards ∧ contLe (List.length y.o.rep.shards) (7 : Nat) (cellsOf' encSh y.o.rep.shards) (cellsOf' encSh y.o.rep.shards)) ∧ y.o.rep.group = y.o.rep.group ∧ y.o.rep.index = y.o.rep.index ∧ y.o.rep.term = y.o.rep.term ∧ True) ∧ (0 : Int) = (0 : Int) ∧ True) ∧ (List.length y.c.topics = List.length y.c.topics ∧ contLe (List.length y.c.topics) (2 : Nat) (cellsOf' encTp y.c.topics) (cellsOf' encTp y.c.topics)) ∧ (List.length y.c.leaders = List.length y.c.leaders ∧ contLe (List.length y.c.leaders) (2 : Nat) (cellsOf' encSi y.c.leaders) (cellsOf' encSi y.c.leaders)) ∧ True
set_option maxRecDepth 1000000 in
theorem vcSg3_eq (b : Bool) (c : Clt) (i : Inp) (y : Nod) : (ctrVC Tryd.prog (stgH b c i y) 12 [.agg (encC0 b c), .agg (encIk 3 i)] [] (stpR y 0)) = vcSg3 b c i y := by kernel_rfl
noncomputable def sogH (b : Bool) (c : Clt) : HintsT Tryd.prog := hh _ noLp (cs1 12 1 1 (copC b c) noCs) noOp
def vcSg0 (b : Bool) (c : Clt) (i : Inp) : Prop :=
  ((c.id = c.id ∧ (true = true ∧ List.length c.servers = List.length c.servers ∧ contLe (List.length c.servers) (1 : Nat) (cellsOf' encI c.servers) (cellsOf' encI c.servers)) ∧ c.prod = c.prod ∧ c.seq = c.seq ∧ (b = b ∧ List.length c.topics = List.length c.topics ∧ contLe (List.length c.topics) (2 : Nat) (cellsOf' encTp c.topics) (cellsOf' encTp c.topics)) ∧ (b = b ∧ List.length c.leaders = List.length c.leaders ∧ contLe (List.length c.leaders) (2 : Nat) (cellsOf' encSi c.leaders) (cellsOf' encSi c.leaders)) ∧ c.busy = c.busy ∧ c.call.kind = c.call.kind ∧ c.call.topic = c.call.topic ∧ c.call.key = c.call.key ∧ (true = true ∧ List.length c.call.val = List.length c.call.val ∧ contLe (List.length c.call.val) (1 : Nat) (cellsOf' encB c.call.val) (cellsOf' encB c.call.val)) ∧ c.call.off = c.call.off ∧ c.call.most = c.call.most ∧ c.call.name = c.call.name ∧ c.call.adm.kind = c.call.adm.kind ∧ c.call.adm.prod = c.call.adm.prod ∧ c.call.adm.seq = c.call.adm.seq ∧ c.call.adm.topic = c.call.adm.topic ∧ (true = true ∧ List.length c.call.adm.nodes = List.length c.call.adm.nodes ∧ contLe (List.length c.call.adm.nodes) (1 : Nat) (cellsOf' encI c.call.adm.nodes) (cellsOf' encI c.call.adm.nodes)) ∧ c.call.adm.group = c.call.adm.group ∧ c.call.adm.other = c.call.adm.other ∧ c.call.adm.key = c.call.adm.key ∧ c.call.adm.fr = c.call.adm.fr ∧ c.call.adm.to = c.call.adm.to ∧ c.call.adm.plan = c.call.adm.plan ∧ c.call.adm.step = c.call.adm.step ∧ c.number = c.number ∧ c.route = c.route ∧ c.group = c.group ∧ c.tries = c.tries ∧ c.waited = c.waited ∧ c.again = c.again ∧ c.at' = c.at' ∧ True) ∧ True) ∧ True ∧ CltOk c ∧ (i.kind = (1 : Int) → False) ∧ (i.kind = (2 : Int) → False) ∧ (i.kind = (3 : Int) → False) ∧ ((c.id = c.id ∧ (true = true ∧ List.length c.servers = List.length c.servers ∧ contLe (List.length c.servers) (1 : Nat) (cellsOf' encI c.servers) (cellsOf' encI c.servers)) ∧ c.prod = c.prod ∧ c.seq = c.seq ∧ ((0 : Nat) = (0 : Nat) ∧ List.length c.topics = List.length c.topics) ∧ ((0 : Nat) = (0 : Nat) ∧ List.length c.leaders = List.length c.leaders) ∧ c.busy = c.busy ∧ c.call.kind = c.call.kind ∧ c.call.topic = c.call.topic ∧ c.call.key = c.call.key ∧ (true = true ∧ List.length c.call.val = List.length c.call.val ∧ contLe (List.length c.call.val) (1 : Nat) (cellsOf' encB c.call.val) (cellsOf' encB c.call.val)) ∧ c.call.off = c.call.off ∧ c.call.most = c.call.most ∧ c.call.name = c.call.name ∧ c.call.adm.kind = c.call.adm.kind ∧ c.call.adm.prod = c.call.adm.prod ∧ c.call.adm.seq = c.call.adm.seq ∧ c.call.adm.topic = c.call.adm.topic ∧ (true = true ∧ List.length c.call.adm.nodes = List.length c.call.adm.nodes ∧ contLe (List.length c.call.adm.nodes) (1 : Nat) (cellsOf' encI c.call.adm.nodes) (cellsOf' encI c.call.adm.nodes)) ∧ c.call.adm.group = c.call.adm.group ∧ c.call.adm.other = c.call.adm.other ∧ c.call.adm.key = c.call.adm.key ∧ c.call.adm.fr = c.call.adm.fr ∧ c.call.adm.to = c.call.adm.to ∧ c.call.adm.plan = c.call.adm.plan ∧ c.call.adm.step = c.call.adm.step ∧ c.number = c.number ∧ c.route = c.route ∧ c.group = c.group ∧ c.tries = c.tries ∧ c.waited = c.waited ∧ c.again = c.again ∧ c.at' = c.at' ∧ True) ∧ (false = false ∧ (0 : Int) = (0 : Int) ∧ (0 : Int) = (0 : Int) ∧ (0 : Int) = (0 : Int) ∧ (0 : Int) = (0 : Int) ∧ (0 : Int) = (0 : Int) ∧ (0 : Int) = (0 : Int) ∧ (0 : Int) = (0 : Int) ∧ (0 : Int) = (0 : Int) ∧ { data := #[] : ByteArray } = ByteArray.empty ∧ (0 : Nat) = (0 : Nat) ∧ (0 : Int) = (0 : Int) ∧ (0 : Int) = (0 : Int) ∧ { data := #[] : ByteArray } = ByteArray.empty ∧ (0 : Int) = (0 : Int) ∧ (0 : Int) = (0 : Int) ∧ (0 : Int) = (0 : Int) ∧ (0 : Int) = (0 : Int) ∧ { data := #[] : ByteArray } = ByteArray.empty ∧ (0 : Nat) = (0 : Nat) ∧ (0 : Int) = (0 : Int) ∧ (0 : Int) = (0 : Int) ∧ { data := #[] : ByteArray } = ByteArray.empty ∧ (0 : Int) = (0 : Int) ∧ (0 : Int) = (0 : Int) ∧ (0 : Int) = (0 : Int) ∧ (0 : Int) = (0 : Int) ∧ { data := #[] : ByteArray } = ByteArray.empty ∧ false = false ∧ (0 : Int) = (0 : Int) ∧ (0 : Int) = (0 : Int) ∧ (0 : Int) = (0 : Int) ∧ (0 : Int) = (0 : Int) ∧ (0 : Int) = (0 : Int) ∧ false = false ∧ (0 : Nat) = (0 : Nat) ∧ (0 : Int) = (0 : Int) ∧ (0 : Nat) = (0 : Nat) ∧ (0 : Int) = (0 : Int) ∧ (0 : Int) = (0 : Int) ∧ (0 : Int) = (0 : Int) ∧ True) ∧ (1 : Int) = (1 : Int) ∧ True) ∧ (List.length c.topics = List.length c.topics ∧ contLe (List.length c.topics) (2 : Nat) (cellsOf' encTp c.topics) (cellsOf' encTp c.topics)) ∧ (List.length c.leaders = List.length c.leaders ∧ contLe (List.length c.leaders) (2 : Nat) (cellsOf' encSi c.leaders) (cellsOf' encSi c.leaders)) ∧ True
set_option maxRecDepth 1000000 in
theorem vcSg0_eq (b : Bool) (c : Clt) (i : Inp) : (ctrVC Tryd.prog (sogH b c) 12 [.agg (encC0 b c), .agg (encIn i)] [] (stpR ⟨c, default⟩ 1)) = vcSg0 b c i := by kernel_rfl
end Go.Proofs.YtdpbogaldcpfeaaDoor.C

/-! A client: a step of any kind. -/
--fold
namespace Go.Proofs.YtdpbogaldcpfeaaDoor.C
open Go.Ax
set_option maxRecDepth 1000000
def stepN (c : Clt) (i : Inp) : Nod := if i.kind = 1 then begQ ⟨c, default⟩ i.call else if i.kind = 2 then herN ⟨c, default⟩ i.rep else if i.kind = 3 then ticN ⟨c, default⟩ else ⟨c, default⟩
def stepE (c : Clt) (i : Inp) : Int := if i.kind = 1 then begE ⟨c, default⟩ i.call else if i.kind = 2 then 0 else if i.kind = 3 then 0 else 1
structure StG (c : Clt) (i : Inp) (y : Nod) (e : Int) : Prop where
  co : CltOk c
  y : y = stepN c i
  e : e = stepE c i
  h1 : i.kind = 1 → SndOk (beg1 ⟨c, default⟩ i.call)
  h2 : i.kind = 2 → HrOk ⟨c, default⟩ i
  h3 : i.kind = 3 → TkOk ⟨c, default⟩
theorem stg1 (b : Bool) (c : Clt) (i : Inp) (y : Nod) (e : Int) (hc : CltOk c) (q : BgQ ⟨c, default⟩ i y e) (hk : i.kind = 1) : (stpR y e).Sat (ACall' Tryd.prog 12 [.agg (encC0 b c), .agg (encIk 1 i)] []) := by
  refine ctr_vc (ht := sgH b c i y e) Tryd.mixed rfl ?_
  rw [vcSg1_eq b c i y e]
  unfold vcSg1 vcSg1_q1
  have he := q.e
  have hy := q.y
  simp [hc, q, hk]
  refine ⟨rfl, fun hn => ?_, fun hn => ?_⟩
  · have e0 : begQ ⟨c, default⟩ i.call = ⟨c, default⟩ := if_neg (by rw [← he]; exact hn)
    rw [e0] at hy
    subst hy
    repeat' apply And.intro
    all_goals first | rfl | exact contLe_refl _ _ _
  · first | exact hn.symm | exact hn | (repeat' apply And.intro) <;> first | rfl | exact hn.symm | exact hn | exact contLe_refl _ _ _
theorem stg2 (b : Bool) (c : Clt) (i : Inp) (y : Nod) (hc : CltOk c) (q : HrQ ⟨c, default⟩ i y) (hk : i.kind = 2) : (stpR y 0).Sat (ACall' Tryd.prog 12 [.agg (encC0 b c), .agg (encIk 2 i)] []) := by
  refine ctr_vc (ht := shgH b c i y) Tryd.mixed rfl ?_
  rw [vcSg2_eq b c i y]
  unfold vcSg2
  simp [hc, q]
  first | rfl | (repeat' apply And.intro) <;> first | rfl | exact contLe_refl _ _ _
theorem stg3 (b : Bool) (c : Clt) (i : Inp) (y : Nod) (hc : CltOk c) (q : TkQ ⟨c, default⟩ y) : (stpR y 0).Sat (ACall' Tryd.prog 12 [.agg (encC0 b c), .agg (encIk 3 i)] []) := by
  refine ctr_vc (ht := stgH b c i y) Tryd.mixed rfl ?_
  rw [vcSg3_eq b c i y]
  unfold vcSg3
  simp [hc, q]
  first | rfl | (repeat' apply And.intro) <;> first | rfl | exact contLe_refl _ _ _
theorem stg0 (b : Bool) (c : Clt) (i : Inp) (hc : CltOk c) (h1 : ¬ i.kind = 1) (h2 : ¬ i.kind = 2) (h3 : ¬ i.kind = 3) : (stpR ⟨c, default⟩ 1).Sat (ACall' Tryd.prog 12 [.agg (encC0 b c), .agg (encIn i)] []) := by
  refine ctr_vc (ht := sogH b c) Tryd.mixed rfl ?_
  rw [vcSg0_eq b c i]
  unfold vcSg0
  simp [hc, h1, h2, h3]
  first | rfl | (repeat' apply And.intro) <;> first | rfl | exact contLe_refl _ _ _
theorem stg_c (b : Bool) (c : Clt) (i : Inp) (y : Nod) (e : Int) (h : StG c i y e) : (stpR y e).Sat (ACall' Tryd.prog 12 [.agg (encC0 b c), .agg (encIn i)] []) := by
  obtain ⟨co, hy, he, h1, h2, h3⟩ := h
  by_cases k1 : i.kind = 1
  · have q : BgQ ⟨c, default⟩ i y e := ⟨by rw [hy]; simp [stepN, k1], by rw [he]; simp [stepE, k1], h1 k1⟩
    have := stg1 b c i y e co q k1
    rw [← k1] at this
    exact this
  · by_cases k2 : i.kind = 2
    · have q : HrQ ⟨c, default⟩ i y := ⟨by rw [hy]; simp [stepN, k2], h2 k2⟩
      have := stg2 b c i y co q k2
      have e0 : e = 0 := by rw [he]; simp [stepE, k2]
      rw [← k2] at this
      rw [e0]
      exact this
    · by_cases k3 : i.kind = 3
      · have q : TkQ ⟨c, default⟩ y := ⟨by rw [hy]; simp [stepN, k3], h3 k3⟩
        have := stg3 b c i y co q
        have e0 : e = 0 := by rw [he]; simp [stepE, k3]
        rw [← k3] at this
        rw [e0]
        exact this
      · have e0 : e = 1 := by rw [he]; simp [stepE, k1, k2, k3]
        have y0 : y = ⟨c, default⟩ := by rw [hy]; simp [stepN, k1, k2, k3]
        rw [e0, y0]
        exact stg0 b c i co k1 k2 k3
end Go.Proofs.YtdpbogaldcpfeaaDoor.C

/-! A client's New: sorted and compact, by the library's contracts. -/
namespace Go.Proofs
open Go.Shelf
def Tryd.lays189_ren : Go.Shelf.Ren := ⟨fun | 189 => 17 | 125 => 32 | 257 => 31 | 128 => 55 | 129 => 56 | 294 => 46 | 295 => 47 | 296 => 48 | 297 => 49 | 298 => 50 | 299 => 51 | 216 => 52 | 300 => 53 | 301 => 54 | 328 => 74 | 329 => 75 | 330 => 76 | 331 => 77 | 332 => 78 | 215 => 79 | 343 => 93 | n => n, fun | 28 => 22 | 3 => 3 | 46 => 95 | 0 => 0 | 51 => 113 | 53 => 23 | 4 => 4 | 183 => 106 | 182 => 105 | 131 => 110 | 5 => 5 | 9 => 9 | 218 => 131 | 222 => 135 | 228 => 150 | 229 => 151 | n => n, fun | n => n⟩
theorem Tryd.lays189 : Go.Proofs.Lays.n189 Tryd.prog Tryd.lays189_ren := {
  mixed := by kernel_rfl
  f125 := Tryd.func32.trans (congrArg some (by kernel_rfl))
  f128 := Tryd.func55.trans (congrArg some (by kernel_rfl))
  f129 := Tryd.func56.trans (congrArg some (by kernel_rfl))
  f189 := Tryd.func17.trans (congrArg some (by kernel_rfl))
  f215 := Tryd.func79.trans (congrArg some (by kernel_rfl))
  f216 := Tryd.func52.trans (congrArg some (by kernel_rfl))
  f257 := Tryd.func31.trans (congrArg some (by kernel_rfl))
  f294 := Tryd.func46.trans (congrArg some (by kernel_rfl))
  f295 := Tryd.func47.trans (congrArg some (by kernel_rfl))
  f296 := Tryd.func48.trans (congrArg some (by kernel_rfl))
  f297 := Tryd.func49.trans (congrArg some (by kernel_rfl))
  f298 := Tryd.func50.trans (congrArg some (by kernel_rfl))
  f299 := Tryd.func51.trans (congrArg some (by kernel_rfl))
  f300 := Tryd.func53.trans (congrArg some (by kernel_rfl))
  f301 := Tryd.func54.trans (congrArg some (by kernel_rfl))
  f328 := Tryd.func74.trans (congrArg some (by kernel_rfl))
  f329 := Tryd.func75.trans (congrArg some (by kernel_rfl))
  f330 := Tryd.func76.trans (congrArg some (by kernel_rfl))
  f331 := Tryd.func77.trans (congrArg some (by kernel_rfl))
  f332 := Tryd.func78.trans (congrArg some (by kernel_rfl))
  f343 := Tryd.func93.trans (congrArg some (by kernel_rfl))
  t0 := Tryd.underlying0
  a0 := Tryd.isAgg0
  z0 := Tryd.sizeOf0
  v0 := Tryd.zeroValue0
  t3 := Tryd.underlying3
  a3 := Tryd.isAgg3
  z3 := Tryd.sizeOf3
  v3 := Tryd.zeroValue3
  t4 := Tryd.underlying4
  a4 := Tryd.isAgg4
  z4 := Tryd.sizeOf4
  v4 := Tryd.zeroValue4
  t5 := Tryd.underlying5
  a5 := Tryd.isAgg5
  z5 := Tryd.sizeOf5
  v5 := Tryd.zeroValue5
  t9 := Tryd.underlying9
  a9 := Tryd.isAgg9
  z9 := Tryd.sizeOf9
  v9 := Tryd.zeroValue9
  t28 := Tryd.underlying22
  a28 := Tryd.isAgg22
  z28 := Tryd.sizeOf22
  v28 := Tryd.zeroValue22
  t46 := Tryd.underlying95
  a46 := Tryd.isAgg95
  z46 := Tryd.sizeOf95
  v46 := Tryd.zeroValue95
  t51 := Tryd.underlying113
  a51 := Tryd.isAgg113
  z51 := Tryd.sizeOf113
  v51 := Tryd.zeroValue113
  t53 := Tryd.underlying23
  a53 := Tryd.isAgg23
  z53 := Tryd.sizeOf23
  v53 := Tryd.zeroValue23
  t131 := Tryd.underlying110
  a131 := Tryd.isAgg110
  z131 := Tryd.sizeOf110
  v131 := Tryd.zeroValue110
  t182 := Tryd.underlying105
  a182 := Tryd.isAgg105
  z182 := Tryd.sizeOf105
  v182 := Tryd.zeroValue105
  t183 := Tryd.underlying106
  a183 := Tryd.isAgg106
  z183 := Tryd.sizeOf106
  v183 := Tryd.zeroValue106
  t218 := Tryd.underlying131
  a218 := Tryd.isAgg131
  z218 := Tryd.sizeOf131
  v218 := Tryd.zeroValue131
  t222 := Tryd.underlying135
  a222 := Tryd.isAgg135
  z222 := Tryd.sizeOf135
  v222 := Tryd.zeroValue135
  t228 := Tryd.underlying150
  a228 := Tryd.isAgg150
  z228 := Tryd.sizeOf150
  v228 := Tryd.zeroValue150
  t229 := Tryd.underlying151
  a229 := Tryd.isAgg151
  z229 := Tryd.sizeOf151
  v229 := Tryd.zeroValue151 }
def Tryd.lays20_ren : Go.Shelf.Ren := ⟨fun | 20 => 21 | n => n, fun | 22 => 22 | 3 => 3 | 4 => 4 | 0 => 0 | n => n, fun | n => n⟩
theorem Tryd.lays20 : Go.Proofs.Lays2.n20 Tryd.prog Tryd.lays20_ren := {
  mixed := by kernel_rfl
  f20 := Tryd.func21.trans (congrArg some (by kernel_rfl))
  t0 := Tryd.underlying0
  a0 := Tryd.isAgg0
  z0 := Tryd.sizeOf0
  v0 := Tryd.zeroValue0
  t3 := Tryd.underlying3
  a3 := Tryd.isAgg3
  z3 := Tryd.sizeOf3
  v3 := Tryd.zeroValue3
  t4 := Tryd.underlying4
  a4 := Tryd.isAgg4
  z4 := Tryd.sizeOf4
  v4 := Tryd.zeroValue4
  t22 := Tryd.underlying22
  a22 := Tryd.isAgg22
  z22 := Tryd.sizeOf22
  v22 := Tryd.zeroValue22
  i3 := by kernel_rfl }
end Go.Proofs
namespace Go.Proofs.YtdpbogaldcpfeaaDoor.C
open Go.Ax
set_option maxRecDepth 1000000
theorem upd_grown {H : HH} {E : Env} {w w' : World} {M : List Blk} (h : Conc H E w M) {i b : Nat} {B : Blk} (hl : E.lv i = true) (hb : E.ι i = some b) (hu : w.grownBy w' (some b)) (hB : BlkOk H E w' i B) : Conc H E w' (putM M i B) ∧ Evol [] H E w H E w' := by
  have hlt : ∀ j c, E.lv j = true → E.ι j = some c → c < w.heap.size := fun j c hj hc => h.lt hj hc
  refine ⟨⟨fun c x hx => ?_, h.tf, fun j => ?_, h.inj, h.sep⟩, ⟨hu.os, hu.tape, hu.output, hu.size, fun c hc hn => hu.block c hc fun e => ?_, fun j c hj hc => .inl ⟨j, hj, hc⟩, HH.le_refl _, fun _ _ _ hx => .inl hx, fun _ hx _ => ⟨hx, rfl, rfl, rfl⟩⟩⟩
  · rw [hu.block c (IH.lt_of h.imm hx) fun e => by cases e; rw [h.sep i _ hl hb] at hx; cases hx]
    exact h.imm c x hx
  · by_cases hj : i = j
    · subst hj; rw [getM_put_same]; exact hB
    · rw [getM_put_ne _ _ _ _ hj]
      have := (h.blk j).move (f := some) (H' := H) (E' := E) (w' := w') (i' := j) (HH.le_refl _) (fun a c hc hl => by cases hc; exact ⟨hl, rfl, rfl, rfl⟩) rfl rfl rfl rfl fun c hlj hc => hu.block c (hlt j c hlj hc) fun e => by
        cases e
        exact hj (h.inj i j _ hl hlj hb hc)
      rwa [renB_some] at this
  · cases e
    exact hn i hl hb
theorem ints_at {H : HH} {E : Env} {w : World} {i b : Nat} {ty : TypeId} {cap : Option Nat} {l : List Int} (hB : BlkOk H E w i (.row ty 1 l.length cap (cellsOf' encI l))) (hb : E.ι i = some b) :
    ∃ vs : Array Value, w.heap[b]? = some (.cells vs ty (0, 0)) ∧ vs.size = E.κ i * 1 ∧ l.length ≤ E.κ i ∧ vs.toList.take l.length = l.map (Value.int .i64) := by
  obtain ⟨_, hn, _, _, hm⟩ := hB
  rw [hb] at hm
  obtain ⟨vs, g1, g2, g3, g4⟩ := hm
  refine ⟨vs, g1, g3, by omega, ?_⟩
  apply List.ext_getElem?
  intro j
  by_cases hj : j < l.length
  · obtain ⟨x, hx, hr⟩ := g4 j hj 0 (by omega)
    have hr : x = Value.int .i64 (l.getD j default) := hr.1
    rw [List.getElem?_take_of_lt hj, Array.getElem?_toList, List.getElem?_map, List.getElem?_eq_getElem hj]
    have e : j * 1 + 0 = j := by omega
    rw [e] at hx
    rw [hx, hr]
    simp [hj]
  · rw [List.getElem?_take_eq_none (by omega), List.getElem?_eq_none (by simp; omega)]
theorem ints_put {H : HH} {E : Env} {w : World} {M : List Blk} {i b q : Nat} {os : Array Obj} {ty : TypeId} {cap : Option Nat} {l d : List Int} (hC : Conc H E w M) (hg : getM M i = .row ty 1 l.length cap (cellsOf' encI l)) (hb : E.ι i = some b) (hd : d.length = l.length) :
    Conc H E (Go.Sort.grow (Go.Sort.putRow (Value.int .i64) (Go.Sort.ahead w q) b 0 d.toArray) os) (putM M i (.row ty 1 l.length cap (cellsOf' encI d))) ∧ Evol [] H E w H E (Go.Sort.grow (Go.Sort.putRow (Value.int .i64) (Go.Sort.ahead w q) b 0 d.toArray) os) := by
  have hB := hC.blk i
  rw [hg] at hB
  obtain ⟨vs, g1, g2, g3, g4⟩ := ints_at hB hb
  obtain ⟨hlv, hn, hκ, hcap, _⟩ := hB
  have ht := Go.take_putCellsI vs d (by omega)
  refine upd_grown hC hlv hb (Go.grownBy_sortedI _) ⟨hlv, hn, hκ, hcap, ?_⟩
  rw [hb]
  refine ⟨_, Go.heap_sortedI _ g1, fun y hy => ?_, by simpa [Go.Sort.putCells] using g2, fun k hk j hj => ?_⟩
  · rw [Nat.mul_one, ← hd, ht] at hy
    obtain ⟨z, _, rfl⟩ := List.mem_map.1 hy
    rfl
  · obtain rfl : j = 0 := by omega
    have e : k * 1 + 0 = k := by omega
    have h1 : ((Go.Sort.putCells (Value.int .i64) 0 d.toArray vs).toList.take d.length)[k]? = (d.map (Value.int .i64))[k]? := by rw [ht]
    rw [List.getElem?_take_of_lt (by omega), Array.getElem?_toList, List.getElem?_map, List.getElem?_eq_getElem (by omega)] at h1
    rw [e]
    refine ⟨_, h1, ?_⟩
    show Rel (.y (.int .i64 (d.getD k default))) _ _ _
    refine ⟨?_, rfl⟩
    simp [show k < d.length by omega]
def srM (l : List Int) : List Blk := [.dead, .dead, .row 3 1 l.length none (cellsOf' encI l)]
def srt (l : List Int) : List Int := l.mergeSort fun x y => decide (x ≤ y)
theorem srt_len (l : List Int) : (srt l).length = l.length := List.length_mergeSort l
def vcSr0 (u : Unit) : Prop :=
  True ∧ ((0 : Nat) = (0 : Nat) ∧ contLe (0 : Nat) (1 : Nat) (cellsOf' encI []) (cellsOf' encI [])) ∧ True
set_option maxRecDepth 1000000 in
theorem vcSr0_eq (u : Unit) : (ctrVC Tryd.prog (hT _) 17 [.s (.slice none 0 0)] (srM []) (.ret (.tup [], srM [], []))) = vcSr0 u := by kernel_rfl
def cloR (l : List Int) : T An := .ret (.own 0 1 0 l.length, [.row 3 1 l.length none (cellsOf' encI l)], [])
noncomputable def cloH : HintsT Tryd.prog := hh _ noLp noCs (op1 16 2 0 (.row 3 1) noOp)
def vcClo0 (l : List Int) : Prop :=
  ((0 : Nat) = (0 : Nat) ∧ (0 : Nat) = List.length l) ∧ ((0 : Nat) = List.length l ∧ contLe (0 : Nat) (1 : Nat) (fun (x x_1 : Nat) => AV.junk) (cellsOf' encI l)) ∧ True
set_option maxRecDepth 1000000 in
theorem vcClo0_eq (l : List Int) : (ctrVC Tryd.prog cloH 16 [.s (.slice none 0 0)] [] (cloR l)) = vcClo0 l := by kernel_rfl
def vcClo1 (b : Bool) (l : List Int) : Prop :=
  (decide ((0 : Nat) + List.length l ≤ (9223372036854775807 : Nat)) && decide (((0 : Nat) + List.length l) * (8 : Nat) ≤ (140737488355328 : Nat))) = true ∧ ((0 : Nat) = (0 : Nat) ∧ (0 : Nat) + List.length l = List.length l) ∧ ((0 : Nat) + List.length l = List.length l ∧ contLe ((0 : Nat) + List.length l) (1 : Nat) (appRow (0 : Nat) (fun (k j : Nat) => AV.junk) (cellsOf' encI l)) (cellsOf' encI l)) ∧ True
set_option maxRecDepth 1000000 in
theorem vcClo1_eq (b : Bool) (l : List Int) : (ctrVC Tryd.prog cloH 16 [.yn b 1 l.length (cellsOf' encI l)] [] (cloR l)) = vcClo1 b l := by kernel_rfl
theorem clo_c (b : Bool) (l : List Int) (hl : l.length * 8 ≤ 140737488355328) : (cloR l).Sat (ACall' Tryd.prog 16 [encIs b l] []) := by
  refine nil_cases (pre := []) (post := []) (fun h0 => ?_) ?_ ⟨_, rfl⟩
  · refine ctr_vc (ht := cloH) Tryd.mixed rfl ?_
    rw [List.nil_append, vcClo0_eq l]
    unfold vcClo0
    simp [h0]
  · refine ctr_vc (ht := cloH) Tryd.mixed rfl ?_
    rw [List.nil_append, vcClo1_eq b l]
    unfold vcClo1
    simp
    omega
theorem sr0_c : (T.ret (.tup [], srM [], []) : T An).Sat (ACall' Tryd.prog 17 [.s (.slice none 0 0)] (srM [])) := by
  refine ctr_vc (ht := hT _) Tryd.mixed rfl ?_
  rw [vcSr0_eq ()]
  unfold vcSr0
  simp
theorem of_ret {P : Program} {f : FuncId} {args : List AV} {M : List Blk} {a : An} (h : (T.ret a : T An).Sat (ACall' P f args M)) : ACall' P f args M a := by
  obtain ⟨a', ha, e⟩ := h (fun x => x = a) rfl
  rw [← e]; exact ha
theorem srG_c (l : List Int) (hl : l.length < 4611686018427387904) : (T.ret (.tup [], srM (srt l), []) : T An).Sat (ACall' Tryd.prog 17 [.own 2 1 0 l.length] (srM l)) := by
  refine T.Sat.ret fun H E w vals hC hargs => ?_
  obtain ⟨v, r, e1, hv, e2⟩ := hargs
  have e2 : r = [] := e2
  subst e2
  have hvals : vals = #[v] := Array.ext' e1
  subst hvals
  obtain ⟨hlv, hη, hm⟩ := hv
  have hB := hC.blk 2
  cases hb : E.ι 2 with
  | none =>
    rw [hb] at hm
    obtain ⟨_, h0, rfl⟩ := hm
    have hl0 : l = [] := List.eq_nil_of_length_eq_zero h0
    subst hl0
    have e0 : srt [] = [] := by unfold srt; simp
    rw [e0]
    exact of_ret sr0_c H E w #[.slice none 0 0] hC ⟨_, _, rfl, ⟨rfl, rfl⟩, rfl⟩
  | some b =>
    rw [hb] at hm
    obtain ⟨ad, rfl, had⟩ := hm
    have had := had.1 (.inl rfl)
    rw [Nat.zero_mul] at had
    subst had
    obtain ⟨vs, g1, g2, g3, g4⟩ := ints_at hB hb
    refine (Any.slices_Sort_int Tryd.lays189 b 0 _ l w (Go.holds_of_blockI g1 g4) (Array.getElem?_eq_some_iff.1 g1).1 hl).mono ?_
    rintro e w' ⟨rfl, n, os, rfl⟩
    obtain ⟨c1, c2⟩ := ints_put (q := n) (os := os) (d := srt l) hC (i := 2) rfl hb (srt_len l)
    refine ⟨_, H, E, rfl, ⟨#[], rfl, rfl⟩, ?_, c2⟩
    have e : srM (srt l) = putM (srM l) 2 (.row 3 1 l.length none (cellsOf' encI (srt l))) := by
      unfold srM
      rw [srt_len]
      rfl
    rw [e]
    exact c1
def cmpM (l : List Int) : List Blk := [.dead, .dead, .row 3 1 l.length none (cellsOf' encI (Lib.compact l ++ List.replicate (l.length - (Lib.compact l).length) 0))]
theorem compact_le (l : List Int) : (Lib.compact l).length ≤ l.length := by
  unfold Lib.compact Lib.compactUpTo
  rw [List.length_map]
  refine Nat.le_trans (List.length_filter_le _ _) ?_
  simp
theorem cmG_c (l : List Int) (hl : l.length ≤ 9223372036854775807) (h0 : 0 < l.length) : (T.ret (.own 2 1 0 (Lib.compact l).length, cmpM l, []) : T An).Sat (ACall' Tryd.prog 21 [.own 2 1 0 l.length] (srM l)) := by
  refine T.Sat.ret fun H E w vals hC hargs => ?_
  obtain ⟨v, r, e1, hv, e2⟩ := hargs
  have e2 : r = [] := e2
  subst e2
  have hvals : vals = #[v] := Array.ext' e1
  subst hvals
  obtain ⟨hlv, hη, hm⟩ := hv
  have hB := hC.blk 2
  have hcl := compact_le l
  cases hb : E.ι 2 with
  | none =>
    rw [hb] at hm
    obtain ⟨_, h1, _⟩ := hm
    omega
  | some b =>
    rw [hb] at hm
    obtain ⟨ad, rfl, had⟩ := hm
    have had := had.1 (.inl rfl)
    rw [Nat.zero_mul] at had
    subst had
    obtain ⟨vs, g1, g2, g3, g4⟩ := ints_at hB hb
    refine (Any.slices_Compact_int Tryd.lays20 b 0 (E.κ 2 - 0) l w (Go.holds_of_blockI g1 g4) hl (by omega)).mono ?_
    rintro e w' ⟨rfl, q, rfl⟩
    obtain ⟨c1, c2⟩ := ints_put (q := q) (os := #[]) (d := Lib.compact l ++ List.replicate (l.length - (Lib.compact l).length) 0) hC (i := 2) rfl hb (by simp; omega)
    rw [Go.Sort.grow_empty] at c1 c2
    refine ⟨_, H, E, rfl, ⟨hlv, by omega, ?_⟩, c1, c2⟩
    rw [hb]
    exact ⟨_, rfl, ⟨fun _ => by simp, by simp⟩⟩
noncomputable def cloC (b : Bool) (l : List Int) : Ctr Tryd.prog := ⟨16, [encIs b l], [], .need (l.length * 8 ≤ 140737488355328) (cloR l), T.Sat.need fun h => clo_c b l h⟩
structure SrtQ (l s : List Int) : Prop where
  s : s = srt l
  n : l.length < 4611686018427387904
noncomputable def srG (l s : List Int) : Ctr Tryd.prog := ⟨17, [.own 2 1 0 l.length], srM l, .need (SrtQ l s) (.ret (.tup [], srM s, [])), T.Sat.need fun h => by obtain ⟨rfl, h⟩ := h; exact srG_c l h⟩
structure CmpQ (l m : List Int) : Prop where
  m : m = Lib.compact l
  n : l.length ≤ 9223372036854775807
  z : 0 < l.length
noncomputable def cmG (l m : List Int) : Ctr Tryd.prog := ⟨21, [.own 2 1 0 l.length], srM l, .need (CmpQ l m) (.ret (.own 2 1 0 m.length, cmpM l, [])), T.Sat.need fun h => by obtain ⟨rfl, h1, h2⟩ := h; exact cmG_c l h1 h2⟩
/-! New -/
noncomputable def nwgH (id : Int) (b : Bool) (l s m : List Int) : HintsT Tryd.prog := withSub (hh _ noLp (cs1 9 1 1 (cloC b l) (cs1 9 2 1 (srG l s) (cs1 9 7 2 (nwHas id false s) (cs1 9 8 1 (cmG s m) (cs1 9 10 2 (clI b l) noCs))))) noOp) [17, 21]
def newQ (id : Int) (l : List Int) (p : Int) : Clt := { (default : Clt) with id := id, servers := l, prod := p }
def nwgR (c : Clt) (e : Int) : T An := .ret (.tup [.agg (encC0 true c), .y (.int .i64 e)], [], [])
def vcNwg_q1 (c : Clt) (e : Int) : Prop := (((0 : Int) = c.id ∧ List.length c.servers = (0 : Nat) ∧ (0 : Int) = c.prod ∧ (0 : Int) = c.seq ∧ List.length c.topics = (0 : Nat) ∧ List.length c.leaders = (0 : Nat) ∧ false = c.busy ∧ (0 : Int) = c.call.kind ∧ { data := #[] : ByteArray } = c.call.topic ∧ { data := #[] : ByteArray } = c.call.key ∧ List.length c.call.val = (0 : Nat) ∧ (0 : Int) = c.call.off ∧ (0 : Int) = c.call.most ∧ { data := #[] : ByteArray } = c.call.name ∧ (0 : Int) = c.call.adm.kind ∧ (0 : Int) = c.call.adm.prod ∧ (0 : Int) = c.call.adm.seq ∧ { data := #[] : ByteArray } = c.call.adm.topic ∧ List.length c.call.adm.nodes = (0 : Nat) ∧ (0 : Int) = c.call.adm.group ∧ (0 : Int) = c.call.adm.other ∧ { data := #[] : ByteArray } = c.call.adm.key ∧ (0 : Int) = c.call.adm.fr ∧ (0 : Int) = c.call.adm.to ∧ (0 : Int) = c.call.adm.plan ∧ (0 : Int) = c.call.adm.step ∧ (0 : Int) = c.number ∧ false = c.route ∧ (0 : Int) = c.group ∧ (0 : Int) = c.tries ∧ (0 : Int) = c.waited ∧ false = c.again ∧ (0 : Int) = c.at' ∧ True) ∧ (1 : Int) = e ∧ True)
def vcNwg (id : Int) (b : Bool) (l : List Int) (s : List Int) (m : List Int) (p : Int) (c : Clt) (e : Int) : Prop :=
  ((b = b ∧ List.length l = List.length l ∧ contLe (List.length l) (1 : Nat) (cellsOf' encI l) (cellsOf' encI l)) ∧ True) ∧ True ∧ List.length l * (8 : Nat) ≤ (140737488355328 : Nat) ∧ (((0 : Nat) = (0 : Nat) ∧ List.length l = List.length l) ∧ True) ∧ ((List.length l = List.length l ∧ contLe (List.length l) (1 : Nat) (cellsOf' encI l) (cellsOf' encI l)) ∧ True) ∧ SrtQ l s ∧ (decide (id < (1 : Int)) = true → (vcNwg_q1 c e) ∧ True) ∧ (decide (id < (1 : Int)) = false → (decide ((7 : Int) < id) = true → (vcNwg_q1 c e) ∧ True) ∧ (decide ((7 : Int) < id) = false → (((↑(List.length l) : Int) == (0 : Int)) = true → (vcNwg_q1 c e) ∧ True) ∧ (((↑(List.length l) : Int) == (0 : Int)) = false → ((p == (0 : Int)) = true → (vcNwg_q1 c e) ∧ True) ∧ ((p == (0 : Int)) = false → ((false = false ∧ List.length l = List.length s ∧ contLe (List.length l) (1 : Nat) (Ax.rowAt (0 : Nat) (cellsOf' encI s)) (cellsOf' encI s)) ∧ (True ∧ (false = false ∧ (1 : Nat) ≤ (1 : Nat) ∧ cellLe (1 : Nat) (fun (j : Nat) => Ax.get [AV.y (Value.int IntKind.i64 id)] ((0 : Nat) + j)) (Ax.get [AV.y (Value.int IntKind.i64 id)])) ∧ True) ∧ True) ∧ True ∧ (List.length s ≤ (9223372036854775806 : Nat) ∧ ∀ (k : Nat), k < List.length s → True) ∧ true = true ∧ True ∧ (nwAny id s = true → (vcNwg_q1 c e) ∧ True) ∧ (nwAny id s = false → (((0 : Nat) = (0 : Nat) ∧ List.length l = List.length s) ∧ True) ∧ ((List.length s = List.length s ∧ contLe (List.length s) (1 : Nat) (cellsOf' encI s) (cellsOf' encI s)) ∧ True) ∧ CmpQ s m ∧ (((↑(List.length m) : Int) != (↑(List.length l) : Int)) = true → (vcNwg_q1 c e) ∧ True) ∧ (((↑(List.length m) : Int) != (↑(List.length l) : Int)) = false → ((b = b ∧ List.length l = List.length l ∧ contLe (List.length l) (1 : Nat) (cellsOf' encI l) (cellsOf' encI l)) ∧ True) ∧ True ∧ List.length l * (8 : Nat) ≤ (140737488355328 : Nat) ∧ ((id = c.id ∧ (true = true ∧ List.length l = List.length c.servers ∧ contLe (List.length l) (1 : Nat) (cellsOf' encI l) (cellsOf' encI c.servers)) ∧ p = c.prod ∧ (0 : Int) = c.seq ∧ List.length c.topics = (0 : Nat) ∧ List.length c.leaders = (0 : Nat) ∧ false = c.busy ∧ (0 : Int) = c.call.kind ∧ { data := #[] : ByteArray } = c.call.topic ∧ { data := #[] : ByteArray } = c.call.key ∧ List.length c.call.val = (0 : Nat) ∧ (0 : Int) = c.call.off ∧ (0 : Int) = c.call.most ∧ { data := #[] : ByteArray } = c.call.name ∧ (0 : Int) = c.call.adm.kind ∧ (0 : Int) = c.call.adm.prod ∧ (0 : Int) = c.call.adm.seq ∧ { data := #[] : ByteArray } = c.call.adm.topic ∧ List.length c.call.adm.nodes = (0 : Nat) ∧ (0 : Int) = c.call.adm.group ∧ (0 : Int) = c.call.adm.other ∧ { data := #[] : ByteArray } = c.call.adm.key ∧ (0 : Int) = c.call.adm.fr ∧ (0 : Int) = c.call.adm.to ∧ (0 : Int) = c.call.adm.plan ∧ (0 : Int) = c.call.adm.step ∧ (0 : Int) = c.number ∧ false = c.route ∧ (0 : Int) = c.group ∧ (0 : Int) = c.tries ∧ (0 : Int) = c.waited ∧ false = c.again ∧ (0 : Int) = c.at' ∧ True) ∧ (0 : Int) = e ∧ True) ∧ True))))))
set_option maxRecDepth 1000000 in
theorem vcNwg_eq (id : Int) (b : Bool) (l : List Int) (s : List Int) (m : List Int) (p : Int) (c : Clt) (e : Int) : (ctrVC Tryd.prog (nwgH id b l s m) 9 [.y (.int .i64 id), encIs b l, .y (.int .u64 p)] [] (nwgR c e)) = vcNwg id b l s m p c e := by kernel_rfl
end Go.Proofs.YtdpbogaldcpfeaaDoor.C
