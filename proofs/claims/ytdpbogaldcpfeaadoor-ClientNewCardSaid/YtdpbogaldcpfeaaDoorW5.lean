import Derived.Test.YtdpbogaldcpfeaaDoorW4
set_option linter.unusedVariables false
set_option linter.unusedSimpArgs false
set_option linter.unusedSectionVars false
/-! A client is like itself: the conditions. -/
namespace Go.Proofs.YtdpbogaldcpfeaaDoor.C
open Go.Ax
set_option maxRecDepth 1000000
noncomputable def sadH (a : Adm) : HintsT Tryd.prog := hh _ noLp (cs1 57 1 4 (iqC true true a.nodes a.nodes) noCs) noOp
def vcSad (a : Adm) : Prop :=
  ((true = true ∧ List.length a.nodes = List.length a.nodes ∧ contLe (List.length a.nodes) (1 : Nat) (cellsOf' encI a.nodes) (cellsOf' encI a.nodes)) ∧ (true = true ∧ List.length a.nodes = List.length a.nodes ∧ contLe (List.length a.nodes) (1 : Nat) (cellsOf' encI a.nodes) (cellsOf' encI a.nodes)) ∧ True) ∧ True ∧ (List.length a.nodes ≤ (9223372036854775806 : Nat) ∧ a.nodes = a.nodes) ∧ (true = true → ((a.kind == a.kind) = true → ((a.topic.data.toList == a.topic.data.toList) = true → ((a.group == a.group) = true → ((a.other == a.other) = true → ((a.key.data.toList == a.key.data.toList) = true → ((a.fr == a.fr) = true → ((a.to == a.to) = true → ((a.plan == a.plan) = true → ((a.step == a.step) = true → ((a.prod == a.prod) = true → (a.seq == a.seq) = true ∧ True) ∧ ((a.prod == a.prod) = false → false = true ∧ True)) ∧ ((a.step == a.step) = false → false = true ∧ True)) ∧ ((a.plan == a.plan) = false → false = true ∧ True)) ∧ ((a.to == a.to) = false → false = true ∧ True)) ∧ ((a.fr == a.fr) = false → false = true ∧ True)) ∧ ((a.key.data.toList == a.key.data.toList) = false → false = true ∧ True)) ∧ ((a.other == a.other) = false → false = true ∧ True)) ∧ ((a.group == a.group) = false → false = true ∧ True)) ∧ ((a.topic.data.toList == a.topic.data.toList) = false → false = true ∧ True)) ∧ ((a.kind == a.kind) = false → false = true ∧ True)) ∧ (true = false → false = true ∧ True)
set_option maxRecDepth 1000000 in
theorem vcSad_eq (a : Adm) : (ctrVC Tryd.prog (sadH a) 57 [.agg (encAd a), .agg (encAd a)] [] (boolR true)) = vcSad a := by kernel_rfl
theorem sad_c (a : Adm) (h : a.nodes.length ≤ 9223372036854775806) : (boolR true).Sat (ACall' Tryd.prog 57 [.agg (encAd a), .agg (encAd a)] []) := by
  refine ctr_vc (ht := sadH a) Tryd.mixed rfl ?_
  rw [vcSad_eq a]
  unfold vcSad
  simp [h]
noncomputable def sadC (a : Adm) : Ctr Tryd.prog := ⟨57, [.agg (encAd a), .agg (encAd a)], [], .need (a.nodes.length ≤ 9223372036854775806) (boolR true), T.Sat.need fun h => sad_c a h⟩
noncomputable def scaH (c : Cal) : HintsT Tryd.prog := hh _ noLp (cs1 34 1 4 (sadC c.adm) noCs) noOp
def vcSca (c : Cal) : Prop :=
  ((c.adm.kind = c.adm.kind ∧ c.adm.prod = c.adm.prod ∧ c.adm.seq = c.adm.seq ∧ c.adm.topic = c.adm.topic ∧ (true = true ∧ List.length c.adm.nodes = List.length c.adm.nodes ∧ contLe (List.length c.adm.nodes) (1 : Nat) (cellsOf' encI c.adm.nodes) (cellsOf' encI c.adm.nodes)) ∧ c.adm.group = c.adm.group ∧ c.adm.other = c.adm.other ∧ c.adm.key = c.adm.key ∧ c.adm.fr = c.adm.fr ∧ c.adm.to = c.adm.to ∧ c.adm.plan = c.adm.plan ∧ c.adm.step = c.adm.step ∧ True) ∧ (c.adm.kind = c.adm.kind ∧ c.adm.prod = c.adm.prod ∧ c.adm.seq = c.adm.seq ∧ c.adm.topic = c.adm.topic ∧ (true = true ∧ List.length c.adm.nodes = List.length c.adm.nodes ∧ contLe (List.length c.adm.nodes) (1 : Nat) (cellsOf' encI c.adm.nodes) (cellsOf' encI c.adm.nodes)) ∧ c.adm.group = c.adm.group ∧ c.adm.other = c.adm.other ∧ c.adm.key = c.adm.key ∧ c.adm.fr = c.adm.fr ∧ c.adm.to = c.adm.to ∧ c.adm.plan = c.adm.plan ∧ c.adm.step = c.adm.step ∧ True) ∧ True) ∧
    True ∧
      List.length c.adm.nodes ≤ (9223372036854775806 : Nat) ∧
        (true = true →
            ((c.kind == c.kind) = true →
                ((c.topic.data.toList == c.topic.data.toList) = true →
                    ((c.key.data.toList == c.key.data.toList) = true →
                        (∀ (k : Nat), k < List.length c.val → true = true) ∧
                          (∀ (k : Nat), k < List.length c.val → true = true) ∧
                            ((List.map
                                      (fun (a : AV) =>
                                        match
                                          match a with
                                          | AV.s (Value.int IntKind.u8 n) => some n
                                          | AV.y (Value.int IntKind.u8 n) => some n
                                          | x => none with
                                        | some n => UInt8.ofNat (Int.toNat n)
                                        | none => (0 : UInt8))
                                      (List.map (fun (k : Nat) => AV.y (Value.int IntKind.u8 (List.getD c.val k (0 : Int)))) (List.range (List.length c.val))) ==
                                    List.map
                                      (fun (a : AV) =>
                                        match
                                          match a with
                                          | AV.s (Value.int IntKind.u8 n) => some n
                                          | AV.y (Value.int IntKind.u8 n) => some n
                                          | x => none with
                                        | some n => UInt8.ofNat (Int.toNat n)
                                        | none => (0 : UInt8))
                                      (List.map (fun (k : Nat) => AV.y (Value.int IntKind.u8 (List.getD c.val k (0 : Int)))) (List.range (List.length c.val)))) =
                                  true →
                                ((c.off == c.off) = true → ((c.most == c.most) = true → (c.name.data.toList == c.name.data.toList) = true ∧ True) ∧ ((c.most == c.most) = false → false = true ∧ True)) ∧ ((c.off == c.off) = false → false = true ∧ True)) ∧
                              ((List.map
                                      (fun (a : AV) =>
                                        match
                                          match a with
                                          | AV.s (Value.int IntKind.u8 n) => some n
                                          | AV.y (Value.int IntKind.u8 n) => some n
                                          | x => none with
                                        | some n => UInt8.ofNat (Int.toNat n)
                                        | none => (0 : UInt8))
                                      (List.map (fun (k : Nat) => AV.y (Value.int IntKind.u8 (List.getD c.val k (0 : Int)))) (List.range (List.length c.val))) ==
                                    List.map
                                      (fun (a : AV) =>
                                        match
                                          match a with
                                          | AV.s (Value.int IntKind.u8 n) => some n
                                          | AV.y (Value.int IntKind.u8 n) => some n
                                          | x => none with
                                        | some n => UInt8.ofNat (Int.toNat n)
                                        | none => (0 : UInt8))
                                      (List.map (fun (k : Nat) => AV.y (Value.int IntKind.u8 (List.getD c.val k (0 : Int)))) (List.range (List.length c.val)))) =
                                  false →
                                false = true ∧ True)) ∧
                      ((c.key.data.toList == c.key.data.toList) = false → false = true ∧ True)) ∧
                  ((c.topic.data.toList == c.topic.data.toList) = false → false = true ∧ True)) ∧
              ((c.kind == c.kind) = false → false = true ∧ True)) ∧
          (true = false → false = true ∧ True)
set_option maxRecDepth 1000000 in
theorem vcSca_eq (c : Cal) : (ctrVC Tryd.prog (scaH c) 34 [.agg (encCl c), .agg (encCl c)] [] (boolR true)) = vcSca c := by kernel_rfl
theorem sca_c (c : Cal) (h : c.adm.nodes.length ≤ 9223372036854775806) : (boolR true).Sat (ACall' Tryd.prog 34 [.agg (encCl c), .agg (encCl c)] []) := by
  refine ctr_vc (ht := scaH c) Tryd.mixed rfl ?_
  rw [vcSca_eq c]
  unfold vcSca
  have hb : ∀ q : Nat, isU8 (cellsOf' encB c.val q 0) = true := fun _ => rfl
  simp [h, hb]
noncomputable def scaC (c : Cal) : Ctr Tryd.prog := ⟨34, [.agg (encCl c), .agg (encCl c)], [], .need (c.adm.nodes.length ≤ 9223372036854775806) (boolR true), T.Sat.need fun h => sca_c c h⟩
noncomputable def sc1H (c : Cal) : HintsT Tryd.prog := hh _ noLp (cs1 22 1 2 (scaC c) noCs) noOp
def vcSc1 (c : Cal) : Prop :=
  ((c.kind = c.kind ∧ c.topic = c.topic ∧ c.key = c.key ∧ (true = true ∧ List.length c.val = List.length c.val ∧ contLe (List.length c.val) (1 : Nat) (cellsOf' encB c.val) (cellsOf' encB c.val)) ∧ c.off = c.off ∧ c.most = c.most ∧ c.name = c.name ∧ c.adm.kind = c.adm.kind ∧ c.adm.prod = c.adm.prod ∧ c.adm.seq = c.adm.seq ∧ c.adm.topic = c.adm.topic ∧ (true = true ∧ List.length c.adm.nodes = List.length c.adm.nodes ∧ contLe (List.length c.adm.nodes) (1 : Nat) (cellsOf' encI c.adm.nodes) (cellsOf' encI c.adm.nodes)) ∧ c.adm.group = c.adm.group ∧ c.adm.other = c.adm.other ∧ c.adm.key = c.adm.key ∧ c.adm.fr = c.adm.fr ∧ c.adm.to = c.adm.to ∧ c.adm.plan = c.adm.plan ∧ c.adm.step = c.adm.step ∧ True) ∧ (c.kind = c.kind ∧ c.topic = c.topic ∧ c.key = c.key ∧ (true = true ∧ List.length c.val = List.length c.val ∧ contLe (List.length c.val) (1 : Nat) (cellsOf' encB c.val) (cellsOf' encB c.val)) ∧ c.off = c.off ∧ c.most = c.most ∧ c.name = c.name ∧ c.adm.kind = c.adm.kind ∧ c.adm.prod = c.adm.prod ∧ c.adm.seq = c.adm.seq ∧ c.adm.topic = c.adm.topic ∧ (true = true ∧ List.length c.adm.nodes = List.length c.adm.nodes ∧ contLe (List.length c.adm.nodes) (1 : Nat) (cellsOf' encI c.adm.nodes) (cellsOf' encI c.adm.nodes)) ∧ c.adm.group = c.adm.group ∧ c.adm.other = c.adm.other ∧ c.adm.key = c.adm.key ∧ c.adm.fr = c.adm.fr ∧ c.adm.to = c.adm.to ∧ c.adm.plan = c.adm.plan ∧ c.adm.step = c.adm.step ∧ True) ∧ True) ∧ True ∧ List.length c.adm.nodes ≤ (9223372036854775806 : Nat) ∧ true = true ∧ True
set_option maxRecDepth 1000000 in
theorem vcSc1_eq (c : Cal) : (ctrVC Tryd.prog (sc1H c) 22 [.agg (encCl c), .agg (encCl c)] [] (boolR true)) = vcSc1 c := by kernel_rfl
theorem sc1_c (c : Cal) (h : c.adm.nodes.length ≤ 9223372036854775806) : (boolR true).Sat (ACall' Tryd.prog 22 [.agg (encCl c), .agg (encCl c)] []) := by
  refine ctr_vc (ht := sc1H c) Tryd.mixed rfl ?_
  rw [vcSc1_eq c]
  unfold vcSc1
  simp [h]
noncomputable def sc1C (c : Cal) : Ctr Tryd.prog := ⟨22, [.agg (encCl c), .agg (encCl c)], [], .need (c.adm.nodes.length ≤ 9223372036854775806) (boolR true), T.Sat.need fun h => sc1_c c h⟩
/-! the client -/
def smT (k : Nat) : List AV := mkT 174 [(2, .ptr 0 0 0 0), (3, .ptr 1 0 0 0), (7, .y (.int .i64 k))]
def smM (b1 b2 : Bool) (c : Clt) : List Blk := [.box 35 (encC0 b1 c), .box 35 (encC0 b2 c)]
def smS (b1 b2 : Bool) (c : Clt) (_ : Unit) : Exit × List AV × List Blk := (.exit 0, mkT 174 [(2, .ptr 0 0 0 0), (3, .ptr 1 0 0 0)], smM b1 b2 c)
noncomputable def smLH (t : Tpc) : HintsT Tryd.prog := hh _ noLp (cs1 11 8 12 (ss2C true true t.shards t.shards) noCs) noOp
def vcSmL_q1 (b1 : Bool) (b2 : Bool) (c : Clt) : Prop := ((c.id = c.id ∧ (true = true ∧ List.length c.servers = List.length c.servers ∧ contLe (List.length c.servers) (1 : Nat) (cellsOf' encI c.servers) (cellsOf' encI c.servers)) ∧ c.prod = c.prod ∧ c.seq = c.seq ∧ (b1 = b1 ∧ List.length c.topics = List.length c.topics ∧ contLe (List.length c.topics) (2 : Nat) (cellsOf' encTp c.topics) (cellsOf' encTp c.topics)) ∧ (b1 = b1 ∧ List.length c.leaders = List.length c.leaders ∧ contLe (List.length c.leaders) (2 : Nat) (cellsOf' encSi c.leaders) (cellsOf' encSi c.leaders)) ∧ c.busy = c.busy ∧ c.call.kind = c.call.kind ∧ c.call.topic = c.call.topic ∧ c.call.key = c.call.key ∧ (true = true ∧ List.length c.call.val = List.length c.call.val ∧ contLe (List.length c.call.val) (1 : Nat) (cellsOf' encB c.call.val) (cellsOf' encB c.call.val)) ∧ c.call.off = c.call.off ∧ c.call.most = c.call.most ∧ c.call.name = c.call.name ∧ c.call.adm.kind = c.call.adm.kind ∧ c.call.adm.prod = c.call.adm.prod ∧ c.call.adm.seq = c.call.adm.seq ∧ c.call.adm.topic = c.call.adm.topic ∧ (true = true ∧ List.length c.call.adm.nodes = List.length c.call.adm.nodes ∧ contLe (List.length c.call.adm.nodes) (1 : Nat) (cellsOf' encI c.call.adm.nodes) (cellsOf' encI c.call.adm.nodes)) ∧ c.call.adm.group = c.call.adm.group ∧ c.call.adm.other = c.call.adm.other ∧ c.call.adm.key = c.call.adm.key ∧ c.call.adm.fr = c.call.adm.fr ∧ c.call.adm.to = c.call.adm.to ∧ c.call.adm.plan = c.call.adm.plan ∧ c.call.adm.step = c.call.adm.step ∧ c.number = c.number ∧ c.route = c.route ∧ c.group = c.group ∧ c.tries = c.tries ∧ c.waited = c.waited ∧ c.again = c.again ∧ c.at' = c.at' ∧ True) ∧ (c.id = c.id ∧ (true = true ∧ List.length c.servers = List.length c.servers ∧ contLe (List.length c.servers) (1 : Nat) (cellsOf' encI c.servers) (cellsOf' encI c.servers)) ∧ c.prod = c.prod ∧ c.seq = c.seq ∧ (b2 = b2 ∧ List.length c.topics = List.length c.topics ∧ contLe (List.length c.topics) (2 : Nat) (cellsOf' encTp c.topics) (cellsOf' encTp c.topics)) ∧ (b2 = b2 ∧ List.length c.leaders = List.length c.leaders ∧ contLe (List.length c.leaders) (2 : Nat) (cellsOf' encSi c.leaders) (cellsOf' encSi c.leaders)) ∧ c.busy = c.busy ∧ c.call.kind = c.call.kind ∧ c.call.topic = c.call.topic ∧ c.call.key = c.call.key ∧ (true = true ∧ List.length c.call.val = List.length c.call.val ∧ contLe (List.length c.call.val) (1 : Nat) (cellsOf' encB c.call.val) (cellsOf' encB c.call.val)) ∧ c.call.off = c.call.off ∧ c.call.most = c.call.most ∧ c.call.name = c.call.name ∧ c.call.adm.kind = c.call.adm.kind ∧ c.call.adm.prod = c.call.adm.prod ∧ c.call.adm.seq = c.call.adm.seq ∧ c.call.adm.topic = c.call.adm.topic ∧ (true = true ∧ List.length c.call.adm.nodes = List.length c.call.adm.nodes ∧ contLe (List.length c.call.adm.nodes) (1 : Nat) (cellsOf' encI c.call.adm.nodes) (cellsOf' encI c.call.adm.nodes)) ∧ c.call.adm.group = c.call.adm.group ∧ c.call.adm.other = c.call.adm.other ∧ c.call.adm.key = c.call.adm.key ∧ c.call.adm.fr = c.call.adm.fr ∧ c.call.adm.to = c.call.adm.to ∧ c.call.adm.plan = c.call.adm.plan ∧ c.call.adm.step = c.call.adm.step ∧ c.number = c.number ∧ c.route = c.route ∧ c.group = c.group ∧ c.tries = c.tries ∧ c.waited = c.waited ∧ c.again = c.again ∧ c.at' = c.at' ∧ True) ∧ True)
def vcSmL_q2 (c : Clt) (k : Nat) : Prop := (true = true ∧ List.length (List.getD c.topics (Int.toNat (↑k : Int)) (@default Tpc instInhabitedTpc)).shards = List.length (List.getD c.topics k (@default Tpc instInhabitedTpc)).shards ∧ contLe (List.length (List.getD c.topics (Int.toNat (↑k : Int)) (@default Tpc instInhabitedTpc)).shards) (7 : Nat) (cellsOf' encSh (List.getD c.topics (Int.toNat (↑k : Int)) (@default Tpc instInhabitedTpc)).shards) (cellsOf' encSh (List.getD c.topics k (@default Tpc instInhabitedTpc)).shards))
def vcSmL (b1 : Bool) (b2 : Bool) (c : Clt) (k : Nat) : Prop :=
  (decide ((↑k : Int) < (↑(List.length c.topics) : Int)) = true → (true && decide ((↑k : Int) < (↑(List.length c.topics) : Int))) = true ∧ (true && decide ((↑k : Int) < (↑(List.length c.topics) : Int))) = true ∧ ((vcSmL_q2 c k) ∧ (vcSmL_q2 c k) ∧ True) ∧ True ∧ ShsIn (List.getD c.topics k (@default Tpc instInhabitedTpc)).shards (List.getD c.topics k (@default Tpc instInhabitedTpc)).shards ∧ (false = true → False) ∧ (false = false → (true && decide ((↑k : Int) < (↑(List.length c.topics) : Int))) = true ∧ (true && decide ((↑k : Int) < (↑(List.length c.topics) : Int))) = true ∧ ((!(List.getD c.topics (Int.toNat (↑k : Int)) (@default Tpc instInhabitedTpc)).name.data.toList == (List.getD c.topics (Int.toNat (↑k : Int)) (@default Tpc instInhabitedTpc)).name.data.toList) = true → False) ∧ ((!(List.getD c.topics (Int.toNat (↑k : Int)) (@default Tpc instInhabitedTpc)).name.data.toList == (List.getD c.topics (Int.toNat (↑k : Int)) (@default Tpc instInhabitedTpc)).name.data.toList) = false → ∃ (j : Nat), List.length c.topics - j < List.length c.topics - k ∧ ((((0 : Nat) = (0 : Nat) ∧ (0 : Nat) = (0 : Nat)) ∧ ((0 : Nat) = (0 : Nat) ∧ (0 : Nat) = (0 : Nat)) ∧ IntKind.wrap IntKind.i64 ((↑k : Int) + (1 : Int)) = (↑j : Int) ∧ True) ∧ (vcSmL_q1 b1 b2 c) ∧ true = true) ∧ true = true ∧ () = ()))) ∧ (decide ((↑k : Int) < (↑(List.length c.topics) : Int)) = false → (((0 : Nat) = (0 : Nat) ∧ (0 : Nat) = (0 : Nat)) ∧ ((0 : Nat) = (0 : Nat) ∧ (0 : Nat) = (0 : Nat)) ∧ True) ∧ (vcSmL_q1 b1 b2 c) ∧ true = true)
set_option maxRecDepth 1000000 in
theorem vcSmL_eq (b1 : Bool) (b2 : Bool) (c : Clt) (k : Nat) : (loopVC Tryd.prog (smLH (c.topics.getD k default)) 11 6 (fun k => c.topics.length - k) smT (fun _ => smM b1 b2 c) [] (fun _ => .ret ()) (smS b1 b2 c) k) = vcSmL b1 b2 c k := by kernel_rfl
def smT2 (k : Nat) : List AV := mkT 174 [(2, .ptr 0 0 0 0), (3, .ptr 1 0 0 0), (9, .y (.int .i64 k))]
def smS2 (b1 b2 : Bool) (c : Clt) (_ : Unit) : Exit × List AV × List Blk := (.exit 2, mkT 174 [(2, .ptr 0 0 0 0), (3, .ptr 1 0 0 0)], smM b1 b2 c)
def vcSmL2_q1 (b1 : Bool) (b2 : Bool) (c : Clt) : Prop := ((c.id = c.id ∧ (true = true ∧ List.length c.servers = List.length c.servers ∧ contLe (List.length c.servers) (1 : Nat) (cellsOf' encI c.servers) (cellsOf' encI c.servers)) ∧ c.prod = c.prod ∧ c.seq = c.seq ∧ (b1 = b1 ∧ List.length c.topics = List.length c.topics ∧ contLe (List.length c.topics) (2 : Nat) (cellsOf' encTp c.topics) (cellsOf' encTp c.topics)) ∧ (b1 = b1 ∧ List.length c.leaders = List.length c.leaders ∧ contLe (List.length c.leaders) (2 : Nat) (cellsOf' encSi c.leaders) (cellsOf' encSi c.leaders)) ∧ c.busy = c.busy ∧ c.call.kind = c.call.kind ∧ c.call.topic = c.call.topic ∧ c.call.key = c.call.key ∧ (true = true ∧ List.length c.call.val = List.length c.call.val ∧ contLe (List.length c.call.val) (1 : Nat) (cellsOf' encB c.call.val) (cellsOf' encB c.call.val)) ∧ c.call.off = c.call.off ∧ c.call.most = c.call.most ∧ c.call.name = c.call.name ∧ c.call.adm.kind = c.call.adm.kind ∧ c.call.adm.prod = c.call.adm.prod ∧ c.call.adm.seq = c.call.adm.seq ∧ c.call.adm.topic = c.call.adm.topic ∧ (true = true ∧ List.length c.call.adm.nodes = List.length c.call.adm.nodes ∧ contLe (List.length c.call.adm.nodes) (1 : Nat) (cellsOf' encI c.call.adm.nodes) (cellsOf' encI c.call.adm.nodes)) ∧ c.call.adm.group = c.call.adm.group ∧ c.call.adm.other = c.call.adm.other ∧ c.call.adm.key = c.call.adm.key ∧ c.call.adm.fr = c.call.adm.fr ∧ c.call.adm.to = c.call.adm.to ∧ c.call.adm.plan = c.call.adm.plan ∧ c.call.adm.step = c.call.adm.step ∧ c.number = c.number ∧ c.route = c.route ∧ c.group = c.group ∧ c.tries = c.tries ∧ c.waited = c.waited ∧ c.again = c.again ∧ c.at' = c.at' ∧ True) ∧ (c.id = c.id ∧ (true = true ∧ List.length c.servers = List.length c.servers ∧ contLe (List.length c.servers) (1 : Nat) (cellsOf' encI c.servers) (cellsOf' encI c.servers)) ∧ c.prod = c.prod ∧ c.seq = c.seq ∧ (b2 = b2 ∧ List.length c.topics = List.length c.topics ∧ contLe (List.length c.topics) (2 : Nat) (cellsOf' encTp c.topics) (cellsOf' encTp c.topics)) ∧ (b2 = b2 ∧ List.length c.leaders = List.length c.leaders ∧ contLe (List.length c.leaders) (2 : Nat) (cellsOf' encSi c.leaders) (cellsOf' encSi c.leaders)) ∧ c.busy = c.busy ∧ c.call.kind = c.call.kind ∧ c.call.topic = c.call.topic ∧ c.call.key = c.call.key ∧ (true = true ∧ List.length c.call.val = List.length c.call.val ∧ contLe (List.length c.call.val) (1 : Nat) (cellsOf' encB c.call.val) (cellsOf' encB c.call.val)) ∧ c.call.off = c.call.off ∧ c.call.most = c.call.most ∧ c.call.name = c.call.name ∧ c.call.adm.kind = c.call.adm.kind ∧ c.call.adm.prod = c.call.adm.prod ∧ c.call.adm.seq = c.call.adm.seq ∧ c.call.adm.topic = c.call.adm.topic ∧ (true = true ∧ List.length c.call.adm.nodes = List.length c.call.adm.nodes ∧ contLe (List.length c.call.adm.nodes) (1 : Nat) (cellsOf' encI c.call.adm.nodes) (cellsOf' encI c.call.adm.nodes)) ∧ c.call.adm.group = c.call.adm.group ∧ c.call.adm.other = c.call.adm.other ∧ c.call.adm.key = c.call.adm.key ∧ c.call.adm.fr = c.call.adm.fr ∧ c.call.adm.to = c.call.adm.to ∧ c.call.adm.plan = c.call.adm.plan ∧ c.call.adm.step = c.call.adm.step ∧ c.number = c.number ∧ c.route = c.route ∧ c.group = c.group ∧ c.tries = c.tries ∧ c.waited = c.waited ∧ c.again = c.again ∧ c.at' = c.at' ∧ True) ∧ True)
def vcSmL2 (b1 : Bool) (b2 : Bool) (c : Clt) (k : Nat) : Prop :=
  (decide ((↑k : Int) < (↑(List.length c.leaders) : Int)) = true → (true && decide ((↑k : Int) < (↑(List.length c.leaders) : Int))) = true ∧ (true && decide ((↑k : Int) < (↑(List.length c.leaders) : Int))) = true ∧ ((!((List.getD c.leaders (Int.toNat (↑k : Int)) (@default Sit instInhabitedSit)).group == (List.getD c.leaders (Int.toNat (↑k : Int)) (@default Sit instInhabitedSit)).group && ((List.getD c.leaders (Int.toNat (↑k : Int)) (@default Sit instInhabitedSit)).node == (List.getD c.leaders (Int.toNat (↑k : Int)) (@default Sit instInhabitedSit)).node && true))) = true → False) ∧ ((!((List.getD c.leaders (Int.toNat (↑k : Int)) (@default Sit instInhabitedSit)).group == (List.getD c.leaders (Int.toNat (↑k : Int)) (@default Sit instInhabitedSit)).group && ((List.getD c.leaders (Int.toNat (↑k : Int)) (@default Sit instInhabitedSit)).node == (List.getD c.leaders (Int.toNat (↑k : Int)) (@default Sit instInhabitedSit)).node && true))) = false → ∃ (j : Nat), List.length c.leaders - j < List.length c.leaders - k ∧ ((((0 : Nat) = (0 : Nat) ∧ (0 : Nat) = (0 : Nat)) ∧ ((0 : Nat) = (0 : Nat) ∧ (0 : Nat) = (0 : Nat)) ∧ IntKind.wrap IntKind.i64 ((↑k : Int) + (1 : Int)) = (↑j : Int) ∧ True) ∧ (vcSmL2_q1 b1 b2 c) ∧ true = true) ∧ true = true ∧ () = ())) ∧ (decide ((↑k : Int) < (↑(List.length c.leaders) : Int)) = false → (((0 : Nat) = (0 : Nat) ∧ (0 : Nat) = (0 : Nat)) ∧ ((0 : Nat) = (0 : Nat) ∧ (0 : Nat) = (0 : Nat)) ∧ True) ∧ (vcSmL2_q1 b1 b2 c) ∧ true = true)
set_option maxRecDepth 1000000 in
theorem vcSmL2_eq (b1 : Bool) (b2 : Bool) (c : Clt) (k : Nat) : (loopVC Tryd.prog (hT _) 11 12 (fun k => c.leaders.length - k) smT2 (fun _ => smM b1 b2 c) [] (fun _ => .ret ()) (smS2 b1 b2 c) k) = vcSmL2 b1 b2 c k := by kernel_rfl
noncomputable def smH (b1 b2 : Bool) (c : Clt) : HintsT Tryd.prog := hh _ (lp1 11 6 (jobOf smT (fun _ => smM b1 b2 c) [] (fun _ => .ret ()) (smS b1 b2 c) 0) (lp1 11 12 (jobOf smT2 (fun _ => smM b1 b2 c) [] (fun _ => .ret ()) (smS2 b1 b2 c) 0) noLp)) (cs1 11 1 4 (sc1C c.call) (cs1 11 2 4 (iqC true true c.servers c.servers) noCs)) noOp
def vcSm_q3 (c : Clt) : Prop := (true = true ∧ List.length c.servers = List.length c.servers ∧ contLe (List.length c.servers) (1 : Nat) (cellsOf' encI c.servers) (cellsOf' encI c.servers))
def vcSm_q4 (c : Clt) : Prop := (true = true ∧ List.length c.call.adm.nodes = List.length c.call.adm.nodes ∧ contLe (List.length c.call.adm.nodes) (1 : Nat) (cellsOf' encI c.call.adm.nodes) (cellsOf' encI c.call.adm.nodes))
def vcSm_q1 (b1 : Bool) (b2 : Bool) (c : Clt) : Prop := ((((0 : Nat) = (0 : Nat) ∧ (0 : Nat) = (0 : Nat)) ∧ ((0 : Nat) = (0 : Nat) ∧ (0 : Nat) = (0 : Nat)) ∧ (0 : Int) = (0 : Int) ∧ True) ∧ ((c.id = c.id ∧ (vcSm_q3 c) ∧ c.prod = c.prod ∧ c.seq = c.seq ∧ (b1 = b1 ∧ List.length c.topics = List.length c.topics ∧ contLe (List.length c.topics) (2 : Nat) (cellsOf' encTp c.topics) (cellsOf' encTp c.topics)) ∧ (b1 = b1 ∧ List.length c.leaders = List.length c.leaders ∧ contLe (List.length c.leaders) (2 : Nat) (cellsOf' encSi c.leaders) (cellsOf' encSi c.leaders)) ∧ c.busy = c.busy ∧ c.call.kind = c.call.kind ∧ c.call.topic = c.call.topic ∧ c.call.key = c.call.key ∧ (true = true ∧ List.length c.call.val = List.length c.call.val ∧ contLe (List.length c.call.val) (1 : Nat) (cellsOf' encB c.call.val) (cellsOf' encB c.call.val)) ∧ c.call.off = c.call.off ∧ c.call.most = c.call.most ∧ c.call.name = c.call.name ∧ c.call.adm.kind = c.call.adm.kind ∧ c.call.adm.prod = c.call.adm.prod ∧ c.call.adm.seq = c.call.adm.seq ∧ c.call.adm.topic = c.call.adm.topic ∧ (vcSm_q4 c) ∧ c.call.adm.group = c.call.adm.group ∧ c.call.adm.other = c.call.adm.other ∧ c.call.adm.key = c.call.adm.key ∧ c.call.adm.fr = c.call.adm.fr ∧ c.call.adm.to = c.call.adm.to ∧ c.call.adm.plan = c.call.adm.plan ∧ c.call.adm.step = c.call.adm.step ∧ c.number = c.number ∧ c.route = c.route ∧ c.group = c.group ∧ c.tries = c.tries ∧ c.waited = c.waited ∧ c.again = c.again ∧ c.at' = c.at' ∧ True) ∧ (c.id = c.id ∧ (vcSm_q3 c) ∧ c.prod = c.prod ∧ c.seq = c.seq ∧ (b2 = b2 ∧ List.length c.topics = List.length c.topics ∧ contLe (List.length c.topics) (2 : Nat) (cellsOf' encTp c.topics) (cellsOf' encTp c.topics)) ∧ (b2 = b2 ∧ List.length c.leaders = List.length c.leaders ∧ contLe (List.length c.leaders) (2 : Nat) (cellsOf' encSi c.leaders) (cellsOf' encSi c.leaders)) ∧ c.busy = c.busy ∧ c.call.kind = c.call.kind ∧ c.call.topic = c.call.topic ∧ c.call.key = c.call.key ∧ (true = true ∧ List.length c.call.val = List.length c.call.val ∧ contLe (List.length c.call.val) (1 : Nat) (cellsOf' encB c.call.val) (cellsOf' encB c.call.val)) ∧ c.call.off = c.call.off ∧ c.call.most = c.call.most ∧ c.call.name = c.call.name ∧ c.call.adm.kind = c.call.adm.kind ∧ c.call.adm.prod = c.call.adm.prod ∧ c.call.adm.seq = c.call.adm.seq ∧ c.call.adm.topic = c.call.adm.topic ∧ (vcSm_q4 c) ∧ c.call.adm.group = c.call.adm.group ∧ c.call.adm.other = c.call.adm.other ∧ c.call.adm.key = c.call.adm.key ∧ c.call.adm.fr = c.call.adm.fr ∧ c.call.adm.to = c.call.adm.to ∧ c.call.adm.plan = c.call.adm.plan ∧ c.call.adm.step = c.call.adm.step ∧ c.number = c.number ∧ c.route = c.route ∧ c.group = c.group ∧ c.tries = c.tries ∧ c.waited = c.waited ∧ c.again = c.again ∧ c.at' = c.at' ∧ True) ∧ True) ∧ true = true)
def vcSm_q2 (c : Clt) : Prop := (c.call.kind = c.call.kind ∧ c.call.topic = c.call.topic ∧ c.call.key = c.call.key ∧ (true = true ∧ List.length c.call.val = List.length c.call.val ∧ contLe (List.length c.call.val) (1 : Nat) (cellsOf' encB c.call.val) (cellsOf' encB c.call.val)) ∧ c.call.off = c.call.off ∧ c.call.most = c.call.most ∧ c.call.name = c.call.name ∧ c.call.adm.kind = c.call.adm.kind ∧ c.call.adm.prod = c.call.adm.prod ∧ c.call.adm.seq = c.call.adm.seq ∧ c.call.adm.topic = c.call.adm.topic ∧ (vcSm_q4 c) ∧ c.call.adm.group = c.call.adm.group ∧ c.call.adm.other = c.call.adm.other ∧ c.call.adm.key = c.call.adm.key ∧ c.call.adm.fr = c.call.adm.fr ∧ c.call.adm.to = c.call.adm.to ∧ c.call.adm.plan = c.call.adm.plan ∧ c.call.adm.step = c.call.adm.step ∧ True)
def vcSm (b1 : Bool) (b2 : Bool) (c : Clt) : Prop :=
  ((vcSm_q2 c) ∧ (vcSm_q2 c) ∧ True) ∧ True ∧ List.length c.call.adm.nodes ≤ (9223372036854775806 : Nat) ∧ ((vcSm_q3 c) ∧ (vcSm_q3 c) ∧ True) ∧ True ∧ (List.length c.servers ≤ (9223372036854775806 : Nat) ∧ c.servers = c.servers) ∧ (false = true → false = true ∧ True) ∧ (false = false → (false = true → false = true ∧ True) ∧ (false = false → (((↑(List.length c.topics) : Int) != (↑(List.length c.topics) : Int)) = true → false = true ∧ True) ∧ (((↑(List.length c.topics) : Int) != (↑(List.length c.topics) : Int)) = false → (((↑(List.length c.leaders) : Int) != (↑(List.length c.leaders) : Int)) = true → false = true ∧ True) ∧ (((↑(List.length c.leaders) : Int) != (↑(List.length c.leaders) : Int)) = false → (vcSm_q1 b1 b2 c) ∧ LoopOk Tryd.prog (11 : Nat) (6 : Nat) (loopAt Tryd.prog (11 : Nat) (6 : Nat)) { t := smT (0 : Nat), m := smM b1 b2 c, mv := [] : St } (T.map (lout [] (smS b1 b2 c)) ((fun (x : Nat) => T.ret ()) (0 : Nat))) ∧ (vcSm_q1 b1 b2 c) ∧ LoopOk Tryd.prog (11 : Nat) (12 : Nat) (loopAt Tryd.prog (11 : Nat) (12 : Nat)) { t := smT2 (0 : Nat), m := smM b1 b2 c, mv := [] : St } (T.map (lout [] (smS2 b1 b2 c)) ((fun (x : Nat) => T.ret ()) (0 : Nat))) ∧ ((c.id == c.id) = true → ((c.prod == c.prod) = true → ((c.seq == c.seq) = true → ((c.busy == c.busy) = true → ((c.number == c.number) = true → ((c.route == c.route) = true → ((c.group == c.group) = true → ((c.tries == c.tries) = true → ((c.waited == c.waited) = true → ((c.again == c.again) = true → (c.at' == c.at') = true ∧ True) ∧ ((c.again == c.again) = false → false = true ∧ True)) ∧ ((c.waited == c.waited) = false → false = true ∧ True)) ∧ ((c.tries == c.tries) = false → false = true ∧ True)) ∧ ((c.group == c.group) = false → false = true ∧ True)) ∧ ((c.route == c.route) = false → false = true ∧ True)) ∧ ((c.number == c.number) = false → false = true ∧ True)) ∧ ((c.busy == c.busy) = false → false = true ∧ True)) ∧ ((c.seq == c.seq) = false → false = true ∧ True)) ∧ ((c.prod == c.prod) = false → false = true ∧ True)) ∧ ((c.id == c.id) = false → false = true ∧ True)))))
set_option maxRecDepth 1000000 in
theorem vcSm_eq (b1 : Bool) (b2 : Bool) (c : Clt) : (ctrVC Tryd.prog (smH b1 b2 c) 11 [.agg (encC0 b1 c), .agg (encC0 b2 c)] [] (boolR true)) = vcSm b1 b2 c := by kernel_rfl
structure CltIn (c : Clt) : Prop where
  a : c.call.adm.nodes.length ≤ 9223372036854775806
  s : c.servers.length ≤ 9223372036854775806
  t : c.topics.length ≤ 9223372036854775806
  l : c.leaders.length ≤ 9223372036854775806
  h : ∀ x ∈ c.topics, ShsIn x.shards x.shards
theorem sm_loop (b1 b2 : Bool) (c : Clt) (h : CltIn c) (k : Nat) : LoopOk Tryd.prog 11 6 (loopAt Tryd.prog 11 6) ⟨smT k, smM b1 b2 c, []⟩ (T.map (lout [] (smS b1 b2 c)) (.ret ())) := by
  refine loop_vcH (P := Tryd.prog) (f := 11) (k := 6) (ι := Nat) (μ := fun k => c.topics.length - k) (ht := fun k => smLH (c.topics.getD k default)) (stT := smT) (stM := fun _ => smM b1 b2 c) (X := []) (o := fun _ => .ret ()) (S := smS b1 b2 c) Tryd.mixed (fun _ => rfl) (fun k => ?_) k
  rw [vcSmL_eq b1 b2 c k]
  unfold vcSmL vcSmL_q2 vcSmL_q1
  have hl := h.t
  by_cases hk : k < c.topics.length
  · have hz : decide ((k : Int) < c.topics.length) = true := by simp; omega
    have hw : IntKind.i64.wrap ((k : Int) + 1) = ((k + 1 : Nat) : Int) := by rw [wrap_i64 (by omega) (by omega)]; omega
    have h1 := h.h (c.topics.getD k default) (by simp [hk])
    rw [Int.toNat_natCast]
    simp only [hz, hw]
    generalize c.topics.getD k default = t at *
    simp [h1, hk]
    exact ⟨k + 1, by omega, by omega⟩
  · have hz : decide ((k : Int) < c.topics.length) = false := by simp; omega
    simp only [hz]
    simp
theorem sm_loop2 (b1 b2 : Bool) (c : Clt) (h : CltIn c) (k : Nat) : LoopOk Tryd.prog 11 12 (loopAt Tryd.prog 11 12) ⟨smT2 k, smM b1 b2 c, []⟩ (T.map (lout [] (smS2 b1 b2 c)) (.ret ())) := by
  refine loop_vcH (P := Tryd.prog) (f := 11) (k := 12) (ι := Nat) (μ := fun k => c.leaders.length - k) (ht := fun _ => hT _) (stT := smT2) (stM := fun _ => smM b1 b2 c) (X := []) (o := fun _ => .ret ()) (S := smS2 b1 b2 c) Tryd.mixed (fun _ => rfl) (fun k => ?_) k
  rw [vcSmL2_eq b1 b2 c k]
  unfold vcSmL2 vcSmL2_q1
  have hl := h.l
  by_cases hk : k < c.leaders.length
  · have hz : decide ((k : Int) < c.leaders.length) = true := by simp; omega
    have hw : IntKind.i64.wrap ((k : Int) + 1) = ((k + 1 : Nat) : Int) := by rw [wrap_i64 (by omega) (by omega)]; omega
    rw [Int.toNat_natCast]
    simp only [hz, hw]
    generalize c.leaders.getD k default = t at *
    simp [hk]
    exact ⟨k + 1, by omega, by omega⟩
  · have hz : decide ((k : Int) < c.leaders.length) = false := by simp; omega
    simp only [hz]
    simp
theorem sm_c (b1 b2 : Bool) (c : Clt) (h : CltIn c) : (boolR true).Sat (ACall' Tryd.prog 11 [.agg (encC0 b1 c), .agg (encC0 b2 c)] []) := by
  refine ctr_vc (ht := smH b1 b2 c) Tryd.mixed rfl ?_
  rw [vcSm_eq b1 b2 c]
  unfold vcSm vcSm_q2 vcSm_q1 vcSm_q4 vcSm_q3
  have l1 := sm_loop b1 b2 c h 0
  have l2 := sm_loop2 b1 b2 c h 0
  simp [h.a, h.s, l1, l2]
structure SmeQ (a c : Clt) : Prop where
  i : CltIn c
  e : a = c
noncomputable def smC (b1 b2 : Bool) (a c : Clt) : Ctr Tryd.prog := ⟨11, [.agg (encC0 b1 a), .agg (encC0 b2 c)], [], .need (SmeQ a c) (boolR true), T.Sat.need fun h => by obtain ⟨h1, rfl⟩ := h; exact sm_c b1 b2 a h1⟩
end Go.Proofs.YtdpbogaldcpfeaaDoor.C

/-! The document's New: the conditions. -/
namespace Go.Proofs.YtdpbogaldcpfeaaDoor.C
open Go.Ax
set_option maxRecDepth 1000000
def dupK (l : List Int) (i k : Nat) : Bool := ((l.take i).drop k).any fun y => y == l.getD i 0
def out1 (id : Int) (x : Int) : Bool := decide (x < 1) || (decide (7 < x) || x == id)
def bad1 (id : Int) (l : List Int) (i : Nat) : Bool := out1 id (l.getD i 0) || dupK l i 0
def badF (id : Int) (l : List Int) : Nat → Nat → Bool
  | 0, _ => false
  | f + 1, i => bad1 id l i || badF id l f (i + 1)
def rnM : List Blk := [.box 35 (encC0 true default)]
def rnA (id p : Int) (l : List Int) : List (Nat × AV) := [(0, .y (.int .i64 id)), (1, encIs true l), (2, .y (.int .u64 p)), (6, .ptr 0 0 0 0)]
def rnI (id p : Int) (l : List Int) (i k : Nat) : List AV := mkT 74 (rnA id p l ++ [(8, .y (.int .i64 i)), (9, .y (.int .i64 k))])
def rnIS (id p : Int) (l : List Int) (i : Nat) (r : Bool) : Exit × List AV × List Blk := match r with
  | true => (.ret, mkT 74 [(6, .ptr 0 0 0 0), (7, .y (.int .i64 1))], rnM)
  | false => (.exit 2, mkT 74 (rnA id p l ++ [(8, .y (.int .i64 i))]), rnM)
def rnIO (l : List Int) (i k : Nat) : T Bool := .ite (dupK l i k) (.ret true) (.ret false)
def vcRnI (id : Int) (p : Int) (l : List Int) (i : Nat) (k : Nat) : Prop :=
  (decide ((↑k : Int) < (↑i : Int)) = true → (true && decide ((↑k : Int) < (↑(List.length l) : Int))) = true ∧ (true && decide ((↑i : Int) < (↑(List.length l) : Int))) = true ∧ ((List.getD l (Int.toNat (↑k : Int)) (0 : Int) == List.getD l (Int.toNat (↑i : Int)) (0 : Int)) = true → (dupK l i k = true → (((0 : Nat) = (0 : Nat) ∧ (0 : Nat) = (0 : Nat)) ∧ (1 : Int) = (1 : Int) ∧ True) ∧ (((0 : Int) = (0 : Int) ∧ (0 : Nat) = (0 : Nat) ∧ (0 : Int) = (0 : Int) ∧ (0 : Int) = (0 : Int) ∧ (0 : Nat) = (0 : Nat) ∧ (0 : Nat) = (0 : Nat) ∧ false = false ∧ (0 : Int) = (0 : Int) ∧ { data := #[] : ByteArray } = ByteArray.empty ∧ { data := #[] : ByteArray } = ByteArray.empty ∧ (0 : Nat) = (0 : Nat) ∧ (0 : Int) = (0 : Int) ∧ (0 : Int) = (0 : Int) ∧ { data := #[] : ByteArray } = ByteArray.empty ∧ (0 : Int) = (0 : Int) ∧ (0 : Int) = (0 : Int) ∧ (0 : Int) = (0 : Int) ∧ { data := #[] : ByteArray } = ByteArray.empty ∧ (0 : Nat) = (0 : Nat) ∧ (0 : Int) = (0 : Int) ∧ (0 : Int) = (0 : Int) ∧ { data := #[] : ByteArray } = ByteArray.empty ∧ (0 : Int) = (0 : Int) ∧ (0 : Int) = (0 : Int) ∧ (0 : Int) = (0 : Int) ∧ (0 : Int) = (0 : Int) ∧ (0 : Int) = (0 : Int) ∧ false = false ∧ (0 : Int) = (0 : Int) ∧ (0 : Int) = (0 : Int) ∧ (0 : Int) = (0 : Int) ∧ false = false ∧ (0 : Int) = (0 : Int) ∧ True) ∧ True) ∧ true = true) ∧ (dupK l i k = false → False)) ∧ ((List.getD l (Int.toNat (↑k : Int)) (0 : Int) == List.getD l (Int.toNat (↑i : Int)) (0 : Int)) = false → ∃ (j : Nat), i - j < i - k ∧ ((id = id ∧ (true = true ∧ List.length l = List.length l ∧ contLe (List.length l) (1 : Nat) (cellsOf' encI l) (cellsOf' encI l)) ∧ p = p ∧ ((0 : Nat) = (0 : Nat) ∧ (0 : Nat) = (0 : Nat)) ∧ (↑i : Int) = (↑i : Int) ∧ IntKind.wrap IntKind.i64 ((↑k : Int) + (1 : Int)) = (↑j : Int) ∧ True) ∧ (((0 : Int) = (0 : Int) ∧ (true = true ∧ (0 : Nat) = (0 : Nat) ∧ contLe (0 : Nat) (1 : Nat) (cellsOf' encI []) (cellsOf' encI [])) ∧ (0 : Int) = (0 : Int) ∧ (0 : Int) = (0 : Int) ∧ (true = true ∧ (0 : Nat) = (0 : Nat) ∧ contLe (0 : Nat) (2 : Nat) (cellsOf' encTp []) (cellsOf' encTp [])) ∧ (true = true ∧ (0 : Nat) = (0 : Nat) ∧ contLe (0 : Nat) (2 : Nat) (cellsOf' encSi []) (cellsOf' encSi [])) ∧ false = false ∧ (0 : Int) = (0 : Int) ∧ ByteArray.empty = ByteArray.empty ∧ ByteArray.empty = ByteArray.empty ∧ (true = true ∧ (0 : Nat) = (0 : Nat) ∧ contLe (0 : Nat) (1 : Nat) (cellsOf' encB []) (cellsOf' encB [])) ∧ (0 : Int) = (0 : Int) ∧ (0 : Int) = (0 : Int) ∧ ByteArray.empty = ByteArray.empty ∧ (0 : Int) = (0 : Int) ∧ (0 : Int) = (0 : Int) ∧ (0 : Int) = (0 : Int) ∧ ByteArray.empty = ByteArray.empty ∧ (true = true ∧ (0 : Nat) = (0 : Nat) ∧ contLe (0 : Nat) (1 : Nat) (cellsOf' encI []) (cellsOf' encI [])) ∧ (0 : Int) = (0 : Int) ∧ (0 : Int) = (0 : Int) ∧ ByteArray.empty = ByteArray.empty ∧ (0 : Int) = (0 : Int) ∧ (0 : Int) = (0 : Int) ∧ (0 : Int) = (0 : Int) ∧ (0 : Int) = (0 : Int) ∧ (0 : Int) = (0 : Int) ∧ false = false ∧ (0 : Int) = (0 : Int) ∧ (0 : Int) = (0 : Int) ∧ (0 : Int) = (0 : Int) ∧ false = false ∧ (0 : Int) = (0 : Int) ∧ True) ∧ True) ∧ true = true) ∧ true = true ∧ (dupK l i j = true → (dupK l i k = true → true = true) ∧ (dupK l i k = false → true = false)) ∧ (dupK l i j = false → (dupK l i k = true → false = true) ∧ (dupK l i k = false → false = false)))) ∧ (decide ((↑k : Int) < (↑i : Int)) = false → (dupK l i k = true → False) ∧ (dupK l i k = false → (id = id ∧ (true = true ∧ List.length l = List.length l ∧ contLe (List.length l) (1 : Nat) (cellsOf' encI l) (cellsOf' encI l)) ∧ p = p ∧ ((0 : Nat) = (0 : Nat) ∧ (0 : Nat) = (0 : Nat)) ∧ (↑i : Int) = (↑i : Int) ∧ True) ∧ (((0 : Int) = (0 : Int) ∧ (true = true ∧ (0 : Nat) = (0 : Nat) ∧ contLe (0 : Nat) (1 : Nat) (cellsOf' encI []) (cellsOf' encI [])) ∧ (0 : Int) = (0 : Int) ∧ (0 : Int) = (0 : Int) ∧ (true = true ∧ (0 : Nat) = (0 : Nat) ∧ contLe (0 : Nat) (2 : Nat) (cellsOf' encTp []) (cellsOf' encTp [])) ∧ (true = true ∧ (0 : Nat) = (0 : Nat) ∧ contLe (0 : Nat) (2 : Nat) (cellsOf' encSi []) (cellsOf' encSi [])) ∧ false = false ∧ (0 : Int) = (0 : Int) ∧ ByteArray.empty = ByteArray.empty ∧ ByteArray.empty = ByteArray.empty ∧ (true = true ∧ (0 : Nat) = (0 : Nat) ∧ contLe (0 : Nat) (1 : Nat) (cellsOf' encB []) (cellsOf' encB [])) ∧ (0 : Int) = (0 : Int) ∧ (0 : Int) = (0 : Int) ∧ ByteArray.empty = ByteArray.empty ∧ (0 : Int) = (0 : Int) ∧ (0 : Int) = (0 : Int) ∧ (0 : Int) = (0 : Int) ∧ ByteArray.empty = ByteArray.empty ∧ (true = true ∧ (0 : Nat) = (0 : Nat) ∧ contLe (0 : Nat) (1 : Nat) (cellsOf' encI []) (cellsOf' encI [])) ∧ (0 : Int) = (0 : Int) ∧ (0 : Int) = (0 : Int) ∧ ByteArray.empty = ByteArray.empty ∧ (0 : Int) = (0 : Int) ∧ (0 : Int) = (0 : Int) ∧ (0 : Int) = (0 : Int) ∧ (0 : Int) = (0 : Int) ∧ (0 : Int) = (0 : Int) ∧ false = false ∧ (0 : Int) = (0 : Int) ∧ (0 : Int) = (0 : Int) ∧ (0 : Int) = (0 : Int) ∧ false = false ∧ (0 : Int) = (0 : Int) ∧ True) ∧ True) ∧ true = true))
set_option maxRecDepth 1000000 in
theorem vcRnI_eq (id : Int) (p : Int) (l : List Int) (i : Nat) (k : Nat) : (loopVC Tryd.prog (hT _) 10 9 (fun k => i - k) (rnI id p l i) (fun _ => rnM) [1, 2, 3] (rnIO l i) (rnIS id p l i) k) = vcRnI id p l i k := by kernel_rfl
def rnO (id p : Int) (l : List Int) (i : Nat) : List AV := mkT 74 (rnA id p l ++ [(8, .y (.int .i64 i))])
def rnOS (id p : Int) (l : List Int) (r : Bool) : Exit × List AV × List Blk := match r with
  | true => (.ret, mkT 74 [(6, .ptr 0 0 0 0), (7, .y (.int .i64 1))], rnM)
  | false => (.exit 0, mkT 74 (rnA id p l), rnM)
def rnOO (id : Int) (l : List Int) (i : Nat) : T Bool := .ite (badF id l (l.length - i) i) (.ret true) (.ret false)
noncomputable def rnOH (id p : Int) (l : List Int) (i : Nat) : HintsT Tryd.prog := hh _ (lp1 10 9 (jobOf (rnI id p l i) (fun _ => rnM) [1, 2, 3] (rnIO l i) (rnIS id p l i) 0) noLp) noCs noOp
def vcRnO_q1 : Prop := (((0 : Int) = (0 : Int) ∧ (true = true ∧ (0 : Nat) = (0 : Nat) ∧ contLe (0 : Nat) (1 : Nat) (cellsOf' encI []) (cellsOf' encI [])) ∧ (0 : Int) = (0 : Int) ∧ (0 : Int) = (0 : Int) ∧ (true = true ∧ (0 : Nat) = (0 : Nat) ∧ contLe (0 : Nat) (2 : Nat) (cellsOf' encTp []) (cellsOf' encTp [])) ∧ (true = true ∧ (0 : Nat) = (0 : Nat) ∧ contLe (0 : Nat) (2 : Nat) (cellsOf' encSi []) (cellsOf' encSi [])) ∧ false = false ∧ (0 : Int) = (0 : Int) ∧ ByteArray.empty = ByteArray.empty ∧ ByteArray.empty = ByteArray.empty ∧ (true = true ∧ (0 : Nat) = (0 : Nat) ∧ contLe (0 : Nat) (1 : Nat) (cellsOf' encB []) (cellsOf' encB [])) ∧ (0 : Int) = (0 : Int) ∧ (0 : Int) = (0 : Int) ∧ ByteArray.empty = ByteArray.empty ∧ (0 : Int) = (0 : Int) ∧ (0 : Int) = (0 : Int) ∧ (0 : Int) = (0 : Int) ∧ ByteArray.empty = ByteArray.empty ∧ (true = true ∧ (0 : Nat) = (0 : Nat) ∧ contLe (0 : Nat) (1 : Nat) (cellsOf' encI []) (cellsOf' encI [])) ∧ (0 : Int) = (0 : Int) ∧ (0 : Int) = (0 : Int) ∧ ByteArray.empty = ByteArray.empty ∧ (0 : Int) = (0 : Int) ∧ (0 : Int) = (0 : Int) ∧ (0 : Int) = (0 : Int) ∧ (0 : Int) = (0 : Int) ∧ (0 : Int) = (0 : Int) ∧ false = false ∧ (0 : Int) = (0 : Int) ∧ (0 : Int) = (0 : Int) ∧ (0 : Int) = (0 : Int) ∧ false = false ∧ (0 : Int) = (0 : Int) ∧ True) ∧ True)
def vcRnO_q2 (id : Int) (l : List Int) (i : Nat) : Prop := (badF id l (List.length l - i) i = true → (((0 : Nat) = (0 : Nat) ∧ (0 : Nat) = (0 : Nat)) ∧ (1 : Int) = (1 : Int) ∧ True) ∧ (((0 : Int) = (0 : Int) ∧ (0 : Nat) = (0 : Nat) ∧ (0 : Int) = (0 : Int) ∧ (0 : Int) = (0 : Int) ∧ (0 : Nat) = (0 : Nat) ∧ (0 : Nat) = (0 : Nat) ∧ false = false ∧ (0 : Int) = (0 : Int) ∧ { data := #[] : ByteArray } = ByteArray.empty ∧ { data := #[] : ByteArray } = ByteArray.empty ∧ (0 : Nat) = (0 : Nat) ∧ (0 : Int) = (0 : Int) ∧ (0 : Int) = (0 : Int) ∧ { data := #[] : ByteArray } = ByteArray.empty ∧ (0 : Int) = (0 : Int) ∧ (0 : Int) = (0 : Int) ∧ (0 : Int) = (0 : Int) ∧ { data := #[] : ByteArray } = ByteArray.empty ∧ (0 : Nat) = (0 : Nat) ∧ (0 : Int) = (0 : Int) ∧ (0 : Int) = (0 : Int) ∧ { data := #[] : ByteArray } = ByteArray.empty ∧ (0 : Int) = (0 : Int) ∧ (0 : Int) = (0 : Int) ∧ (0 : Int) = (0 : Int) ∧ (0 : Int) = (0 : Int) ∧ (0 : Int) = (0 : Int) ∧ false = false ∧ (0 : Int) = (0 : Int) ∧ (0 : Int) = (0 : Int) ∧ (0 : Int) = (0 : Int) ∧ false = false ∧ (0 : Int) = (0 : Int) ∧ True) ∧ True) ∧ true = true)
def vcRnO (id : Int) (p : Int) (l : List Int) (i : Nat) : Prop :=
  (decide ((↑i : Int) < (↑(List.length l) : Int)) = true → (true && decide ((↑i : Int) < (↑(List.length l) : Int))) = true ∧ (decide (List.getD l (Int.toNat (↑i : Int)) (0 : Int) < (1 : Int)) = true → (vcRnO_q2 id l i) ∧ (badF id l (List.length l - i) i = false → False)) ∧ (decide (List.getD l (Int.toNat (↑i : Int)) (0 : Int) < (1 : Int)) = false → (true && decide ((↑i : Int) < (↑(List.length l) : Int))) = true ∧ (decide ((7 : Int) < List.getD l (Int.toNat (↑i : Int)) (0 : Int)) = true → (vcRnO_q2 id l i) ∧ (badF id l (List.length l - i) i = false → False)) ∧ (decide ((7 : Int) < List.getD l (Int.toNat (↑i : Int)) (0 : Int)) = false → (true && decide ((↑i : Int) < (↑(List.length l) : Int))) = true ∧ ((List.getD l (Int.toNat (↑i : Int)) (0 : Int) == id) = true → (vcRnO_q2 id l i) ∧ (badF id l (List.length l - i) i = false → False)) ∧ ((List.getD l (Int.toNat (↑i : Int)) (0 : Int) == id) = false → ((id = id ∧ (true = true ∧ List.length l = List.length l ∧ contLe (List.length l) (1 : Nat) (cellsOf' encI l) (cellsOf' encI l)) ∧ p = p ∧ ((0 : Nat) = (0 : Nat) ∧ (0 : Nat) = (0 : Nat)) ∧ (↑i : Int) = (↑i : Int) ∧ (0 : Int) = (0 : Int) ∧ True) ∧ (vcRnO_q1) ∧ true = true) ∧ LoopOk Tryd.prog (10 : Nat) (9 : Nat) (loopAt Tryd.prog (10 : Nat) (9 : Nat)) { t := rnI id p l i (0 : Nat), m := rnM, mv := [] : St } (T.map (lout [(1 : Nat), (2 : Nat), (3 : Nat)] (rnIS id p l i)) (rnIO l i (0 : Nat))) ∧ (dupK l i (0 : Nat) = true → (badF id l (List.length l - i) i = true → (((0 : Nat) = (0 : Nat) ∧ (0 : Nat) = (0 : Nat)) ∧ (1 : Int) = (1 : Int) ∧ True) ∧ (vcRnO_q1) ∧ true = true) ∧ (badF id l (List.length l - i) i = false → False)) ∧ (dupK l i (0 : Nat) = false → ∃ (j : Nat), List.length l - j < List.length l - i ∧ ((id = id ∧ (true = true ∧ List.length l = List.length l ∧ contLe (List.length l) (1 : Nat) (cellsOf' encI l) (cellsOf' encI l)) ∧ p = p ∧ ((0 : Nat) = (0 : Nat) ∧ (0 : Nat) = (0 : Nat)) ∧ IntKind.wrap IntKind.i64 ((↑i : Int) + (1 : Int)) = (↑j : Int) ∧ True) ∧ (vcRnO_q1) ∧ true = true) ∧ true = true ∧ (badF id l (List.length l - j) j = true → (badF id l (List.length l - i) i = true → true = true) ∧ (badF id l (List.length l - i) i = false → true = false)) ∧ (badF id l (List.length l - j) j = false → (badF id l (List.length l - i) i = true → false = true) ∧ (badF id l (List.length l - i) i = false → false = false))))))) ∧ (decide ((↑i : Int) < (↑(List.length l) : Int)) = false → (badF id l (List.length l - i) i = true → False) ∧ (badF id l (List.length l - i) i = false → (id = id ∧ (true = true ∧ List.length l = List.length l ∧ contLe (List.length l) (1 : Nat) (cellsOf' encI l) (cellsOf' encI l)) ∧ p = p ∧ ((0 : Nat) = (0 : Nat) ∧ (0 : Nat) = (0 : Nat)) ∧ True) ∧ (vcRnO_q1) ∧ true = true))
set_option maxRecDepth 1000000 in
theorem vcRnO_eq (id : Int) (p : Int) (l : List Int) (i : Nat) : (loopVC Tryd.prog (rnOH id p l i) 10 4 (fun i => l.length - i) (rnO id p l) (fun _ => rnM) [1, 2, 3] (rnOO id l) (rnOS id p l) i) = vcRnO id p l i := by kernel_rfl
noncomputable def rnH (id p : Int) (l : List Int) : HintsT Tryd.prog := withSh (hh _ (lp1 10 4 (jobOf (rnO id p l) (fun _ => rnM) [1, 2, 3] (rnOO id l) (rnOS id p l) 0) noLp) noCs noOp) (sh1 10 13 5 779 noSh)
def vcRn_q1 (c : Clt) (e : Int) : Prop := (((0 : Int) = c.id ∧ List.length c.servers = (0 : Nat) ∧ (0 : Int) = c.prod ∧ (0 : Int) = c.seq ∧ List.length c.topics = (0 : Nat) ∧ List.length c.leaders = (0 : Nat) ∧ false = c.busy ∧ (0 : Int) = c.call.kind ∧ { data := #[] : ByteArray } = c.call.topic ∧ { data := #[] : ByteArray } = c.call.key ∧ List.length c.call.val = (0 : Nat) ∧ (0 : Int) = c.call.off ∧ (0 : Int) = c.call.most ∧ { data := #[] : ByteArray } = c.call.name ∧ (0 : Int) = c.call.adm.kind ∧ (0 : Int) = c.call.adm.prod ∧ (0 : Int) = c.call.adm.seq ∧ { data := #[] : ByteArray } = c.call.adm.topic ∧ List.length c.call.adm.nodes = (0 : Nat) ∧ (0 : Int) = c.call.adm.group ∧ (0 : Int) = c.call.adm.other ∧ { data := #[] : ByteArray } = c.call.adm.key ∧ (0 : Int) = c.call.adm.fr ∧ (0 : Int) = c.call.adm.to ∧ (0 : Int) = c.call.adm.plan ∧ (0 : Int) = c.call.adm.step ∧ (0 : Int) = c.number ∧ false = c.route ∧ (0 : Int) = c.group ∧ (0 : Int) = c.tries ∧ (0 : Int) = c.waited ∧ false = c.again ∧ (0 : Int) = c.at' ∧ True) ∧ (1 : Int) = e ∧ True)
def vcRn (id : Int) (l : List Int) (p : Int) (c : Clt) (e : Int) : Prop :=
  (decide (id < (1 : Int)) = true → (vcRn_q1 c e) ∧ True) ∧ (decide (id < (1 : Int)) = false → (decide ((7 : Int) < id) = true → (vcRn_q1 c e) ∧ True) ∧ (decide ((7 : Int) < id) = false → (((↑(List.length l) : Int) == (0 : Int)) = true → (vcRn_q1 c e) ∧ True) ∧ (((↑(List.length l) : Int) == (0 : Int)) = false → ((p == (0 : Int)) = true → (vcRn_q1 c e) ∧ True) ∧ ((p == (0 : Int)) = false → ((id = id ∧ (true = true ∧ List.length l = List.length l ∧ contLe (List.length l) (1 : Nat) (cellsOf' encI l) (cellsOf' encI l)) ∧ p = p ∧ ((0 : Nat) = (0 : Nat) ∧ (0 : Nat) = (0 : Nat)) ∧ (0 : Int) = (0 : Int) ∧ True) ∧ (((0 : Int) = (0 : Int) ∧ (0 : Nat) = (0 : Nat) ∧ (0 : Int) = (0 : Int) ∧ (0 : Int) = (0 : Int) ∧ (0 : Nat) = (0 : Nat) ∧ (0 : Nat) = (0 : Nat) ∧ false = false ∧ (0 : Int) = (0 : Int) ∧ { data := #[] : ByteArray } = ByteArray.empty ∧ { data := #[] : ByteArray } = ByteArray.empty ∧ (0 : Nat) = (0 : Nat) ∧ (0 : Int) = (0 : Int) ∧ (0 : Int) = (0 : Int) ∧ { data := #[] : ByteArray } = ByteArray.empty ∧ (0 : Int) = (0 : Int) ∧ (0 : Int) = (0 : Int) ∧ (0 : Int) = (0 : Int) ∧ { data := #[] : ByteArray } = ByteArray.empty ∧ (0 : Nat) = (0 : Nat) ∧ (0 : Int) = (0 : Int) ∧ (0 : Int) = (0 : Int) ∧ { data := #[] : ByteArray } = ByteArray.empty ∧ (0 : Int) = (0 : Int) ∧ (0 : Int) = (0 : Int) ∧ (0 : Int) = (0 : Int) ∧ (0 : Int) = (0 : Int) ∧ (0 : Int) = (0 : Int) ∧ false = false ∧ (0 : Int) = (0 : Int) ∧ (0 : Int) = (0 : Int) ∧ (0 : Int) = (0 : Int) ∧ false = false ∧ (0 : Int) = (0 : Int) ∧ True) ∧ True) ∧ true = true) ∧ LoopOk Tryd.prog (10 : Nat) (4 : Nat) (loopAt Tryd.prog (10 : Nat) (4 : Nat)) { t := rnO id p l (0 : Nat), m := rnM, mv := [] : St } (T.map (lout [(1 : Nat), (2 : Nat), (3 : Nat)] (rnOS id p l)) (rnOO id l (0 : Nat))) ∧ (badF id l (List.length l - (0 : Nat)) (0 : Nat) = true → (((0 : Int) = c.id ∧ (true = true ∧ (0 : Nat) = List.length c.servers ∧ contLe (0 : Nat) (1 : Nat) (cellsOf' encI []) (cellsOf' encI c.servers)) ∧ (0 : Int) = c.prod ∧ (0 : Int) = c.seq ∧ (true = true ∧ (0 : Nat) = List.length c.topics ∧ contLe (0 : Nat) (2 : Nat) (cellsOf' encTp []) (cellsOf' encTp c.topics)) ∧ (true = true ∧ (0 : Nat) = List.length c.leaders ∧ contLe (0 : Nat) (2 : Nat) (cellsOf' encSi []) (cellsOf' encSi c.leaders)) ∧ false = c.busy ∧ (0 : Int) = c.call.kind ∧ ByteArray.empty = c.call.topic ∧ ByteArray.empty = c.call.key ∧ (true = true ∧ (0 : Nat) = List.length c.call.val ∧ contLe (0 : Nat) (1 : Nat) (cellsOf' encB []) (cellsOf' encB c.call.val)) ∧ (0 : Int) = c.call.off ∧ (0 : Int) = c.call.most ∧ ByteArray.empty = c.call.name ∧ (0 : Int) = c.call.adm.kind ∧ (0 : Int) = c.call.adm.prod ∧ (0 : Int) = c.call.adm.seq ∧ ByteArray.empty = c.call.adm.topic ∧ (true = true ∧ (0 : Nat) = List.length c.call.adm.nodes ∧ contLe (0 : Nat) (1 : Nat) (cellsOf' encI []) (cellsOf' encI c.call.adm.nodes)) ∧ (0 : Int) = c.call.adm.group ∧ (0 : Int) = c.call.adm.other ∧ ByteArray.empty = c.call.adm.key ∧ (0 : Int) = c.call.adm.fr ∧ (0 : Int) = c.call.adm.to ∧ (0 : Int) = c.call.adm.plan ∧ (0 : Int) = c.call.adm.step ∧ (0 : Int) = c.number ∧ false = c.route ∧ (0 : Int) = c.group ∧ (0 : Int) = c.tries ∧ (0 : Int) = c.waited ∧ false = c.again ∧ (0 : Int) = c.at' ∧ True) ∧ (1 : Int) = e ∧ True) ∧ True) ∧ (badF id l (List.length l - (0 : Nat)) (0 : Nat) = false → (decide ((0 : Nat) + List.length l ≤ (9223372036854775807 : Nat)) && decide (((0 : Nat) + List.length l) * (8 : Nat) ≤ (140737488355328 : Nat))) = true ∧ (∀ (k : Nat), k < (0 : Nat) + List.length l → ∀ (j : Nat), j < (1 : Nat) → tagT (appRow (0 : Nat) (fun (k j : Nat) => AV.junk) (cellsOf' encI l) k j) = true) ∧ ((id = c.id ∧ (true = true ∧ (0 : Nat) + List.length l = List.length c.servers ∧ contLe ((0 : Nat) + List.length l) (1 : Nat) (Ax.rowAt (0 : Nat) (appRow (0 : Nat) (fun (k j : Nat) => AV.junk) (cellsOf' encI l))) (cellsOf' encI c.servers)) ∧ p = c.prod ∧ (0 : Int) = c.seq ∧ List.length c.topics = (0 : Nat) ∧ List.length c.leaders = (0 : Nat) ∧ false = c.busy ∧ (0 : Int) = c.call.kind ∧ { data := #[] : ByteArray } = c.call.topic ∧ { data := #[] : ByteArray } = c.call.key ∧ List.length c.call.val = (0 : Nat) ∧ (0 : Int) = c.call.off ∧ (0 : Int) = c.call.most ∧ { data := #[] : ByteArray } = c.call.name ∧ (0 : Int) = c.call.adm.kind ∧ (0 : Int) = c.call.adm.prod ∧ (0 : Int) = c.call.adm.seq ∧ { data := #[] : ByteArray } = c.call.adm.topic ∧ List.length c.call.adm.nodes = (0 : Nat) ∧ (0 : Int) = c.call.adm.group ∧ (0 : Int) = c.call.adm.other ∧ { data := #[] : ByteArray } = c.call.adm.key ∧ (0 : Int) = c.call.adm.fr ∧ (0 : Int) = c.call.adm.to ∧ (0 : Int) = c.call.adm.plan ∧ (0 : Int) = c.call.adm.step ∧ (0 : Int) = c.number ∧ false = c.route ∧ (0 : Int) = c.group ∧ (0 : Int) = c.tries ∧ (0 : Int) = c.waited ∧ false = c.again ∧ (0 : Int) = c.at' ∧ True) ∧ (0 : Int) = e ∧ True) ∧ True)))))
set_option maxRecDepth 1000000 in
theorem vcRn_eq (id : Int) (l : List Int) (p : Int) (c : Clt) (e : Int) : (ctrVC Tryd.prog (rnH id p l) 10 [.y (.int .i64 id), encIs true l, .y (.int .u64 p)] [] (nwgR c e)) = vcRn id l p c e := by kernel_rfl
end Go.Proofs.YtdpbogaldcpfeaaDoor.C

/-! The document's New: the code. -/
namespace Go.Proofs.YtdpbogaldcpfeaaDoor.C
open Go.Ax
set_option maxRecDepth 1000000
theorem dup_cons {l : List Int} {i k : Nat} (hk : k < i) (hi : i < l.length) : dupK l i k = (l.getD k 0 == l.getD i 0 || dupK l i (k + 1)) := by
  unfold dupK
  have h : k < (l.take i).length := by simp; omega
  rw [List.drop_eq_getElem_cons h, List.any_cons]
  have e : (l.take i)[k] = l.getD k 0 := by
    rw [List.getElem_take]
    simp [show k < l.length by omega]
  rw [e]
theorem dup_end {l : List Int} {i k : Nat} (hk : i ≤ k) : dupK l i k = false := by
  unfold dupK
  rw [List.drop_eq_nil_of_le (by simp; omega)]
  rfl
theorem rni_loop (id p : Int) (l : List Int) (i : Nat) (hi : i < l.length) (hl : l.length ≤ 9223372036854775806) (k : Nat) : LoopOk Tryd.prog 10 9 (loopAt Tryd.prog 10 9) ⟨rnI id p l i k, rnM, []⟩ (T.map (lout [1, 2, 3] (rnIS id p l i)) (rnIO l i k)) := by
  refine loop_vcH (P := Tryd.prog) (f := 10) (k := 9) (ι := Nat) (μ := fun k => i - k) (ht := fun _ => hT _) (stT := rnI id p l i) (stM := fun _ => rnM) (X := [1, 2, 3]) (o := rnIO l i) (S := rnIS id p l i) Tryd.mixed (fun _ => rfl) (fun k => ?_) k
  rw [vcRnI_eq id p l i k]
  unfold vcRnI
  have eb : ({ data := #[] } : ByteArray) = ByteArray.empty := rfl
  by_cases hk : k < i
  · have hz : decide ((k : Int) < (i : Int)) = true := by simp; omega
    have hw : IntKind.i64.wrap ((k : Int) + 1) = ((k + 1 : Nat) : Int) := by rw [wrap_i64 (by omega) (by omega)]; omega
    have hkl : k < l.length := by omega
    have hd := dup_cons hk hi
    simp only [Int.toNat_natCast, hz, hw]
    generalize dupK l i k = b at *
    generalize l.getD k 0 = x at *
    generalize l.getD i 0 = z at *
    cases hx : (x == z)
    · rw [hx, Bool.false_or] at hd
      simp [hkl, hi, eb]
      exact ⟨k + 1, by omega, by omega, fun h => hd.trans h, fun h => hd.trans h⟩
    · rw [hx, Bool.true_or] at hd
      subst hd
      simp [hkl, hi, eb]
  · have hz : decide ((k : Int) < (i : Int)) = false := by simp; omega
    have hd := dup_end (l := l) (show i ≤ k by omega)
    simp only [hz, hd]
    simp [eb]
theorem rno_loop (id p : Int) (l : List Int) (hl : l.length ≤ 9223372036854775806) (i : Nat) : LoopOk Tryd.prog 10 4 (loopAt Tryd.prog 10 4) ⟨rnO id p l i, rnM, []⟩ (T.map (lout [1, 2, 3] (rnOS id p l)) (rnOO id l i)) := by
  refine loop_vcH (P := Tryd.prog) (f := 10) (k := 4) (ι := Nat) (μ := fun i => l.length - i) (ht := fun i => rnOH id p l i) (stT := rnO id p l) (stM := fun _ => rnM) (X := [1, 2, 3]) (o := rnOO id l) (S := rnOS id p l) Tryd.mixed (fun _ => rfl) (fun i => ?_) i
  rw [vcRnO_eq id p l i]
  unfold vcRnO vcRnO_q2 vcRnO_q1
  have eb : ({ data := #[] } : ByteArray) = ByteArray.empty := rfl
  by_cases hi : i < l.length
  · have hz : decide ((i : Int) < (l.length : Int)) = true := by simp; omega
    have hw : IntKind.i64.wrap ((i : Int) + 1) = ((i + 1 : Nat) : Int) := by rw [wrap_i64 (by omega) (by omega)]; omega
    have lp := rni_loop id p l i hi hl 0
    have hf : badF id l (l.length - i) i = (bad1 id l i || badF id l (l.length - (i + 1)) (i + 1)) := by
      rw [show l.length - i = (l.length - (i + 1)) + 1 by omega, badF]
    unfold bad1 out1 at hf
    simp only [Int.toNat_natCast, hz, hw]
    generalize badF id l (l.length - i) i = b at *
    obtain ⟨x, hx⟩ : ∃ x, l.getD i 0 = x := ⟨_, rfl⟩
    simp only [hx] at hf ⊢
    by_cases h1 : x < 1
    · have hb : b = true := by rw [hf]; simp [h1]
      subst hb
      simp [h1, hi, eb]
    · by_cases h2 : 7 < x
      · have hb : b = true := by rw [hf]; simp [h2]
        subst hb
        simp [h1, h2, hi, eb]
      · by_cases h3 : x = id
        · have hb : b = true := by rw [hf]; simp [h3]
          subst hb
          simp [h1, h2, h3, hi, eb]
        · simp [h1, h2, h3] at hf
          simp [h1, h2, h3, hi, eb, lp]
          have h3' : (x == id) = false := by simpa using h3
          rw [h3', Bool.false_or] at hf
          exact ⟨fun hd => by rw [hf, hd]; rfl, fun hd => ⟨i + 1, by omega, by omega, fun h => by rw [hf, hd, h]; rfl, fun h => by rw [hf, hd, h]; rfl⟩⟩
  · have hz : decide ((i : Int) < (l.length : Int)) = false := by simp; omega
    have hf : badF id l (l.length - i) i = false := by
      rw [show l.length - i = 0 by omega, badF]
    simp only [hz, hf]
    simp [eb]
def refB (id : Int) (l : List Int) (p : Int) : Bool := !(decide (id < 1)) && (!(decide (7 < id)) && (!(l.length == 0) && (!(p == 0) && !(badF id l l.length 0))))
structure RfQ (id : Int) (l : List Int) (p : Int) (c : Clt) (e : Int) : Prop where
  ok : refB id l p = true → c = newQ id l p ∧ e = 0
  no : refB id l p = false → c = default ∧ e = 1
  n : l.length * 8 ≤ 140737488355328
theorem rn_c (id : Int) (l : List Int) (p : Int) (c : Clt) (e : Int) (h : RfQ id l p c e) : (nwgR c e).Sat (ACall' Tryd.prog 10 [.y (.int .i64 id), encIs true l, .y (.int .u64 p)] []) := by
  refine ctr_vc (ht := rnH id p l) Tryd.mixed rfl ?_
  rw [vcRn_eq id l p c e]
  unfold vcRn vcRn_q1
  obtain ⟨ok, no, hn⟩ := h
  have eb : ({ data := #[] } : ByteArray) = ByteArray.empty := rfl
  have lp := rno_loop id p l (by omega) 0
  have hn2 : l.length ≤ 9223372036854775807 := by omega
  by_cases h1 : id < 1
  · obtain ⟨rfl, rfl⟩ := no (by unfold refB; simp [h1])
    simp [h1]
    repeat' apply And.intro
    all_goals first | exact lp | rfl | exact contLe_refl _ _ _ | exact fun _ _ => rfl
  · by_cases h2 : 7 < id
    · obtain ⟨rfl, rfl⟩ := no (by unfold refB; simp [h2])
      simp [h1, h2]
      repeat' apply And.intro
      all_goals first | exact lp | rfl | exact contLe_refl _ _ _ | exact fun _ _ => rfl
    · by_cases h3 : l.length = 0
      · obtain ⟨rfl, rfl⟩ := no (by unfold refB; simp [h3])
        have h3' : l = [] := List.eq_nil_of_length_eq_zero h3
        simp [h1, h2, h3']
        repeat' apply And.intro
        all_goals first | exact lp | rfl | exact contLe_refl _ _ _ | exact fun _ _ => rfl
      · have h3' : ¬ l = [] := fun e => h3 (by rw [e]; rfl)
        have h30 : ¬ (l.length : Int) = 0 := by omega
        by_cases h4 : p = 0
        · obtain ⟨rfl, rfl⟩ := no (by unfold refB; simp [h4])
          simp [h1, h2, h3', h4]
          repeat' apply And.intro
          all_goals first | exact lp | rfl | exact contLe_refl _ _ _ | exact fun _ _ => rfl
        · cases h5 : badF id l l.length 0
          · obtain ⟨rfl, rfl⟩ := ok (by unfold refB; simp [h1, h2, h3', h4, h5])
            simp [h1, h2, h3', h4, h5, lp, hn, hn2]
            repeat' apply And.intro
            all_goals first | exact lp | rfl | exact contLe_refl _ _ _ | exact fun _ _ => rfl
          · obtain ⟨rfl, rfl⟩ := no (by unfold refB; simp [h5])
            simp [h1, h2, h3', h4, h5, lp, hn, hn2]
            repeat' apply And.intro
            all_goals first | exact lp | rfl | exact contLe_refl _ _ _ | exact fun _ _ => rfl
noncomputable def rnC (id : Int) (l : List Int) (p : Int) (c : Clt) (e : Int) : Ctr Tryd.prog := ⟨10, [.y (.int .i64 id), encIs true l, .y (.int .u64 p)], [], .need (RfQ id l p c e) (nwgR c e), T.Sat.need fun h => rn_c id l p c e h⟩
end Go.Proofs.YtdpbogaldcpfeaaDoor.C

/-! A client's numbers: the conditions. -/
--fold
namespace Go.Proofs.YtdpbogaldcpfeaaDoor.C
open Go.Ax
set_option maxRecDepth 1000000
def fdC1 (a : Clt) (b : Clt) : Prop :=
  a.id = b.id ∧ (true = true ∧ List.length a.servers = List.length b.servers ∧ contLe (List.length a.servers) (1 : Nat) (cellsOf' encI a.servers) (cellsOf' encI b.servers)) ∧ a.prod = b.prod ∧ a.seq = b.seq ∧ (true = true ∧ List.length a.topics = List.length b.topics ∧ contLe (List.length a.topics) (2 : Nat) (cellsOf' encTp a.topics) (cellsOf' encTp b.topics)) ∧ (true = true ∧ List.length a.leaders = List.length b.leaders ∧ contLe (List.length a.leaders) (2 : Nat) (cellsOf' encSi a.leaders) (cellsOf' encSi b.leaders)) ∧ a.busy = b.busy ∧ a.call.kind = b.call.kind ∧ a.call.topic = b.call.topic ∧ a.call.key = b.call.key ∧ (true = true ∧ List.length a.call.val = List.length b.call.val ∧ contLe (List.length a.call.val) (1 : Nat) (cellsOf' encB a.call.val) (cellsOf' encB b.call.val)) ∧ a.call.off = b.call.off ∧ a.call.most = b.call.most ∧ a.call.name = b.call.name ∧ a.call.adm.kind = b.call.adm.kind ∧ a.call.adm.prod = b.call.adm.prod ∧ a.call.adm.seq = b.call.adm.seq ∧ a.call.adm.topic = b.call.adm.topic ∧ (true = true ∧ List.length a.call.adm.nodes = List.length b.call.adm.nodes ∧ contLe (List.length a.call.adm.nodes) (1 : Nat) (cellsOf' encI a.call.adm.nodes) (cellsOf' encI b.call.adm.nodes)) ∧ a.call.adm.group = b.call.adm.group ∧ a.call.adm.other = b.call.adm.other ∧ a.call.adm.key = b.call.adm.key ∧ a.call.adm.fr = b.call.adm.fr ∧ a.call.adm.to = b.call.adm.to ∧ a.call.adm.plan = b.call.adm.plan ∧ a.call.adm.step = b.call.adm.step ∧ a.number = b.number ∧ a.route = b.route ∧ a.group = b.group ∧ a.tries = b.tries ∧ a.waited = b.waited ∧ a.again = b.again ∧ a.at' = b.at' ∧ True
def fdCl (a : Cal) (b : Cal) : Prop :=
  a.kind = b.kind ∧ a.topic = b.topic ∧ a.key = b.key ∧ (true = true ∧ List.length a.val = List.length b.val ∧ contLe (List.length a.val) (1 : Nat) (cellsOf' encB a.val) (cellsOf' encB b.val)) ∧ a.off = b.off ∧ a.most = b.most ∧ a.name = b.name ∧ a.adm.kind = b.adm.kind ∧ a.adm.prod = b.adm.prod ∧ a.adm.seq = b.adm.seq ∧ a.adm.topic = b.adm.topic ∧ (true = true ∧ List.length a.adm.nodes = List.length b.adm.nodes ∧ contLe (List.length a.adm.nodes) (1 : Nat) (cellsOf' encI a.adm.nodes) (cellsOf' encI b.adm.nodes)) ∧ a.adm.group = b.adm.group ∧ a.adm.other = b.adm.other ∧ a.adm.key = b.adm.key ∧ a.adm.fr = b.adm.fr ∧ a.adm.to = b.adm.to ∧ a.adm.plan = b.adm.plan ∧ a.adm.step = b.adm.step ∧ True
end Go.Proofs.YtdpbogaldcpfeaaDoor.C

/-! New, whose servers are its own; a client is like itself: the conditions. -/
--fold
namespace Go.Proofs.YtdpbogaldcpfeaaDoor.C
open Go.Ax
set_option maxRecDepth 1000000
/-- a client without topics and leaders, whose servers are at hand -/
def encCv (sv : AV) (c : Clt) : List AV := [.y (.int .i64 c.id), sv, .y (.int .u64 c.prod), .y (.int .u64 c.seq), encTps true c.topics, encSis true c.leaders, .y (.bool c.busy)] ++ encCl c.call ++ [.y (.int .u64 c.number), .y (.bool c.route), .y (.int .u64 c.group), .y (.int .i64 c.tries), .y (.int .i64 c.waited), .y (.bool c.again), .y (.int .i64 c.at')]
def vsM (c : Clt) : List Blk := [.box 35 (encCv (encIs false c.servers) c), .box 35 (encC0 true c)]
def vsS (c : Clt) (_ : Unit) : Exit × List AV × List Blk := (.exit 0, mkT 174 [(2, .ptr 0 0 0 0), (3, .ptr 1 0 0 0)], vsM c)
def vsS2 (c : Clt) (_ : Unit) : Exit × List AV × List Blk := (.exit 2, mkT 174 [(2, .ptr 0 0 0 0), (3, .ptr 1 0 0 0)], vsM c)
def vcVsL (c : Clt) (k : Nat) : Prop :=
  (decide ((↑k : Int) < (↑(List.length c.topics) : Int)) = true → (true && decide ((↑k : Int) < (↑(List.length c.topics) : Int))) = true ∧ (true && decide ((↑k : Int) < (↑(List.length c.topics) : Int))) = true ∧ ((true = true ∧ List.length (List.getD c.topics (Int.toNat (↑k : Int)) (@default Tpc instInhabitedTpc)).shards = List.length (List.getD c.topics k (@default Tpc instInhabitedTpc)).shards ∧ contLe (List.length (List.getD c.topics (Int.toNat (↑k : Int)) (@default Tpc instInhabitedTpc)).shards) (7 : Nat) (cellsOf' encSh (List.getD c.topics (Int.toNat (↑k : Int)) (@default Tpc instInhabitedTpc)).shards) (cellsOf' encSh (List.getD c.topics k (@default Tpc instInhabitedTpc)).shards)) ∧ (true = true ∧ List.length (List.getD c.topics (Int.toNat (↑k : Int)) (@default Tpc instInhabitedTpc)).shards = List.length (List.getD c.topics k (@default Tpc instInhabitedTpc)).shards ∧ contLe (List.length (List.getD c.topics (Int.toNat (↑k : Int)) (@default Tpc instInhabitedTpc)).shards) (7 : Nat) (cellsOf' encSh (List.getD c.topics (Int.toNat (↑k : Int)) (@default Tpc instInhabitedTpc)).shards) (cellsOf' encSh (List.getD c.topics k (@default Tpc instInhabitedTpc)).shards)) ∧ True) ∧ True ∧ ShsIn (List.getD c.topics k (@default Tpc instInhabitedTpc)).shards (List.getD c.topics k (@default Tpc instInhabitedTpc)).shards ∧ (false = true → False) ∧ (false = false → (true && decide ((↑k : Int) < (↑(List.length c.topics) : Int))) = true ∧ (true && decide ((↑k : Int) < (↑(List.length c.topics) : Int))) = true ∧ ((!(List.getD c.topics (Int.toNat (↑k : Int)) (@default Tpc instInhabitedTpc)).name.data.toList == (List.getD c.topics (Int.toNat (↑k : Int)) (@default Tpc instInhabitedTpc)).name.data.toList) = true → False) ∧ ((!(List.getD c.topics (Int.toNat (↑k : Int)) (@default Tpc instInhabitedTpc)).name.data.toList == (List.getD c.topics (Int.toNat (↑k : Int)) (@default Tpc instInhabitedTpc)).name.data.toList) = false → ∃ (j : Nat), List.length c.topics - j < List.length c.topics - k ∧ ((((0 : Nat) = (0 : Nat) ∧ (0 : Nat) = (0 : Nat)) ∧ ((0 : Nat) = (0 : Nat) ∧ (0 : Nat) = (0 : Nat)) ∧ IntKind.wrap IntKind.i64 ((↑k : Int) + (1 : Int)) = (↑j : Int) ∧ True) ∧ ((c.id = c.id ∧ (false = false ∧ List.length c.servers = List.length c.servers ∧ contLe (List.length c.servers) (1 : Nat) (cellsOf' encI c.servers) (cellsOf' encI c.servers)) ∧ c.prod = c.prod ∧ c.seq = c.seq ∧ (true = true ∧ List.length c.topics = List.length c.topics ∧ contLe (List.length c.topics) (2 : Nat) (cellsOf' encTp c.topics) (cellsOf' encTp c.topics)) ∧ (true = true ∧ List.length c.leaders = List.length c.leaders ∧ contLe (List.length c.leaders) (2 : Nat) (cellsOf' encSi c.leaders) (cellsOf' encSi c.leaders)) ∧ c.busy = c.busy ∧ c.call.kind = c.call.kind ∧ c.call.topic = c.call.topic ∧ c.call.key = c.call.key ∧ (true = true ∧ List.length c.call.val = List.length c.call.val ∧ contLe (List.length c.call.val) (1 : Nat) (cellsOf' encB c.call.val) (cellsOf' encB c.call.val)) ∧ c.call.off = c.call.off ∧ c.call.most = c.call.most ∧ c.call.name = c.call.name ∧ c.call.adm.kind = c.call.adm.kind ∧ c.call.adm.prod = c.call.adm.prod ∧ c.call.adm.seq = c.call.adm.seq ∧ c.call.adm.topic = c.call.adm.topic ∧ (true = true ∧ List.length c.call.adm.nodes = List.length c.call.adm.nodes ∧ contLe (List.length c.call.adm.nodes) (1 : Nat) (cellsOf' encI c.call.adm.nodes) (cellsOf' encI c.call.adm.nodes)) ∧ c.call.adm.group = c.call.adm.group ∧ c.call.adm.other = c.call.adm.other ∧ c.call.adm.key = c.call.adm.key ∧ c.call.adm.fr = c.call.adm.fr ∧ c.call.adm.to = c.call.adm.to ∧ c.call.adm.plan = c.call.adm.plan ∧ c.call.adm.step = c.call.adm.step ∧ c.number = c.number ∧ c.route = c.route ∧ c.group = c.group ∧ c.tries = c.tries ∧ c.waited = c.waited ∧ c.again = c.again ∧ c.at' = c.at' ∧ True) ∧ (fdC1 c c) ∧ True) ∧ true = true) ∧ true = true ∧ () = ()))) ∧ (decide ((↑k : Int) < (↑(List.length c.topics) : Int)) = false → (((0 : Nat) = (0 : Nat) ∧ (0 : Nat) = (0 : Nat)) ∧ ((0 : Nat) = (0 : Nat) ∧ (0 : Nat) = (0 : Nat)) ∧ True) ∧ ((c.id = c.id ∧ (false = false ∧ List.length c.servers = List.length c.servers ∧ contLe (List.length c.servers) (1 : Nat) (cellsOf' encI c.servers) (cellsOf' encI c.servers)) ∧ c.prod = c.prod ∧ c.seq = c.seq ∧ (true = true ∧ List.length c.topics = List.length c.topics ∧ contLe (List.length c.topics) (2 : Nat) (cellsOf' encTp c.topics) (cellsOf' encTp c.topics)) ∧ (true = true ∧ List.length c.leaders = List.length c.leaders ∧ contLe (List.length c.leaders) (2 : Nat) (cellsOf' encSi c.leaders) (cellsOf' encSi c.leaders)) ∧ c.busy = c.busy ∧ c.call.kind = c.call.kind ∧ c.call.topic = c.call.topic ∧ c.call.key = c.call.key ∧ (true = true ∧ List.length c.call.val = List.length c.call.val ∧ contLe (List.length c.call.val) (1 : Nat) (cellsOf' encB c.call.val) (cellsOf' encB c.call.val)) ∧ c.call.off = c.call.off ∧ c.call.most = c.call.most ∧ c.call.name = c.call.name ∧ c.call.adm.kind = c.call.adm.kind ∧ c.call.adm.prod = c.call.adm.prod ∧ c.call.adm.seq = c.call.adm.seq ∧ c.call.adm.topic = c.call.adm.topic ∧ (true = true ∧ List.length c.call.adm.nodes = List.length c.call.adm.nodes ∧ contLe (List.length c.call.adm.nodes) (1 : Nat) (cellsOf' encI c.call.adm.nodes) (cellsOf' encI c.call.adm.nodes)) ∧ c.call.adm.group = c.call.adm.group ∧ c.call.adm.other = c.call.adm.other ∧ c.call.adm.key = c.call.adm.key ∧ c.call.adm.fr = c.call.adm.fr ∧ c.call.adm.to = c.call.adm.to ∧ c.call.adm.plan = c.call.adm.plan ∧ c.call.adm.step = c.call.adm.step ∧ c.number = c.number ∧ c.route = c.route ∧ c.group = c.group ∧ c.tries = c.tries ∧ c.waited = c.waited ∧ c.again = c.again ∧ c.at' = c.at' ∧ True) ∧ (fdC1 c c) ∧ True) ∧ true = true)
set_option maxRecDepth 1000000 in
theorem vcVsL_eq (c : Clt) (k : Nat) : (loopVC Tryd.prog (smLH (c.topics.getD k default)) 11 6 (fun k => c.topics.length - k) smT (fun _ => vsM c) [] (fun _ => .ret ()) (vsS c) k) = vcVsL c k := by kernel_rfl
def vcVsL2 (c : Clt) (k : Nat) : Prop :=
  (decide ((↑k : Int) < (↑(List.length c.leaders) : Int)) = true → (true && decide ((↑k : Int) < (↑(List.length c.leaders) : Int))) = true ∧ (true && decide ((↑k : Int) < (↑(List.length c.leaders) : Int))) = true ∧ ((!((List.getD c.leaders (Int.toNat (↑k : Int)) (@default Sit instInhabitedSit)).group == (List.getD c.leaders (Int.toNat (↑k : Int)) (@default Sit instInhabitedSit)).group && ((List.getD c.leaders (Int.toNat (↑k : Int)) (@default Sit instInhabitedSit)).node == (List.getD c.leaders (Int.toNat (↑k : Int)) (@default Sit instInhabitedSit)).node && true))) = true → False) ∧ ((!((List.getD c.leaders (Int.toNat (↑k : Int)) (@default Sit instInhabitedSit)).group == (List.getD c.leaders (Int.toNat (↑k : Int)) (@default Sit instInhabitedSit)).group && ((List.getD c.leaders (Int.toNat (↑k : Int)) (@default Sit instInhabitedSit)).node == (List.getD c.leaders (Int.toNat (↑k : Int)) (@default Sit instInhabitedSit)).node && true))) = false → ∃ (j : Nat), List.length c.leaders - j < List.length c.leaders - k ∧ ((((0 : Nat) = (0 : Nat) ∧ (0 : Nat) = (0 : Nat)) ∧ ((0 : Nat) = (0 : Nat) ∧ (0 : Nat) = (0 : Nat)) ∧ IntKind.wrap IntKind.i64 ((↑k : Int) + (1 : Int)) = (↑j : Int) ∧ True) ∧ ((c.id = c.id ∧ (false = false ∧ List.length c.servers = List.length c.servers ∧ contLe (List.length c.servers) (1 : Nat) (cellsOf' encI c.servers) (cellsOf' encI c.servers)) ∧ c.prod = c.prod ∧ c.seq = c.seq ∧ (true = true ∧ List.length c.topics = List.length c.topics ∧ contLe (List.length c.topics) (2 : Nat) (cellsOf' encTp c.topics) (cellsOf' encTp c.topics)) ∧ (true = true ∧ List.length c.leaders = List.length c.leaders ∧ contLe (List.length c.leaders) (2 : Nat) (cellsOf' encSi c.leaders) (cellsOf' encSi c.leaders)) ∧ c.busy = c.busy ∧ c.call.kind = c.call.kind ∧ c.call.topic = c.call.topic ∧ c.call.key = c.call.key ∧ (true = true ∧ List.length c.call.val = List.length c.call.val ∧ contLe (List.length c.call.val) (1 : Nat) (cellsOf' encB c.call.val) (cellsOf' encB c.call.val)) ∧ c.call.off = c.call.off ∧ c.call.most = c.call.most ∧ c.call.name = c.call.name ∧ c.call.adm.kind = c.call.adm.kind ∧ c.call.adm.prod = c.call.adm.prod ∧ c.call.adm.seq = c.call.adm.seq ∧ c.call.adm.topic = c.call.adm.topic ∧ (true = true ∧ List.length c.call.adm.nodes = List.length c.call.adm.nodes ∧ contLe (List.length c.call.adm.nodes) (1 : Nat) (cellsOf' encI c.call.adm.nodes) (cellsOf' encI c.call.adm.nodes)) ∧ c.call.adm.group = c.call.adm.group ∧ c.call.adm.other = c.call.adm.other ∧ c.call.adm.key = c.call.adm.key ∧ c.call.adm.fr = c.call.adm.fr ∧ c.call.adm.to = c.call.adm.to ∧ c.call.adm.plan = c.call.adm.plan ∧ c.call.adm.step = c.call.adm.step ∧ c.number = c.number ∧ c.route = c.route ∧ c.group = c.group ∧ c.tries = c.tries ∧ c.waited = c.waited ∧ c.again = c.again ∧ c.at' = c.at' ∧ True) ∧ (fdC1 c c) ∧ True) ∧ true = true) ∧ true = true ∧ () = ())) ∧ (decide ((↑k : Int) < (↑(List.length c.leaders) : Int)) = false → (((0 : Nat) = (0 : Nat) ∧ (0 : Nat) = (0 : Nat)) ∧ ((0 : Nat) = (0 : Nat) ∧ (0 : Nat) = (0 : Nat)) ∧ True) ∧ ((c.id = c.id ∧ (false = false ∧ List.length c.servers = List.length c.servers ∧ contLe (List.length c.servers) (1 : Nat) (cellsOf' encI c.servers) (cellsOf' encI c.servers)) ∧ c.prod = c.prod ∧ c.seq = c.seq ∧ (true = true ∧ List.length c.topics = List.length c.topics ∧ contLe (List.length c.topics) (2 : Nat) (cellsOf' encTp c.topics) (cellsOf' encTp c.topics)) ∧ (true = true ∧ List.length c.leaders = List.length c.leaders ∧ contLe (List.length c.leaders) (2 : Nat) (cellsOf' encSi c.leaders) (cellsOf' encSi c.leaders)) ∧ c.busy = c.busy ∧ c.call.kind = c.call.kind ∧ c.call.topic = c.call.topic ∧ c.call.key = c.call.key ∧ (true = true ∧ List.length c.call.val = List.length c.call.val ∧ contLe (List.length c.call.val) (1 : Nat) (cellsOf' encB c.call.val) (cellsOf' encB c.call.val)) ∧ c.call.off = c.call.off ∧ c.call.most = c.call.most ∧ c.call.name = c.call.name ∧ c.call.adm.kind = c.call.adm.kind ∧ c.call.adm.prod = c.call.adm.prod ∧ c.call.adm.seq = c.call.adm.seq ∧ c.call.adm.topic = c.call.adm.topic ∧ (true = true ∧ List.length c.call.adm.nodes = List.length c.call.adm.nodes ∧ contLe (List.length c.call.adm.nodes) (1 : Nat) (cellsOf' encI c.call.adm.nodes) (cellsOf' encI c.call.adm.nodes)) ∧ c.call.adm.group = c.call.adm.group ∧ c.call.adm.other = c.call.adm.other ∧ c.call.adm.key = c.call.adm.key ∧ c.call.adm.fr = c.call.adm.fr ∧ c.call.adm.to = c.call.adm.to ∧ c.call.adm.plan = c.call.adm.plan ∧ c.call.adm.step = c.call.adm.step ∧ c.number = c.number ∧ c.route = c.route ∧ c.group = c.group ∧ c.tries = c.tries ∧ c.waited = c.waited ∧ c.again = c.again ∧ c.at' = c.at' ∧ True) ∧ (fdC1 c c) ∧ True) ∧ true = true)
set_option maxRecDepth 1000000 in
theorem vcVsL2_eq (c : Clt) (k : Nat) : (loopVC Tryd.prog (hT _) 11 12 (fun k => c.leaders.length - k) smT2 (fun _ => vsM c) [] (fun _ => .ret ()) (vsS2 c) k) = vcVsL2 c k := by kernel_rfl
noncomputable def vsH (c : Clt) : HintsT Tryd.prog := hh _ (lp1 11 6 (jobOf smT (fun _ => vsM c) [] (fun _ => .ret ()) (vsS c) 0) (lp1 11 12 (jobOf smT2 (fun _ => vsM c) [] (fun _ => .ret ()) (vsS2 c) 0) noLp)) (cs1 11 1 4 (sc1C c.call) (cs1 11 2 4 (iqC false true c.servers c.servers) noCs)) noOp
def vcVs (c : Clt) : Prop :=
  ((fdCl c.call c.call) ∧ (fdCl c.call c.call) ∧ True) ∧ True ∧ List.length c.call.adm.nodes ≤ (9223372036854775806 : Nat) ∧ ((false = false ∧ List.length c.servers = List.length c.servers ∧ contLe (List.length c.servers) (1 : Nat) (cellsOf' encI c.servers) (cellsOf' encI c.servers)) ∧ (true = true ∧ List.length c.servers = List.length c.servers ∧ contLe (List.length c.servers) (1 : Nat) (cellsOf' encI c.servers) (cellsOf' encI c.servers)) ∧ True) ∧ True ∧ (List.length c.servers ≤ (9223372036854775806 : Nat) ∧ c.servers = c.servers) ∧ (false = true → false = true ∧ True) ∧ (false = false → (false = true → false = true ∧ True) ∧ (false = false → (((↑(List.length c.topics) : Int) != (↑(List.length c.topics) : Int)) = true → false = true ∧ True) ∧ (((↑(List.length c.topics) : Int) != (↑(List.length c.topics) : Int)) = false → (((↑(List.length c.leaders) : Int) != (↑(List.length c.leaders) : Int)) = true → false = true ∧ True) ∧ (((↑(List.length c.leaders) : Int) != (↑(List.length c.leaders) : Int)) = false → ((((0 : Nat) = (0 : Nat) ∧ (0 : Nat) = (0 : Nat)) ∧ ((0 : Nat) = (0 : Nat) ∧ (0 : Nat) = (0 : Nat)) ∧ (0 : Int) = (0 : Int) ∧ True) ∧ ((c.id = c.id ∧ (false = false ∧ List.length c.servers = List.length c.servers ∧ contLe (List.length c.servers) (1 : Nat) (cellsOf' encI c.servers) (cellsOf' encI c.servers)) ∧ c.prod = c.prod ∧ c.seq = c.seq ∧ (true = true ∧ List.length c.topics = List.length c.topics ∧ contLe (List.length c.topics) (2 : Nat) (cellsOf' encTp c.topics) (cellsOf' encTp c.topics)) ∧ (true = true ∧ List.length c.leaders = List.length c.leaders ∧ contLe (List.length c.leaders) (2 : Nat) (cellsOf' encSi c.leaders) (cellsOf' encSi c.leaders)) ∧ c.busy = c.busy ∧ c.call.kind = c.call.kind ∧ c.call.topic = c.call.topic ∧ c.call.key = c.call.key ∧ (true = true ∧ List.length c.call.val = List.length c.call.val ∧ contLe (List.length c.call.val) (1 : Nat) (cellsOf' encB c.call.val) (cellsOf' encB c.call.val)) ∧ c.call.off = c.call.off ∧ c.call.most = c.call.most ∧ c.call.name = c.call.name ∧ c.call.adm.kind = c.call.adm.kind ∧ c.call.adm.prod = c.call.adm.prod ∧ c.call.adm.seq = c.call.adm.seq ∧ c.call.adm.topic = c.call.adm.topic ∧ (true = true ∧ List.length c.call.adm.nodes = List.length c.call.adm.nodes ∧ contLe (List.length c.call.adm.nodes) (1 : Nat) (cellsOf' encI c.call.adm.nodes) (cellsOf' encI c.call.adm.nodes)) ∧ c.call.adm.group = c.call.adm.group ∧ c.call.adm.other = c.call.adm.other ∧ c.call.adm.key = c.call.adm.key ∧ c.call.adm.fr = c.call.adm.fr ∧ c.call.adm.to = c.call.adm.to ∧ c.call.adm.plan = c.call.adm.plan ∧ c.call.adm.step = c.call.adm.step ∧ c.number = c.number ∧ c.route = c.route ∧ c.group = c.group ∧ c.tries = c.tries ∧ c.waited = c.waited ∧ c.again = c.again ∧ c.at' = c.at' ∧ True) ∧ (fdC1 c c) ∧ True) ∧ true = true) ∧ LoopOk Tryd.prog (11 : Nat) (6 : Nat) (loopAt Tryd.prog (11 : Nat) (6 : Nat)) { t := smT (0 : Nat), m := vsM c, mv := [] : St } (T.map (lout [] (vsS c)) ((fun (x : Nat) => T.ret ()) (0 : Nat))) ∧ ((((0 : Nat) = (0 : Nat) ∧ (0 : Nat) = (0 : Nat)) ∧ ((0 : Nat) = (0 : Nat) ∧ (0 : Nat) = (0 : Nat)) ∧ (0 : Int) = (0 : Int) ∧ True) ∧ ((c.id = c.id ∧ (false = false ∧ List.length c.servers = List.length c.servers ∧ contLe (List.length c.servers) (1 : Nat) (cellsOf' encI c.servers) (cellsOf' encI c.servers)) ∧ c.prod = c.prod ∧ c.seq = c.seq ∧ (true = true ∧ List.length c.topics = List.length c.topics ∧ contLe (List.length c.topics) (2 : Nat) (cellsOf' encTp c.topics) (cellsOf' encTp c.topics)) ∧ (true = true ∧ List.length c.leaders = List.length c.leaders ∧ contLe (List.length c.leaders) (2 : Nat) (cellsOf' encSi c.leaders) (cellsOf' encSi c.leaders)) ∧ c.busy = c.busy ∧ c.call.kind = c.call.kind ∧ c.call.topic = c.call.topic ∧ c.call.key = c.call.key ∧ (true = true ∧ List.length c.call.val = List.length c.call.val ∧ contLe (List.length c.call.val) (1 : Nat) (cellsOf' encB c.call.val) (cellsOf' encB c.call.val)) ∧ c.call.off = c.call.off ∧ c.call.most = c.call.most ∧ c.call.name = c.call.name ∧ c.call.adm.kind = c.call.adm.kind ∧ c.call.adm.prod = c.call.adm.prod ∧ c.call.adm.seq = c.call.adm.seq ∧ c.call.adm.topic = c.call.adm.topic ∧ (true = true ∧ List.length c.call.adm.nodes = List.length c.call.adm.nodes ∧ contLe (List.length c.call.adm.nodes) (1 : Nat) (cellsOf' encI c.call.adm.nodes) (cellsOf' encI c.call.adm.nodes)) ∧ c.call.adm.group = c.call.adm.group ∧ c.call.adm.other = c.call.adm.other ∧ c.call.adm.key = c.call.adm.key ∧ c.call.adm.fr = c.call.adm.fr ∧ c.call.adm.to = c.call.adm.to ∧ c.call.adm.plan = c.call.adm.plan ∧ c.call.adm.step = c.call.adm.step ∧ c.number = c.number ∧ c.route = c.route ∧ c.group = c.group ∧ c.tries = c.tries ∧ c.waited = c.waited ∧ c.again = c.again ∧ c.at' = c.at' ∧ True) ∧ (fdC1 c c) ∧ True) ∧ true = true) ∧ LoopOk Tryd.prog (11 : Nat) (12 : Nat) (loopAt Tryd.prog (11 : Nat) (12 : Nat)) { t := smT2 (0 : Nat), m := vsM c, mv := [] : St } (T.map (lout [] (vsS2 c)) ((fun (x : Nat) => T.ret ()) (0 : Nat))) ∧ ((c.id == c.id) = true → ((c.prod == c.prod) = true → ((c.seq == c.seq) = true → ((c.busy == c.busy) = true → ((c.number == c.number) = true → ((c.route == c.route) = true → ((c.group == c.group) = true → ((c.tries == c.tries) = true → ((c.waited == c.waited) = true → ((c.again == c.again) = true → (c.at' == c.at') = true ∧ True) ∧ ((c.again == c.again) = false → false = true ∧ True)) ∧ ((c.waited == c.waited) = false → false = true ∧ True)) ∧ ((c.tries == c.tries) = false → false = true ∧ True)) ∧ ((c.group == c.group) = false → false = true ∧ True)) ∧ ((c.route == c.route) = false → false = true ∧ True)) ∧ ((c.number == c.number) = false → false = true ∧ True)) ∧ ((c.busy == c.busy) = false → false = true ∧ True)) ∧ ((c.seq == c.seq) = false → false = true ∧ True)) ∧ ((c.prod == c.prod) = false → false = true ∧ True)) ∧ ((c.id == c.id) = false → false = true ∧ True)))))
set_option maxRecDepth 1000000 in
theorem vcVs_eq (c : Clt) : (ctrVC Tryd.prog (vsH c) 11 [.agg (encCv (encIs false c.servers) c), .agg (encC0 true c)] [] (boolR true)) = vcVs c := by kernel_rfl
/-! New -/
noncomputable def noH (id : Int) (l s m : List Int) : HintsT Tryd.prog := withSub (hh _ noLp (cs1 9 1 1 (cloC false l) (cs1 9 2 1 (srG l s) (cs1 9 7 2 (nwHas id false s) (cs1 9 8 1 (cmG s m) (cs1 9 10 2 (cloC false l) noCs))))) noOp) [17, 21]
def noR (c : Clt) (n : Nat) (l : List Int) : T An := .ret (.tup [.agg (encCv (.own 0 1 0 n) c), .s (.int .i64 0)], [.row 3 1 n none (cellsOf' encI l)], [])
def vcNo_q1 (c : Clt) : Prop := (((0 : Int) = c.id ∧ False ∧ (0 : Int) = c.prod ∧ (0 : Int) = c.seq ∧ List.length c.topics = (0 : Nat) ∧ List.length c.leaders = (0 : Nat) ∧ false = c.busy ∧ (0 : Int) = c.call.kind ∧ { data := #[] : ByteArray } = c.call.topic ∧ { data := #[] : ByteArray } = c.call.key ∧ List.length c.call.val = (0 : Nat) ∧ (0 : Int) = c.call.off ∧ (0 : Int) = c.call.most ∧ { data := #[] : ByteArray } = c.call.name ∧ (0 : Int) = c.call.adm.kind ∧ (0 : Int) = c.call.adm.prod ∧ (0 : Int) = c.call.adm.seq ∧ { data := #[] : ByteArray } = c.call.adm.topic ∧ List.length c.call.adm.nodes = (0 : Nat) ∧ (0 : Int) = c.call.adm.group ∧ (0 : Int) = c.call.adm.other ∧ { data := #[] : ByteArray } = c.call.adm.key ∧ (0 : Int) = c.call.adm.fr ∧ (0 : Int) = c.call.adm.to ∧ (0 : Int) = c.call.adm.plan ∧ (0 : Int) = c.call.adm.step ∧ (0 : Int) = c.number ∧ false = c.route ∧ (0 : Int) = c.group ∧ (0 : Int) = c.tries ∧ (0 : Int) = c.waited ∧ false = c.again ∧ (0 : Int) = c.at' ∧ True) ∧ (1 : Int) = (0 : Int) ∧ True)
def vcNo (id : Int) (l : List Int) (s : List Int) (m : List Int) (p : Int) (c : Clt) : Prop :=
  ((false = false ∧ List.length l = List.length l ∧ contLe (List.length l) (1 : Nat) (cellsOf' encI l) (cellsOf' encI l)) ∧ True) ∧ True ∧ List.length l * (8 : Nat) ≤ (140737488355328 : Nat) ∧ (((0 : Nat) = (0 : Nat) ∧ List.length l = List.length l) ∧ True) ∧ ((List.length l = List.length l ∧ contLe (List.length l) (1 : Nat) (cellsOf' encI l) (cellsOf' encI l)) ∧ True) ∧ SrtQ l s ∧ (decide (id < (1 : Int)) = true → (vcNo_q1 c) ∧ False) ∧ (decide (id < (1 : Int)) = false → (decide ((7 : Int) < id) = true → (vcNo_q1 c) ∧ False) ∧ (decide ((7 : Int) < id) = false → (((↑(List.length l) : Int) == (0 : Int)) = true → (vcNo_q1 c) ∧ False) ∧ (((↑(List.length l) : Int) == (0 : Int)) = false → ((p == (0 : Int)) = true → (vcNo_q1 c) ∧ False) ∧ ((p == (0 : Int)) = false → ((false = false ∧ List.length l = List.length s ∧ contLe (List.length l) (1 : Nat) (Ax.rowAt (0 : Nat) (cellsOf' encI s)) (cellsOf' encI s)) ∧ (True ∧ (false = false ∧ (1 : Nat) ≤ (1 : Nat) ∧ cellLe (1 : Nat) (fun (j : Nat) => Ax.get [AV.y (Value.int IntKind.i64 id)] ((0 : Nat) + j)) (Ax.get [AV.y (Value.int IntKind.i64 id)])) ∧ True) ∧ True) ∧ True ∧ (List.length s ≤ (9223372036854775806 : Nat) ∧ ∀ (k : Nat), k < List.length s → True) ∧ true = true ∧ True ∧ (nwAny id s = true → (vcNo_q1 c) ∧ False) ∧ (nwAny id s = false → (((0 : Nat) = (0 : Nat) ∧ List.length l = List.length s) ∧ True) ∧ ((List.length s = List.length s ∧ contLe (List.length s) (1 : Nat) (cellsOf' encI s) (cellsOf' encI s)) ∧ True) ∧ CmpQ s m ∧ (((↑(List.length m) : Int) != (↑(List.length l) : Int)) = true → (vcNo_q1 c) ∧ False) ∧ (((↑(List.length m) : Int) != (↑(List.length l) : Int)) = false → ((false = false ∧ List.length l = List.length l ∧ contLe (List.length l) (1 : Nat) (cellsOf' encI l) (cellsOf' encI l)) ∧ True) ∧ True ∧ List.length l * (8 : Nat) ≤ (140737488355328 : Nat) ∧ ((id = c.id ∧ ((0 : Nat) = (0 : Nat) ∧ List.length l = List.length l) ∧ p = c.prod ∧ (0 : Int) = c.seq ∧ List.length c.topics = (0 : Nat) ∧ List.length c.leaders = (0 : Nat) ∧ false = c.busy ∧ (0 : Int) = c.call.kind ∧ { data := #[] : ByteArray } = c.call.topic ∧ { data := #[] : ByteArray } = c.call.key ∧ List.length c.call.val = (0 : Nat) ∧ (0 : Int) = c.call.off ∧ (0 : Int) = c.call.most ∧ { data := #[] : ByteArray } = c.call.name ∧ (0 : Int) = c.call.adm.kind ∧ (0 : Int) = c.call.adm.prod ∧ (0 : Int) = c.call.adm.seq ∧ { data := #[] : ByteArray } = c.call.adm.topic ∧ List.length c.call.adm.nodes = (0 : Nat) ∧ (0 : Int) = c.call.adm.group ∧ (0 : Int) = c.call.adm.other ∧ { data := #[] : ByteArray } = c.call.adm.key ∧ (0 : Int) = c.call.adm.fr ∧ (0 : Int) = c.call.adm.to ∧ (0 : Int) = c.call.adm.plan ∧ (0 : Int) = c.call.adm.step ∧ (0 : Int) = c.number ∧ false = c.route ∧ (0 : Int) = c.group ∧ (0 : Int) = c.tries ∧ (0 : Int) = c.waited ∧ false = c.again ∧ (0 : Int) = c.at' ∧ True) ∧ (0 : Int) = (0 : Int) ∧ True) ∧ (List.length l = List.length l ∧ contLe (List.length l) (1 : Nat) (cellsOf' encI l) (cellsOf' encI l)) ∧ True))))))
set_option maxRecDepth 1000000 in
theorem vcNo_eq (id : Int) (l : List Int) (s : List Int) (m : List Int) (p : Int) (c : Clt) : (ctrVC Tryd.prog (noH id l s m) 9 [.y (.int .i64 id), encIs false l, .y (.int .u64 p)] [] (noR c l.length l)) = vcNo id l s m p c := by kernel_rfl
/-- the document's answer without an error -/
def anD (c : Clt) (e : AV) : An := (.tup [.agg (encC0 true c), e], [], [])
def vcAd (c : Clt) : Prop :=
  ((fdC1 c c) ∧ (0 : Int) = (0 : Int) ∧ True) ∧ True
set_option maxRecDepth 1000000 in
theorem vcAd_eq (c : Clt) : (anLe (anD c (.y (.int .i64 0))) (anD c (.s (.int .i64 0)))) = vcAd c := by kernel_rfl
end Go.Proofs.YtdpbogaldcpfeaaDoor.C

/-! New, whose servers are its own; a client is like itself. -/
--fold
namespace Go.Proofs.YtdpbogaldcpfeaaDoor.C
open Go.Ax
set_option maxRecDepth 1000000
@[simp] theorem fdC1_r (a : Clt) : fdC1 a a := by
  unfold fdC1
  simp
@[simp] theorem fdCl_r (a : Cal) : fdCl a a := by
  unfold fdCl
  simp
theorem vs_loop (c : Clt) (h : CltIn c) (k : Nat) : LoopOk Tryd.prog 11 6 (loopAt Tryd.prog 11 6) ⟨smT k, vsM c, []⟩ (T.map (lout [] (vsS c)) (.ret ())) := by
  refine loop_vcH (P := Tryd.prog) (f := 11) (k := 6) (ι := Nat) (μ := fun k => c.topics.length - k) (ht := fun k => smLH (c.topics.getD k default)) (stT := smT) (stM := fun _ => vsM c) (X := []) (o := fun _ => .ret ()) (S := vsS c) Tryd.mixed (fun _ => rfl) (fun k => ?_) k
  rw [vcVsL_eq c k]
  unfold vcVsL
  have hl := h.t
  by_cases hk : k < c.topics.length
  · have hz : decide ((k : Int) < c.topics.length) = true := by simp; omega
    have hw : IntKind.i64.wrap ((k : Int) + 1) = ((k + 1 : Nat) : Int) := by rw [wrap_i64 (by omega) (by omega)]; omega
    have h1 := h.h (c.topics.getD k default) (by simp [hk])
    rw [Int.toNat_natCast]
    simp only [hz, hw]
    generalize c.topics.getD k default = t at *
    simp [h1, hk]
    exact ⟨k + 1, by omega, by omega⟩
  · have hz : decide ((k : Int) < c.topics.length) = false := by simp; omega
    simp only [hz]
    simp
theorem vs_loop2 (c : Clt) (h : CltIn c) (k : Nat) : LoopOk Tryd.prog 11 12 (loopAt Tryd.prog 11 12) ⟨smT2 k, vsM c, []⟩ (T.map (lout [] (vsS2 c)) (.ret ())) := by
  refine loop_vcH (P := Tryd.prog) (f := 11) (k := 12) (ι := Nat) (μ := fun k => c.leaders.length - k) (ht := fun _ => hT _) (stT := smT2) (stM := fun _ => vsM c) (X := []) (o := fun _ => .ret ()) (S := vsS2 c) Tryd.mixed (fun _ => rfl) (fun k => ?_) k
  rw [vcVsL2_eq c k]
  unfold vcVsL2
  have hl := h.l
  by_cases hk : k < c.leaders.length
  · have hz : decide ((k : Int) < c.leaders.length) = true := by simp; omega
    have hw : IntKind.i64.wrap ((k : Int) + 1) = ((k + 1 : Nat) : Int) := by rw [wrap_i64 (by omega) (by omega)]; omega
    rw [Int.toNat_natCast]
    simp only [hz, hw]
    generalize c.leaders.getD k default = t at *
    simp [hk]
    exact ⟨k + 1, by omega, by omega⟩
  · have hz : decide ((k : Int) < c.leaders.length) = false := by simp; omega
    simp only [hz]
    simp
theorem vs_c (c : Clt) (h : CltIn c) : (boolR true).Sat (ACall' Tryd.prog 11 [.agg (encCv (encIs false c.servers) c), .agg (encC0 true c)] []) := by
  refine ctr_vc (ht := vsH c) Tryd.mixed rfl ?_
  rw [vcVs_eq c]
  unfold vcVs
  have l1 := vs_loop c h 0
  have l2 := vs_loop2 c h 0
  simp [h.a, h.s, l1, l2]
noncomputable def vsC (a c : Clt) : Ctr Tryd.prog := ⟨11, [.agg (encCv (encIs false a.servers) a), .agg (encC0 true c)], [], .need (SmeQ a c) (boolR true), T.Sat.need fun h => by obtain ⟨h1, rfl⟩ := h; exact vs_c a h1⟩
/-! New -/
structure NoQ (id : Int) (l : List Int) (p : Int) (c : Clt) : Prop where
  b : newB id l p = true
  c : c = newQ id l p
  n : l.length * 8 ≤ 140737488355328
theorem no_c (id : Int) (l : List Int) (p : Int) (c : Clt) (h : NoQ id l p c) : (noR c l.length l).Sat (ACall' Tryd.prog 9 [.y (.int .i64 id), encIs false l, .y (.int .u64 p)] []) := by
  refine ctr_vc (ht := noH id l (srt l) (Lib.compact (srt l))) Tryd.mixed rfl ?_
  rw [vcNo_eq id l (srt l) (Lib.compact (srt l)) p c]
  unfold vcNo vcNo_q1
  obtain ⟨hb, rfl, hn⟩ := h
  have hsl := srt_len l
  have q1 : SrtQ l (srt l) := ⟨rfl, by omega⟩
  unfold newB at hb
  simp only [Bool.and_eq_true, Bool.not_eq_true', decide_eq_false_iff_not, beq_eq_false_iff_ne, beq_iff_eq, ne_eq] at hb
  obtain ⟨h1, h2, h3, h4, h5, h6⟩ := hb
  have q2 : CmpQ (srt l) (Lib.compact (srt l)) := ⟨rfl, by omega, by omega⟩
  have h3' : ¬ l = [] := fun e => h3 (by rw [e]; rfl)
  generalize srt l = s at *
  simp [hn, q1, q2, h1, h2, h3', h4, h5, h6, hsl]
  repeat' apply And.intro
  all_goals first | rfl | exact contLe_refl _ _ _ | omega
noncomputable def noC (id : Int) (l : List Int) (p : Int) (c : Clt) : Ctr Tryd.prog := ⟨9, [.y (.int .i64 id), encIs false l, .y (.int .u64 p)], [], .need (NoQ id l p c) (noR c l.length l), T.Sat.need fun h => no_c id l p c h⟩
theorem rnz_c (id : Int) (l : List Int) (p : Int) (c : Clt) (h : RfQ id l p c 0) : (T.ret (anD c (.s (.int .i64 0))) : T An).Sat (ACall' Tryd.prog 10 [.y (.int .i64 id), encIs true l, .y (.int .u64 p)] []) := by
  have h4 : (T.ret (anD c (.y (.int .i64 0))) : T An).Sat (ACall' Tryd.prog 10 [.y (.int .i64 id), encIs true l, .y (.int .u64 p)] []) := rn_c id l p c 0 h
  have h5 : ACall' Tryd.prog 10 [.y (.int .i64 id), encIs true l, .y (.int .u64 p)] [] (anD c (.s (.int .i64 0))) := by
    refine anLe_ok (of_ret h4) ?_
    rw [vcAd_eq c]
    unfold vcAd
    simp
  exact T.Sat.ret h5
noncomputable def rnZ (id : Int) (l : List Int) (p : Int) (c : Clt) : Ctr Tryd.prog := ⟨10, [.y (.int .i64 id), encIs true l, .y (.int .u64 p)], [], .need (RfQ id l p c 0) (.ret (anD c (.s (.int .i64 0)))), T.Sat.need fun h => rnz_c id l p c h⟩
end Go.Proofs.YtdpbogaldcpfeaaDoor.C
