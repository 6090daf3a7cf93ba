import Derived.Test.YtccfojpdkbaekaaProg
import Derived.KernelRfl
import Derived.Test.YtccfojpdkbaekaaE11
set_option linter.unusedVariables false
set_option linter.unusedSimpArgs false
set_option linter.unusedSectionVars false
namespace Go.Proofs.Ytccfojpdkbaekaa
open Go.Ax
end Go.Proofs.Ytccfojpdkbaekaa

namespace Go.Proofs.Ytccfojpdkbaekaa.W
open Go.Ax
set_option maxRecDepth 1000000
structure Ent where
  idx : Int
  term : Int
  kind : Int
  data : List Int
  vot : List Int
  lea : List Int
structure Snp where
  idx : Int
  term : Int
  vot : List Int
  lea : List Int
  data : List Int
structure Grp where
  ht : Int
  hv : Int
  hc : Int
  base : Snp
  ents : List Ent
  gone : Bool
  first : List Int
structure Itm where
  kind : Int
  group : Int
  ent : Ent
  ht : Int
  hv : Int
  hc : Int
  index : Int
  snap : Snp
instance : Inhabited Ent := ⟨⟨0, 0, 0, [], [], []⟩⟩
instance : Inhabited Snp := ⟨⟨0, 0, [], [], []⟩⟩
instance : Inhabited Grp := ⟨⟨0, 0, 0, default, [], false, []⟩⟩
instance : Inhabited Itm := ⟨⟨0, 0, default, 0, 0, 0, 0, default⟩⟩
def jX9 : List Nat := [0, 1, 2, 3, 4, 5, 6, 7, 8, 9]
theorem Try.mixed : Try.prog.follows .mixedOrders = true := by kernel_rfl
def encB (x : Int) : List AV := [.y (.int .u8 x)]
def encI (x : Int) : List AV := [.y (.int .i64 x)]
def encBs (b : Bool) (l : List Int) : AV := .ys b 1 l.length (cellsOf' encB l)
def encIs (b : Bool) (l : List Int) : AV := .ys b 1 l.length (cellsOf' encI l)
def encE (x : Ent) : List AV := [.y (.int .u64 x.idx), .y (.int .u64 x.term), .y (.int .i64 x.kind), encBs true x.data, encIs true x.vot, encIs true x.lea]
def encS (x : Snp) : List AV := [.y (.int .u64 x.idx), .y (.int .u64 x.term), encIs true x.vot, encIs true x.lea, encBs true x.data]
def encEs (b : Bool) (l : List Ent) : AV := .ys b 6 l.length (cellsOf' encE l)
def rowE (l : List Ent) : Blk := .row 45 6 l.length none (cellsOf' encE l)
def encV (es : AV) (g : Grp) : List AV := [.y (.int .u64 g.ht), .y (.int .i64 g.hv), .y (.int .u64 g.hc)] ++ encS g.base ++ [es, .y (.bool g.gone)]
def encIt (i : Itm) : List AV := [.y (.int .i64 i.kind), .y (.int .u64 i.group)] ++ encE i.ent ++ [.y (.int .u64 i.ht), .y (.int .i64 i.hv), .y (.int .u64 i.hc), .y (.int .u64 i.index)] ++ encS i.snap
def clfR (n : Nat) (c : Nat → Nat → AV) : T An := .ret (.ys true 1 n c, [], [])
noncomputable def clfI : HintsT Try.prog := withSh (hT _) (sh1 56 3 3 779 noSh)
def vcCi0 (n : Nat) (c : Nat → Nat → AV) : Prop :=
  n = (0 : Nat) ∧ True
theorem vcCi0_eq (n : Nat) (c : Nat → Nat → AV) : (ctrVC Try.prog clfI 56 [.s (.slice none 0 0)] [] (clfR n c)) = vcCi0 n c := by kernel_rfl
def vcCi1 (b : Bool) (n : Nat) (c : Nat → Nat → AV) : Prop :=
  (decide ((0 : Nat) + n ≤ (9223372036854775807 : Nat)) && decide (((0 : Nat) + n) * (8 : Nat) ≤ (140737488355328 : Nat))) = true ∧ (∀ (k : Nat), k < (0 : Nat) + n → ∀ (j : Nat), j < (1 : Nat) → tagT (appRow (0 : Nat) (fun (k j : Nat) => AV.junk) c k j) = true) ∧ (true = true ∧ (0 : Nat) + n = n ∧ contLe ((0 : Nat) + n) (1 : Nat) (Ax.rowAt (0 : Nat) (appRow (0 : Nat) (fun (k j : Nat) => AV.junk) c)) c) ∧ True
theorem vcCi1_eq (b : Bool) (n : Nat) (c : Nat → Nat → AV) : (ctrVC Try.prog clfI 56 [.yn b 1 n c] [] (clfR n c)) = vcCi1 b n c := by kernel_rfl
noncomputable def clfB : HintsT Try.prog := withSh (hT _) (sh1 43 3 3 779 noSh)
def vcCb0 (n : Nat) (c : Nat → Nat → AV) : Prop :=
  n = (0 : Nat) ∧ True
theorem vcCb0_eq (n : Nat) (c : Nat → Nat → AV) : (ctrVC Try.prog clfB 43 [.s (.slice none 0 0)] [] (clfR n c)) = vcCb0 n c := by kernel_rfl
def vcCb1 (b : Bool) (n : Nat) (c : Nat → Nat → AV) : Prop :=
  (decide ((0 : Nat) + n ≤ (9223372036854775807 : Nat)) && decide (((0 : Nat) + n) * (1 : Nat) ≤ (140737488355328 : Nat))) = true ∧ (∀ (k : Nat), k < (0 : Nat) + n → ∀ (j : Nat), j < (1 : Nat) → tagT (appRow (0 : Nat) (fun (k j : Nat) => AV.junk) c k j) = true) ∧ (true = true ∧ (0 : Nat) + n = n ∧ contLe ((0 : Nat) + n) (1 : Nat) (Ax.rowAt (0 : Nat) (appRow (0 : Nat) (fun (k j : Nat) => AV.junk) c)) c) ∧ True
theorem vcCb1_eq (b : Bool) (n : Nat) (c : Nat → Nat → AV) : (ctrVC Try.prog clfB 43 [.yn b 1 n c] [] (clfR n c)) = vcCb1 b n c := by kernel_rfl
theorem cli_c (b : Bool) (n : Nat) (c : Nat → Nat → AV) (ht : ∀ k, k < n → tagT (c k 0) = true) (hl : n * 8 ≤ 140737488355328) : (clfR n c).Sat (ACall' Try.prog 56 [.ys b 1 n c] []) := by
  refine nil_cases (pre := []) (post := []) (fun h0 => ?_) ?_ ⟨_, rfl⟩
  · refine ctr_vc (ht := clfI) Try.mixed rfl ?_
    rw [List.nil_append, vcCi0_eq n c]
    unfold vcCi0
    simp [h0]
  · refine ctr_vc (ht := clfI) Try.mixed rfl ?_
    rw [List.nil_append, vcCi1_eq b n c]
    unfold vcCi1
    simp
    exact ⟨⟨by omega, hl⟩, ht⟩
theorem clb_c (b : Bool) (n : Nat) (c : Nat → Nat → AV) (ht : ∀ k, k < n → tagT (c k 0) = true) (hl : n ≤ 140737488355328) : (clfR n c).Sat (ACall' Try.prog 43 [.ys b 1 n c] []) := by
  refine nil_cases (pre := []) (post := []) (fun h0 => ?_) ?_ ⟨_, rfl⟩
  · refine ctr_vc (ht := clfB) Try.mixed rfl ?_
    rw [List.nil_append, vcCb0_eq n c]
    unfold vcCb0
    simp [h0]
  · refine ctr_vc (ht := clfB) Try.mixed rfl ?_
    rw [List.nil_append, vcCb1_eq b n c]
    unfold vcCb1
    simp
    exact ⟨⟨by omega, hl⟩, ht⟩
noncomputable def cliC (b : Bool) (l : List Int) : Ctr Try.prog := ⟨56, [encIs b l], [], .need (l.length * 8 ≤ 140737488355328) (clfR l.length (cellsOf' encI l)), T.Sat.need fun h => cli_c b _ _ (fun _ _ => rfl) h⟩
noncomputable def clbC (b : Bool) (l : List Int) : Ctr Try.prog := ⟨43, [encBs b l], [], .need (l.length ≤ 140737488355328) (clfR l.length (cellsOf' encB l)), T.Sat.need fun h => clb_c b _ _ (fun _ _ => rfl) h⟩
structure CnfOk (v l : List Int) : Prop where
  v : v.length * 8 ≤ 140737488355328
  l : l.length * 8 ≤ 140737488355328
structure EntOk (e : Ent) : Prop where
  c : CnfOk e.vot e.lea
  d : e.data.length ≤ 140737488355328
structure SnpOk (e : Snp) : Prop where
  c : CnfOk e.vot e.lea
  d : e.data.length ≤ 140737488355328
def cnfR (v l : List Int) : T An := .ret (.agg [encIs true v, encIs true l], [], [])
noncomputable def cnfH (v l : List Int) : HintsT Try.prog := hh _ noLp (cs1 44 1 2 (cliC true v) (cs1 44 1 5 (cliC true l) noCs)) noOp
def vcCnf (v l : List Int) : Prop :=
  ((true = true ∧ List.length v = List.length v ∧ contLe (List.length v) (1 : Nat) (cellsOf' encI v) (cellsOf' encI v)) ∧ True) ∧ True ∧ List.length v * (8 : Nat) ≤ (140737488355328 : Nat) ∧ ((true = true ∧ List.length l = List.length l ∧ contLe (List.length l) (1 : Nat) (cellsOf' encI l) (cellsOf' encI l)) ∧ True) ∧ True ∧ List.length l * (8 : Nat) ≤ (140737488355328 : Nat) ∧ ((true = true ∧ List.length v = List.length v ∧ contLe (List.length v) (1 : Nat) (cellsOf' encI v) (cellsOf' encI v)) ∧ (true = true ∧ List.length l = List.length l ∧ contLe (List.length l) (1 : Nat) (cellsOf' encI l) (cellsOf' encI l)) ∧ True) ∧ True
theorem vcCnf_eq (v l : List Int) : (ctrVC Try.prog (cnfH v l) 44 [.agg [encIs true v, encIs true l]] [] (cnfR v l)) = vcCnf v l := by kernel_rfl
theorem cnf_c (v l : List Int) (h : CnfOk v l) : (cnfR v l).Sat (ACall' Try.prog 44 [.agg [encIs true v, encIs true l]] []) := by
  refine ctr_vc (ht := cnfH v l) Try.mixed rfl ?_
  rw [vcCnf_eq v l]
  unfold vcCnf
  simp [h.v, h.l]
noncomputable def cnfC (v l : List Int) : Ctr Try.prog := ⟨44, [.agg [encIs true v, encIs true l]], [], .need (CnfOk v l) (cnfR v l), T.Sat.need fun h => cnf_c v l h⟩
def entR (e : Ent) : T An := .ret (.agg (encE e), [], [])
noncomputable def entH (e : Ent) : HintsT Try.prog := hh _ noLp (cs1 45 1 2 (clbC true e.data) (cs1 45 1 5 (cnfC e.vot e.lea) noCs)) noOp
def vcEnt (e : Ent) : Prop :=
  ((true = true ∧ List.length e.data = List.length e.data ∧ contLe (List.length e.data) (1 : Nat) (cellsOf' encB e.data) (cellsOf' encB e.data)) ∧ True) ∧ True ∧ List.length e.data ≤ (140737488355328 : Nat) ∧ (((true = true ∧ List.length e.vot = List.length e.vot ∧ contLe (List.length e.vot) (1 : Nat) (cellsOf' encI e.vot) (cellsOf' encI e.vot)) ∧ (true = true ∧ List.length e.lea = List.length e.lea ∧ contLe (List.length e.lea) (1 : Nat) (cellsOf' encI e.lea) (cellsOf' encI e.lea)) ∧ True) ∧ True) ∧ True ∧ CnfOk e.vot e.lea ∧ (e.idx = e.idx ∧ e.term = e.term ∧ e.kind = e.kind ∧ (true = true ∧ List.length e.data = List.length e.data ∧ contLe (List.length e.data) (1 : Nat) (cellsOf' encB e.data) (cellsOf' encB e.data)) ∧ (true = true ∧ List.length e.vot = List.length e.vot ∧ contLe (List.length e.vot) (1 : Nat) (cellsOf' encI e.vot) (cellsOf' encI e.vot)) ∧ (true = true ∧ List.length e.lea = List.length e.lea ∧ contLe (List.length e.lea) (1 : Nat) (cellsOf' encI e.lea) (cellsOf' encI e.lea)) ∧ True) ∧ True
theorem vcEnt_eq (e : Ent) : (ctrVC Try.prog (entH e) 45 [.agg (encE e)] [] (entR e)) = vcEnt e := by kernel_rfl
theorem ent_c (e : Ent) (h : EntOk e) : (entR e).Sat (ACall' Try.prog 45 [.agg (encE e)] []) := by
  refine ctr_vc (ht := entH e) Try.mixed rfl ?_
  rw [vcEnt_eq e]
  unfold vcEnt
  simp [h.c, h.d]
noncomputable def entC (e : Ent) : Ctr Try.prog := ⟨45, [.agg (encE e)], [], .need (EntOk e) (entR e), T.Sat.need fun h => ent_c e h⟩
def snpR (e : Snp) : T An := .ret (.agg (encS e), [], [])
noncomputable def snpH (e : Snp) : HintsT Try.prog := hh _ noLp (cs1 23 1 2 (clbC true e.data) (cs1 23 1 5 (cnfC e.vot e.lea) noCs)) noOp
def vcSnp (e : Snp) : Prop :=
  ((true = true ∧ List.length e.data = List.length e.data ∧ contLe (List.length e.data) (1 : Nat) (cellsOf' encB e.data) (cellsOf' encB e.data)) ∧ True) ∧ True ∧ List.length e.data ≤ (140737488355328 : Nat) ∧ (((true = true ∧ List.length e.vot = List.length e.vot ∧ contLe (List.length e.vot) (1 : Nat) (cellsOf' encI e.vot) (cellsOf' encI e.vot)) ∧ (true = true ∧ List.length e.lea = List.length e.lea ∧ contLe (List.length e.lea) (1 : Nat) (cellsOf' encI e.lea) (cellsOf' encI e.lea)) ∧ True) ∧ True) ∧ True ∧ CnfOk e.vot e.lea ∧ (e.idx = e.idx ∧ e.term = e.term ∧ (true = true ∧ List.length e.vot = List.length e.vot ∧ contLe (List.length e.vot) (1 : Nat) (cellsOf' encI e.vot) (cellsOf' encI e.vot)) ∧ (true = true ∧ List.length e.lea = List.length e.lea ∧ contLe (List.length e.lea) (1 : Nat) (cellsOf' encI e.lea) (cellsOf' encI e.lea)) ∧ (true = true ∧ List.length e.data = List.length e.data ∧ contLe (List.length e.data) (1 : Nat) (cellsOf' encB e.data) (cellsOf' encB e.data)) ∧ True) ∧ True
theorem vcSnp_eq (e : Snp) : (ctrVC Try.prog (snpH e) 23 [.agg (encS e)] [] (snpR e)) = vcSnp e := by kernel_rfl
theorem snp_c (e : Snp) (h : SnpOk e) : (snpR e).Sat (ACall' Try.prog 23 [.agg (encS e)] []) := by
  refine ctr_vc (ht := snpH e) Try.mixed rfl ?_
  rw [vcSnp_eq e]
  unfold vcSnp
  simp [h.c, h.d]
noncomputable def snpC (e : Snp) : Ctr Try.prog := ⟨23, [.agg (encS e)], [], .need (SnpOk e) (snpR e), T.Sat.need fun h => snp_c e h⟩
end Go.Proofs.Ytccfojpdkbaekaa.W

namespace Go.Proofs.Ytccfojpdkbaekaa.W
open Go.Ax
set_option maxRecDepth 1000000
structure EntsOk (l : List Ent) : Prop where
  n : l.length * 96 ≤ 140737488355328
  e : ∀ x ∈ l, EntOk x
theorem EntsOk.getD {l : List Ent} (h : EntsOk l) (k : Nat) : EntOk (l.getD k default) := by
  rcases Nat.lt_or_ge k l.length with hk | hk
  · rw [List.getD_eq_getElem?_getD, List.getElem?_eq_getElem hk]
    exact h.e _ (List.getElem_mem hk)
  · rw [List.getD_eq_getElem?_getD, List.getElem?_eq_none hk]
    exact ⟨⟨by simp [default], by simp [default]⟩, by simp [default]⟩
def esT (b : Bool) (l : List Ent) (k : Nat) : List AV := mkT 22 [(3, .own 0 6 0 (l.take k).length), (9, encEs b l), (10, .y (.int .i64 l.length)), (11, .y (.int .i64 k))]
def esS (l : List Ent) (_ : Unit) : Exit × List AV × List Blk := (.exit 0, mkT 22 [(3, .own 0 6 0 l.length)], [rowE l])
noncomputable def esLH (l : List Ent) (k : Nat) : HintsT Try.prog := hh _ noLp (cs1 24 5 2 (entC (l.getD k default)) noCs) noOp
def vcEsL (b : Bool) (l : List Ent) (k : Nat) : Prop :=
  (decide ((↑k : Int) < (↑(List.length l) : Int)) = true → (true && decide ((↑k : Int) < (↑(List.length l) : Int))) = true ∧ (((List.getD l (Int.toNat (↑k : Int)) (@default Ent instInhabitedEnt)).idx = (List.getD l k (@default Ent instInhabitedEnt)).idx ∧ (List.getD l (Int.toNat (↑k : Int)) (@default Ent instInhabitedEnt)).term = (List.getD l k (@default Ent instInhabitedEnt)).term ∧ (List.getD l (Int.toNat (↑k : Int)) (@default Ent instInhabitedEnt)).kind = (List.getD l k (@default Ent instInhabitedEnt)).kind ∧ (true = true ∧ List.length (List.getD l (Int.toNat (↑k : Int)) (@default Ent instInhabitedEnt)).data = List.length (List.getD l k (@default Ent instInhabitedEnt)).data ∧ contLe (List.length (List.getD l (Int.toNat (↑k : Int)) (@default Ent instInhabitedEnt)).data) (1 : Nat) (cellsOf' encB (List.getD l (Int.toNat (↑k : Int)) (@default Ent instInhabitedEnt)).data) (cellsOf' encB (List.getD l k (@default Ent instInhabitedEnt)).data)) ∧ (true = true ∧ List.length (List.getD l (Int.toNat (↑k : Int)) (@default Ent instInhabitedEnt)).vot = List.length (List.getD l k (@default Ent instInhabitedEnt)).vot ∧ contLe (List.length (List.getD l (Int.toNat (↑k : Int)) (@default Ent instInhabitedEnt)).vot) (1 : Nat) (cellsOf' encI (List.getD l (Int.toNat (↑k : Int)) (@default Ent instInhabitedEnt)).vot) (cellsOf' encI (List.getD l k (@default Ent instInhabitedEnt)).vot)) ∧ (true = true ∧ List.length (List.getD l (Int.toNat (↑k : Int)) (@default Ent instInhabitedEnt)).lea = List.length (List.getD l k (@default Ent instInhabitedEnt)).lea ∧ contLe (List.length (List.getD l (Int.toNat (↑k : Int)) (@default Ent instInhabitedEnt)).lea) (1 : Nat) (cellsOf' encI (List.getD l (Int.toNat (↑k : Int)) (@default Ent instInhabitedEnt)).lea) (cellsOf' encI (List.getD l k (@default Ent instInhabitedEnt)).lea)) ∧ True) ∧ True) ∧ True ∧ EntOk (List.getD l k (@default Ent instInhabitedEnt)) ∧ (decide (List.length (List.take k l) = List.length (List.take k l)) && decide (List.length (List.take k l) + (1 : Nat) ≤ (9223372036854775807 : Nat)) && decide ((List.length (List.take k l) + (1 : Nat)) * (96 : Nat) ≤ (140737488355328 : Nat))) = true ∧ ∃ (j : Nat), List.length l - j < List.length l - k ∧ ((((0 : Nat) = (0 : Nat) ∧ List.length (List.take k l) + (1 : Nat) = List.length (List.take j l)) ∧ (b = b ∧ List.length l = List.length l ∧ contLe (List.length l) (6 : Nat) (cellsOf' encE l) (cellsOf' encE l)) ∧ (↑(List.length l) : Int) = (↑(List.length l) : Int) ∧ IntKind.wrap IntKind.i64 ((↑k : Int) + (1 : Int)) = (↑j : Int) ∧ True) ∧ ((List.length (List.take k l) + (1 : Nat) = List.length (List.take j l) ∧ contLe (List.length (List.take k l) + (1 : Nat)) (6 : Nat) (appRow (List.length (List.take k l)) (cellsOf' encE (List.take k l)) fun (k_1 j : Nat) => Ax.get [AV.y (Value.int IntKind.u64 (List.getD l k (@default Ent instInhabitedEnt)).idx), AV.y (Value.int IntKind.u64 (List.getD l k (@default Ent instInhabitedEnt)).term), AV.y (Value.int IntKind.i64 (List.getD l k (@default Ent instInhabitedEnt)).kind), AV.ys true (1 : Nat) (List.length (List.getD l k (@default Ent instInhabitedEnt)).data) (cellsOf' encB (List.getD l k (@default Ent instInhabitedEnt)).data), AV.ys true (1 : Nat) (List.length (List.getD l k (@default Ent instInhabitedEnt)).vot) (cellsOf' encI (List.getD l k (@default Ent instInhabitedEnt)).vot), AV.ys true (1 : Nat) (List.length (List.getD l k (@default Ent instInhabitedEnt)).lea) (cellsOf' encI (List.getD l k (@default Ent instInhabitedEnt)).lea)] (k_1 * (6 : Nat) + j)) (cellsOf' encE (List.take j l))) ∧ True) ∧ true = true) ∧ true = true ∧ () = ()) ∧ (decide ((↑k : Int) < (↑(List.length l) : Int)) = false → (((0 : Nat) = (0 : Nat) ∧ List.length (List.take k l) = List.length l) ∧ True) ∧ ((List.length (List.take k l) = List.length l ∧ contLe (List.length (List.take k l)) (6 : Nat) (cellsOf' encE (List.take k l)) (cellsOf' encE l)) ∧ True) ∧ true = true)
theorem vcEsL_eq (b : Bool) (l : List Ent) (k : Nat) : (loopVC Try.prog (esLH l k) 24 3 (fun k => l.length - k) (esT b l) (fun k => [rowE (l.take k)]) jX9 (fun _ => .ret ()) (esS l) k) = vcEsL b l k := by kernel_rfl
noncomputable def esH (b : Bool) (l : List Ent) : HintsT Try.prog := withSh (hh _ (lp1 24 3 (jobOf (esT b l) (fun k => [rowE (l.take k)]) jX9 (fun _ => .ret ()) (esS l) 0) noLp) noCs noOp) (sh1 24 7 0 779 noSh)
def esR (l : List Ent) : T An := .ret (encEs true l, [], [])
def vcEs (b : Bool) (l : List Ent) : Prop :=
  (0 : Int) ≤ (0 : Int) ∧ (0 : Int) ≤ (↑(List.length l) : Int) ∧ (96 : Int) * (↑(List.length l) : Int) ≤ (281474976710656 : Int) ∧ (↑(List.length l) : Int) ≤ (9223372036854775807 : Int) ∧ ((((0 : Nat) = (0 : Nat) ∧ (0 : Nat) = (0 : Nat)) ∧ (b = b ∧ List.length l = List.length l ∧ contLe (List.length l) (6 : Nat) (cellsOf' encE l) (cellsOf' encE l)) ∧ (↑(List.length l) : Int) = (↑(List.length l) : Int) ∧ (0 : Int) = (0 : Int) ∧ True) ∧ (((0 : Nat) = (0 : Nat) ∧ contLe (0 : Nat) (6 : Nat) (fun (x j : Nat) => Ax.get [AV.s (Value.int IntKind.u64 (0 : Int)), AV.s (Value.int IntKind.u64 (0 : Int)), AV.s (Value.int IntKind.i64 (0 : Int)), AV.s (Value.slice none (0 : Nat) (0 : Nat)), AV.s (Value.slice none (0 : Nat) (0 : Nat)), AV.s (Value.slice none (0 : Nat) (0 : Nat))] j) (cellsOf' encE [])) ∧ True) ∧ true = true) ∧ LoopOk Try.prog (24 : Nat) (3 : Nat) (loopAt Try.prog (24 : Nat) (3 : Nat)) { t := esT b l (0 : Nat), m := [rowE (List.take (0 : Nat) l)], mv := [] : St } (T.map (lout jX9 (esS l)) ((fun (x : Nat) => T.ret ()) (0 : Nat))) ∧ (∀ (k : Nat), k < List.length l → ∀ (j : Nat), j < (6 : Nat) → tagT (cellsOf' encE l k j) = true) ∧ (true = true ∧ List.length l = List.length l ∧ contLe (List.length l) (6 : Nat) (Ax.rowAt (0 : Nat) (cellsOf' encE l)) (cellsOf' encE l)) ∧ True
theorem vcEs_eq (b : Bool) (l : List Ent) : (ctrVC Try.prog (esH b l) 24 [encEs b l] [] (esR l)) = vcEs b l := by kernel_rfl
def clR (l : List Ent) : T An := .ret (.own 0 6 0 l.length, [rowE l], [])
noncomputable def clH : HintsT Try.prog := hh _ noLp noCs (op1 58 2 0 (.row 45 6) noOp)
def vcCl0 (l : List Ent) : Prop :=
  ((0 : Nat) = (0 : Nat) ∧ (0 : Nat) = List.length l) ∧ ((0 : Nat) = List.length l ∧ contLe (0 : Nat) (6 : Nat) (fun (x x_1 : Nat) => AV.junk) (cellsOf' encE l)) ∧ True
theorem vcCl0_eq (l : List Ent) : (ctrVC Try.prog clH 58 [.s (.slice none 0 0)] [] (clR l)) = vcCl0 l := by kernel_rfl
def vcCl1 (b : Bool) (l : List Ent) : Prop :=
  (decide ((0 : Nat) + List.length l ≤ (9223372036854775807 : Nat)) && decide (((0 : Nat) + List.length l) * (96 : Nat) ≤ (140737488355328 : Nat))) = true ∧ ((0 : Nat) = (0 : Nat) ∧ (0 : Nat) + List.length l = List.length l) ∧ ((0 : Nat) + List.length l = List.length l ∧ contLe ((0 : Nat) + List.length l) (6 : Nat) (appRow (0 : Nat) (fun (k j : Nat) => AV.junk) (cellsOf' encE l)) (cellsOf' encE l)) ∧ True
theorem vcCl1_eq (b : Bool) (l : List Ent) : (ctrVC Try.prog clH 58 [.yn b 6 l.length (cellsOf' encE l)] [] (clR l)) = vcCl1 b l := by kernel_rfl
def siT (a b : Bool) (l : List Int) (k : Nat) : List AV := mkT 26 [(0, encIs a l), (1, encIs b l), (5, .y (.int .i64 k))]
def siS (_ : Unit) : Exit × List AV × List Blk := (.exit 0, mkT 26 [], [])
def vcSiL (a b : Bool) (l : List Int) (k : Nat) : Prop :=
  (decide ((↑k : Int) < (↑(List.length l) : Int)) = true → (true && decide ((↑k : Int) < (↑(List.length l) : Int))) = true ∧ (true && decide ((↑k : Int) < (↑(List.length l) : Int))) = true ∧ ((List.getD l (Int.toNat (↑k : Int)) (0 : Int) != List.getD l (Int.toNat (↑k : Int)) (0 : Int)) = true → False) ∧ ((List.getD l (Int.toNat (↑k : Int)) (0 : Int) != List.getD l (Int.toNat (↑k : Int)) (0 : Int)) = false → ∃ (j : Nat), List.length l - j < List.length l - k ∧ (((a = a ∧ List.length l = List.length l ∧ contLe (List.length l) (1 : Nat) (cellsOf' encI l) (cellsOf' encI l)) ∧ (b = b ∧ List.length l = List.length l ∧ contLe (List.length l) (1 : Nat) (cellsOf' encI l) (cellsOf' encI l)) ∧ IntKind.wrap IntKind.i64 ((↑k : Int) + (1 : Int)) = (↑j : Int) ∧ True) ∧ True ∧ true = true) ∧ true = true ∧ () = ())) ∧ (decide ((↑k : Int) < (↑(List.length l) : Int)) = false → True ∧ True ∧ true = true)
theorem vcSiL_eq (a b : Bool) (l : List Int) (k : Nat) : (loopVC Try.prog (hT _) 60 4 (fun k => l.length - k) (siT a b l) (fun _ => []) [] (fun _ => .ret ()) siS k) = vcSiL a b l k := by kernel_rfl
noncomputable def siH (a b : Bool) (l : List Int) : HintsT Try.prog := hh _ (lp1 60 4 (jobOf (siT a b l) (fun _ => []) [] (fun _ => .ret ()) siS 0) noLp) noCs noOp
def okR : T An := .ret (.s (.bool true), [], [])
def vcSi (a b : Bool) (l : List Int) : Prop :=
  (((↑(List.length l) : Int) != (↑(List.length l) : Int)) = true → false = true ∧ True) ∧ (((↑(List.length l) : Int) != (↑(List.length l) : Int)) = false → (((a = a ∧ List.length l = List.length l ∧ contLe (List.length l) (1 : Nat) (cellsOf' encI l) (cellsOf' encI l)) ∧ (b = b ∧ List.length l = List.length l ∧ contLe (List.length l) (1 : Nat) (cellsOf' encI l) (cellsOf' encI l)) ∧ (0 : Int) = (0 : Int) ∧ True) ∧ True ∧ true = true) ∧ LoopOk Try.prog (60 : Nat) (4 : Nat) (loopAt Try.prog (60 : Nat) (4 : Nat)) { t := siT a b l (0 : Nat), m := [], mv := [] : St } (T.map (lout [] siS) ((fun (x : Nat) => T.ret ()) (0 : Nat))) ∧ true = true ∧ True)
theorem vcSi_eq (a b : Bool) (l : List Int) : (ctrVC Try.prog (siH a b l) 60 [encIs a l, encIs b l] [] okR) = vcSi a b l := by kernel_rfl
end Go.Proofs.Ytccfojpdkbaekaa.W

namespace Go.Proofs.Ytccfojpdkbaekaa.W
open Go.Ax
set_option maxRecDepth 1000000
theorem takeS {α : Type} [Inhabited α] {l : List α} {k : Nat} (h : k < l.length) : l.take (k + 1) = l.take k ++ [l.getD k default] := by
  rw [List.take_add_one, List.getElem?_eq_getElem h]
  simp [List.getElem?_eq_getElem h]
theorem encE_app {l : List Ent} {x : Ent} {n : Nat} (hn : n = l.length) : contLe (n + 1) 6 (appRow n (cellsOf' encE l) fun k j => Ax.get (encE x) (k * 6 + j)) (cellsOf' encE (l ++ [x])) :=
  app_le (contLe_refl _ _ _) hn fun j _ => le0_refl _
theorem es_loop (b : Bool) (l : List Ent) (h : EntsOk l) (k : Nat) : LoopOk Try.prog 24 3 (loopAt Try.prog 24 3) ⟨esT b l k, [rowE (l.take k)], []⟩ ((T.ret ()).map (lout jX9 (esS l))) := by
  refine loop_vcH Try.mixed (fun _ => rfl) (ht := esLH l) (μ := fun k => l.length - k) (stT := esT b l) (stM := fun k => [rowE (l.take k)]) (X := jX9) (o := fun _ => .ret ()) (S := esS l) (fun k => (vcEsL_eq b l k).mpr ?_) k
  unfold vcEsL
  have hn := h.n
  simp only [Int.toNat_natCast, decide_eq_true_eq, Bool.true_and, decide_eq_false_iff_not]
  refine ⟨fun hk => ?_, fun hk => ?_⟩
  · have hk : k < l.length := by omega
    have he := h.getD k
    have hm : min k l.length = k := by omega
    have ht := takeS hk
    generalize l.getD k default = x at he ht
    refine ⟨by omega, by simp, trivial, he, by simp [hm]; omega, ?_⟩
    refine Exists.intro (k + 1) ?_
    rw [ht]
    simp [hm]
    exact ⟨by omega, wrap_i64 (by omega) (by omega), encE_app (by simp [hm])⟩
  · have : l.take k = l := List.take_of_length_le (by omega)
    simp [this]
theorem es_c (b : Bool) (l : List Ent) (h : EntsOk l) : (esR l).Sat (ACall' Try.prog 24 [encEs b l] []) := by
  refine ctr_vc (ht := esH b l) Try.mixed rfl ?_
  rw [vcEs_eq b l]
  unfold vcEs
  have := es_loop b l h 0
  have hn := h.n
  simp [this]
  refine ⟨by omega, by omega, by simpa using this, fun k _ j hj => ?_⟩
  unfold cellsOf'
  match j, hj with
  | 0, _ | 1, _ | 2, _ | 3, _ | 4, _ | 5, _ => rfl
noncomputable def esC (b : Bool) (l : List Ent) : Ctr Try.prog := ⟨24, [encEs b l], [], .need (EntsOk l) (esR l), T.Sat.need fun h => es_c b l h⟩
theorem cl_c (b : Bool) (l : List Ent) (hl : l.length * 96 ≤ 140737488355328) : (clR l).Sat (ACall' Try.prog 58 [encEs b l] []) := by
  refine nil_cases (pre := []) (post := []) (fun h0 => ?_) ?_ ⟨_, rfl⟩
  · refine ctr_vc (ht := clH) Try.mixed rfl ?_
    rw [List.nil_append, vcCl0_eq l]
    unfold vcCl0
    simp [h0]
  · refine ctr_vc (ht := clH) Try.mixed rfl ?_
    rw [List.nil_append, vcCl1_eq b l]
    unfold vcCl1
    simp
    omega
noncomputable def clC (b : Bool) (l : List Ent) : Ctr Try.prog := ⟨58, [encEs b l], [], .need (l.length * 96 ≤ 140737488355328) (clR l), T.Sat.need fun h => cl_c b l h⟩
theorem si_loop (a b : Bool) (l : List Int) (h : l.length * 8 ≤ 140737488355328) (k : Nat) : LoopOk Try.prog 60 4 (loopAt Try.prog 60 4) ⟨siT a b l k, [], []⟩ ((T.ret ()).map (lout [] siS)) := by
  refine loop_vc Try.mixed (fun _ => rfl) (fun k => (vcSiL_eq a b l k).mpr ?_) k
  unfold vcSiL
  simp
  intro hk
  exact ⟨hk, Exists.intro (k + 1) ⟨by omega, wrap_i64 (by omega) (by omega)⟩⟩
theorem si_c (a b : Bool) (l : List Int) (h : l.length * 8 ≤ 140737488355328) : okR.Sat (ACall' Try.prog 60 [encIs a l, encIs b l] []) := by
  refine ctr_vc (ht := siH a b l) Try.mixed rfl ?_
  rw [vcSi_eq a b l]
  unfold vcSi
  have := si_loop a b l h 0
  simp [this]
noncomputable def siC (a b : Bool) (l : List Int) : Ctr Try.prog := ⟨60, [encIs a l, encIs b l], [], .need (l.length * 8 ≤ 140737488355328) okR, T.Sat.need fun h => si_c a b l h⟩
noncomputable def scfH (v l : List Int) : HintsT Try.prog := hh _ noLp (cs1 49 1 4 (siC true true v) (cs1 49 1 10 (siC true true l) noCs)) noOp
def vcScf (v l : List Int) : Prop :=
  ((true = true ∧ List.length v = List.length v ∧ contLe (List.length v) (1 : Nat) (cellsOf' encI v) (cellsOf' encI v)) ∧ (true = true ∧ List.length v = List.length v ∧ contLe (List.length v) (1 : Nat) (cellsOf' encI v) (cellsOf' encI v)) ∧ True) ∧ True ∧ List.length v * (8 : Nat) ≤ (140737488355328 : Nat) ∧ ((true = true ∧ List.length l = List.length l ∧ contLe (List.length l) (1 : Nat) (cellsOf' encI l) (cellsOf' encI l)) ∧ (true = true ∧ List.length l = List.length l ∧ contLe (List.length l) (1 : Nat) (cellsOf' encI l) (cellsOf' encI l)) ∧ True) ∧ True ∧ List.length l * (8 : Nat) ≤ (140737488355328 : Nat) ∧ true = true ∧ True
theorem vcScf_eq (v l : List Int) : (ctrVC Try.prog (scfH v l) 49 [.agg [encIs true v, encIs true l], .agg [encIs true v, encIs true l]] [] okR) = vcScf v l := by kernel_rfl
theorem scf_c (v l : List Int) (h : CnfOk v l) : okR.Sat (ACall' Try.prog 49 [.agg [encIs true v, encIs true l], .agg [encIs true v, encIs true l]] []) := by
  refine ctr_vc (ht := scfH v l) Try.mixed rfl ?_
  rw [vcScf_eq v l]
  unfold vcScf
  simp [h.v, h.l]
noncomputable def scfC (v l : List Int) : Ctr Try.prog := ⟨49, [.agg [encIs true v, encIs true l], .agg [encIs true v, encIs true l]], [], .need (CnfOk v l) okR, T.Sat.need fun h => scf_c v l h⟩
noncomputable def senH (e : Ent) : HintsT Try.prog := hh _ noLp (cs1 28 1 4 (scfC e.vot e.lea) noCs) noOp
def vcSen (e : Ent) : Prop :=
  (((true = true ∧ List.length e.vot = List.length e.vot ∧ contLe (List.length e.vot) (1 : Nat) (cellsOf' encI e.vot) (cellsOf' encI e.vot)) ∧ (true = true ∧ List.length e.lea = List.length e.lea ∧ contLe (List.length e.lea) (1 : Nat) (cellsOf' encI e.lea) (cellsOf' encI e.lea)) ∧ True) ∧ ((true = true ∧ List.length e.vot = List.length e.vot ∧ contLe (List.length e.vot) (1 : Nat) (cellsOf' encI e.vot) (cellsOf' encI e.vot)) ∧ (true = true ∧ List.length e.lea = List.length e.lea ∧ contLe (List.length e.lea) (1 : Nat) (cellsOf' encI e.lea) (cellsOf' encI e.lea)) ∧ True) ∧ True) ∧ True ∧ CnfOk e.vot e.lea ∧ ((e.idx == e.idx) = true → ((e.term == e.term) = true → ((e.kind == e.kind) = true → (∀ (k : Nat), k < List.length e.data → true = true) ∧ (∀ (k : Nat), k < List.length e.data → true = true) ∧ (List.map (fun (a : AV) => match match a with | AV.s (Value.int IntKind.u8 n) => some n | AV.y (Value.int IntKind.u8 n) => some n | x => none with | some n => UInt8.ofNat (Int.toNat n) | none => (0 : UInt8)) (List.map (fun (k : Nat) => AV.y (Value.int IntKind.u8 (List.getD e.data k (0 : Int)))) (List.range (List.length e.data))) == List.map (fun (a : AV) => match match a with | AV.s (Value.int IntKind.u8 n) => some n | AV.y (Value.int IntKind.u8 n) => some n | x => none with | some n => UInt8.ofNat (Int.toNat n) | none => (0 : UInt8)) (List.map (fun (k : Nat) => AV.y (Value.int IntKind.u8 (List.getD e.data k (0 : Int)))) (List.range (List.length e.data)))) = true ∧ True) ∧ ((e.kind == e.kind) = false → false = true ∧ True)) ∧ ((e.term == e.term) = false → false = true ∧ True)) ∧ ((e.idx == e.idx) = false → false = true ∧ True)
theorem vcSen_eq (e : Ent) : (ctrVC Try.prog (senH e) 28 [.agg (encE e), .agg (encE e)] [] okR) = vcSen e := by kernel_rfl
theorem sen_c (e : Ent) (h : EntOk e) : okR.Sat (ACall' Try.prog 28 [.agg (encE e), .agg (encE e)] []) := by
  refine ctr_vc (ht := senH e) Try.mixed rfl ?_
  rw [vcSen_eq e]
  unfold vcSen
  have hb : ∀ q : Nat, isU8 (cellsOf' encB e.data q 0) = true := fun _ => rfl
  simp [h.c, hb]
noncomputable def senC (e : Ent) : Ctr Try.prog := ⟨28, [.agg (encE e), .agg (encE e)], [], .need (EntOk e) okR, T.Sat.need fun h => sen_c e h⟩
noncomputable def ssnH (e : Snp) : HintsT Try.prog := hh _ noLp (cs1 27 1 4 (scfC e.vot e.lea) noCs) noOp
def vcSsn (e : Snp) : Prop :=
  (((true = true ∧ List.length e.vot = List.length e.vot ∧ contLe (List.length e.vot) (1 : Nat) (cellsOf' encI e.vot) (cellsOf' encI e.vot)) ∧ (true = true ∧ List.length e.lea = List.length e.lea ∧ contLe (List.length e.lea) (1 : Nat) (cellsOf' encI e.lea) (cellsOf' encI e.lea)) ∧ True) ∧ ((true = true ∧ List.length e.vot = List.length e.vot ∧ contLe (List.length e.vot) (1 : Nat) (cellsOf' encI e.vot) (cellsOf' encI e.vot)) ∧ (true = true ∧ List.length e.lea = List.length e.lea ∧ contLe (List.length e.lea) (1 : Nat) (cellsOf' encI e.lea) (cellsOf' encI e.lea)) ∧ True) ∧ True) ∧ True ∧ CnfOk e.vot e.lea ∧ ((e.idx == e.idx) = true → ((e.term == e.term) = true → (∀ (k : Nat), k < List.length e.data → true = true) ∧ (∀ (k : Nat), k < List.length e.data → true = true) ∧ (List.map (fun (a : AV) => match match a with | AV.s (Value.int IntKind.u8 n) => some n | AV.y (Value.int IntKind.u8 n) => some n | x => none with | some n => UInt8.ofNat (Int.toNat n) | none => (0 : UInt8)) (List.map (fun (k : Nat) => AV.y (Value.int IntKind.u8 (List.getD e.data k (0 : Int)))) (List.range (List.length e.data))) == List.map (fun (a : AV) => match match a with | AV.s (Value.int IntKind.u8 n) => some n | AV.y (Value.int IntKind.u8 n) => some n | x => none with | some n => UInt8.ofNat (Int.toNat n) | none => (0 : UInt8)) (List.map (fun (k : Nat) => AV.y (Value.int IntKind.u8 (List.getD e.data k (0 : Int)))) (List.range (List.length e.data)))) = true ∧ True) ∧ ((e.term == e.term) = false → false = true ∧ True)) ∧ ((e.idx == e.idx) = false → false = true ∧ True)
theorem vcSsn_eq (e : Snp) : (ctrVC Try.prog (ssnH e) 27 [.agg (encS e), .agg (encS e)] [] okR) = vcSsn e := by kernel_rfl
theorem ssn_c (e : Snp) (h : SnpOk e) : okR.Sat (ACall' Try.prog 27 [.agg (encS e), .agg (encS e)] []) := by
  refine ctr_vc (ht := ssnH e) Try.mixed rfl ?_
  rw [vcSsn_eq e]
  unfold vcSsn
  have hb : ∀ q : Nat, isU8 (cellsOf' encB e.data q 0) = true := fun _ => rfl
  simp [h.c, hb]
noncomputable def ssnC (e : Snp) : Ctr Try.prog := ⟨27, [.agg (encS e), .agg (encS e)], [], .need (SnpOk e) okR, T.Sat.need fun h => ssn_c e h⟩
end Go.Proofs.Ytccfojpdkbaekaa.W

namespace Go.Proofs.Ytccfojpdkbaekaa.W
open Go.Ax
set_option maxRecDepth 1000000
def jM : List Nat := [2, 3, 4, 5, 6, 7, 8, 9, 10, 11, 12, 13, 14, 15, 16, 17, 18, 19, 20]
def jM6 : List Nat := [3, 6, 7, 8, 9, 10, 11, 12, 13, 14, 15, 16, 17, 18, 19, 20]
structure Idx where
  has : Int → Bool
  g : Int → Grp
  n : Nat
  now : Int
def x0 : Idx := ⟨fun _ => false, fun _ => default, 0, 1⟩
def trG (g : Grp) : Tr := .box 75 0 [.av (.y (.int .u64 g.ht)), .av (.y (.int .i64 g.hv)), .av (.y (.int .u64 g.hc)), .av (.y (.int .u64 g.base.idx)), .av (.y (.int .u64 g.base.term)), .av (encIs true g.base.vot), .av (encIs true g.base.lea), .av (encBs true g.base.data), .frow 45 6 g.ents.length (cellsOf' encE g.ents), .av (.y (.bool g.gone)), .frow 3 1 g.first.length (cellsOf' encI g.first)]
def idxM (x : Idx) : List Blk := [.box 71 [.mref 1, .y (.int .i64 x.now)], .tmap (.i .u64) x.has (fun k => trG (x.g k)) x.n []]
def nwR : T An := .ret (.ptr 0 0 0 0, idxM x0, [])
noncomputable def nwH : HintsT Try.prog := withSh (hT _) (sh1 8 1 0 783 noSh)
def vcNw (u : Unit) : Prop :=
  ((0 : Nat) = (0 : Nat) ∧ (0 : Nat) = (0 : Nat)) ∧ (True ∧ (1 : Int) = (1 : Int) ∧ True) ∧ ((0 : Nat) = (0 : Nat) ∧ (∀ (x : Int), false = false) ∧ ∀ (x : Int), false = true → False) ∧ True
theorem vcNw_eq (u : Unit) : (ctrVC Try.prog nwH 8 [] [] nwR) = vcNw u := by kernel_rfl
def Idx.view (x : Idx) (k : Int) : Grp := if x.has k then x.g k else default
def viR (x : Idx) (k : Int) : T An := .ret (.tup [.agg (encV (encEs true (x.view k).ents) (x.view k)), .y (.bool (x.has k))], idxM x, jM)
noncomputable def viH (g : Grp) : HintsT Try.prog := hh _ noLp (cs1 9 5 3 (snpC g.base) (cs1 9 5 7 (esC false g.ents) noCs)) noOp
def vcVi (x : Idx) (k : Int) : Prop :=
  (x.has k = true → (((x.g k).base.idx = (x.g k).base.idx ∧ (x.g k).base.term = (x.g k).base.term ∧ (true = true ∧ List.length (x.g k).base.vot = List.length (x.g k).base.vot ∧ contLe (List.length (x.g k).base.vot) (1 : Nat) (cellsOf' encI (x.g k).base.vot) (cellsOf' encI (x.g k).base.vot)) ∧ (true = true ∧ List.length (x.g k).base.lea = List.length (x.g k).base.lea ∧ contLe (List.length (x.g k).base.lea) (1 : Nat) (cellsOf' encI (x.g k).base.lea) (cellsOf' encI (x.g k).base.lea)) ∧ (true = true ∧ List.length (x.g k).base.data = List.length (x.g k).base.data ∧ contLe (List.length (x.g k).base.data) (1 : Nat) (cellsOf' encB (x.g k).base.data) (cellsOf' encB (x.g k).base.data)) ∧ True) ∧ True) ∧ True ∧ SnpOk (x.g k).base ∧ ((false = false ∧ List.length (x.g k).ents = List.length (x.g k).ents ∧ contLe (List.length (x.g k).ents) (6 : Nat) (Ax.rowAt (0 : Nat) (cellsOf' encE (x.g k).ents)) (cellsOf' encE (x.g k).ents)) ∧ True) ∧ True ∧ EntsOk (x.g k).ents ∧ true = true ∧ True ∧ (((x.g k).ht = (Idx.view x k).ht ∧ (x.g k).hv = (Idx.view x k).hv ∧ (x.g k).hc = (Idx.view x k).hc ∧ (x.g k).base.idx = (Idx.view x k).base.idx ∧ (x.g k).base.term = (Idx.view x k).base.term ∧ (true = true ∧ List.length (x.g k).base.vot = List.length (Idx.view x k).base.vot ∧ contLe (List.length (x.g k).base.vot) (1 : Nat) (cellsOf' encI (x.g k).base.vot) (cellsOf' encI (Idx.view x k).base.vot)) ∧ (true = true ∧ List.length (x.g k).base.lea = List.length (Idx.view x k).base.lea ∧ contLe (List.length (x.g k).base.lea) (1 : Nat) (cellsOf' encI (x.g k).base.lea) (cellsOf' encI (Idx.view x k).base.lea)) ∧ (true = true ∧ List.length (x.g k).base.data = List.length (Idx.view x k).base.data ∧ contLe (List.length (x.g k).base.data) (1 : Nat) (cellsOf' encB (x.g k).base.data) (cellsOf' encB (Idx.view x k).base.data)) ∧ (true = true ∧ List.length (x.g k).ents = List.length (Idx.view x k).ents ∧ contLe (List.length (x.g k).ents) (6 : Nat) (cellsOf' encE (x.g k).ents) (cellsOf' encE (Idx.view x k).ents)) ∧ (x.g k).gone = (Idx.view x k).gone ∧ True) ∧ true = x.has k ∧ True) ∧ ((True ∧ x.now = x.now ∧ True) ∧ (x.n = x.n ∧ (∀ (x_2 : Int), x.has x_2 = x.has x_2) ∧ (((true = true ∧ (x.g k).ht = (x.g k).ht) ∧ (true = true ∧ (x.g k).hv = (x.g k).hv) ∧ (true = true ∧ (x.g k).hc = (x.g k).hc) ∧ (true = true ∧ (x.g k).base.idx = (x.g k).base.idx) ∧ (true = true ∧ (x.g k).base.term = (x.g k).base.term) ∧ (true = true ∧ true = true ∧ List.length (x.g k).base.vot = List.length (x.g k).base.vot ∧ contLe (List.length (x.g k).base.vot) (1 : Nat) (cellsOf' encI (x.g k).base.vot) (cellsOf' encI (x.g k).base.vot)) ∧ (true = true ∧ true = true ∧ List.length (x.g k).base.lea = List.length (x.g k).base.lea ∧ contLe (List.length (x.g k).base.lea) (1 : Nat) (cellsOf' encI (x.g k).base.lea) (cellsOf' encI (x.g k).base.lea)) ∧ (true = true ∧ true = true ∧ List.length (x.g k).base.data = List.length (x.g k).base.data ∧ contLe (List.length (x.g k).base.data) (1 : Nat) (cellsOf' encB (x.g k).base.data) (cellsOf' encB (x.g k).base.data)) ∧ (List.length (x.g k).ents = List.length (x.g k).ents ∧ contLe (List.length (x.g k).ents) (6 : Nat) (cellsOf' encE (x.g k).ents) (cellsOf' encE (x.g k).ents)) ∧ (true = true ∧ (x.g k).gone = (x.g k).gone) ∧ (List.length (x.g k).first = List.length (x.g k).first ∧ contLe (List.length (x.g k).first) (1 : Nat) (cellsOf' encI (x.g k).first) (cellsOf' encI (x.g k).first)) ∧ True) ∧ True) ∧ ∀ (x_2 : Int), x.has x_2 = true → ¬x_2 = k → (x.g x_2).ht = (x.g x_2).ht ∧ (x.g x_2).hv = (x.g x_2).hv ∧ (x.g x_2).hc = (x.g x_2).hc ∧ (x.g x_2).base.idx = (x.g x_2).base.idx ∧ (x.g x_2).base.term = (x.g x_2).base.term ∧ (true = true ∧ List.length (x.g x_2).base.vot = List.length (x.g x_2).base.vot ∧ contLe (List.length (x.g x_2).base.vot) (1 : Nat) (cellsOf' encI (x.g x_2).base.vot) (cellsOf' encI (x.g x_2).base.vot)) ∧ (true = true ∧ List.length (x.g x_2).base.lea = List.length (x.g x_2).base.lea ∧ contLe (List.length (x.g x_2).base.lea) (1 : Nat) (cellsOf' encI (x.g x_2).base.lea) (cellsOf' encI (x.g x_2).base.lea)) ∧ (true = true ∧ List.length (x.g x_2).base.data = List.length (x.g x_2).base.data ∧ contLe (List.length (x.g x_2).base.data) (1 : Nat) (cellsOf' encB (x.g x_2).base.data) (cellsOf' encB (x.g x_2).base.data)) ∧ (List.length (x.g x_2).ents = List.length (x.g x_2).ents ∧ contLe (List.length (x.g x_2).ents) (6 : Nat) (cellsOf' encE (x.g x_2).ents) (cellsOf' encE (x.g x_2).ents)) ∧ (x.g x_2).gone = (x.g x_2).gone ∧ (List.length (x.g x_2).first = List.length (x.g x_2).first ∧ contLe (List.length (x.g x_2).first) (1 : Nat) (cellsOf' encI (x.g x_2).first) (cellsOf' encI (x.g x_2).first)) ∧ True) ∧ True) ∧ True) ∧ (x.has k = false → (((0 : Int) = (Idx.view x k).ht ∧ (0 : Int) = (Idx.view x k).hv ∧ (0 : Int) = (Idx.view x k).hc ∧ (0 : Int) = (Idx.view x k).base.idx ∧ (0 : Int) = (Idx.view x k).base.term ∧ List.length (Idx.view x k).base.vot = (0 : Nat) ∧ List.length (Idx.view x k).base.lea = (0 : Nat) ∧ List.length (Idx.view x k).base.data = (0 : Nat) ∧ List.length (Idx.view x k).ents = (0 : Nat) ∧ false = (Idx.view x k).gone ∧ True) ∧ false = x.has k ∧ True) ∧ (True ∧ x.now = x.now ∧ True) ∧ (x.n = x.n ∧ (∀ (x_2 : Int), x.has x_2 = x.has x_2) ∧ ∀ (x_2 : Int), x.has x_2 = true → (x.g x_2).ht = (x.g x_2).ht ∧ (x.g x_2).hv = (x.g x_2).hv ∧ (x.g x_2).hc = (x.g x_2).hc ∧ (x.g x_2).base.idx = (x.g x_2).base.idx ∧ (x.g x_2).base.term = (x.g x_2).base.term ∧ (true = true ∧ List.length (x.g x_2).base.vot = List.length (x.g x_2).base.vot ∧ contLe (List.length (x.g x_2).base.vot) (1 : Nat) (cellsOf' encI (x.g x_2).base.vot) (cellsOf' encI (x.g x_2).base.vot)) ∧ (true = true ∧ List.length (x.g x_2).base.lea = List.length (x.g x_2).base.lea ∧ contLe (List.length (x.g x_2).base.lea) (1 : Nat) (cellsOf' encI (x.g x_2).base.lea) (cellsOf' encI (x.g x_2).base.lea)) ∧ (true = true ∧ List.length (x.g x_2).base.data = List.length (x.g x_2).base.data ∧ contLe (List.length (x.g x_2).base.data) (1 : Nat) (cellsOf' encB (x.g x_2).base.data) (cellsOf' encB (x.g x_2).base.data)) ∧ (List.length (x.g x_2).ents = List.length (x.g x_2).ents ∧ contLe (List.length (x.g x_2).ents) (6 : Nat) (cellsOf' encE (x.g x_2).ents) (cellsOf' encE (x.g x_2).ents)) ∧ (x.g x_2).gone = (x.g x_2).gone ∧ (List.length (x.g x_2).first = List.length (x.g x_2).first ∧ contLe (List.length (x.g x_2).first) (1 : Nat) (cellsOf' encI (x.g x_2).first) (cellsOf' encI (x.g x_2).first)) ∧ True) ∧ True)
theorem vcVi_eq (x : Idx) (k : Int) : (ctrVC Try.prog (viH (x.g k)) 9 [.ptr 0 0 0 0, .y (.int .u64 k)] (idxM x) (viR x k)) = vcVi x k := by kernel_rfl
def svT (k : Nat) : List AV := mkT 65 [(2, .ptr 0 0 0 0), (3, .ptr 1 0 0 0), (6, .y (.int .i64 k))]
def svM (g : Grp) : List Blk := [.box 39 (encV (encEs true g.ents) g), .box 39 (encV (encEs true g.ents) g)]
def svS (_ : Unit) : Exit × List AV × List Blk := (.exit 0, mkT 65 [], [])
noncomputable def svLH (e : Ent) : HintsT Try.prog := hh _ noLp (cs1 11 7 12 (senC e) noCs) noOp
def vcSvL (g : Grp) (k : Nat) : Prop :=
  (decide ((↑k : Int) < (↑(List.length g.ents) : Int)) = true → (true && decide ((↑k : Int) < (↑(List.length g.ents) : Int))) = true ∧ (true && decide ((↑k : Int) < (↑(List.length g.ents) : Int))) = true ∧ (((List.getD g.ents (Int.toNat (↑k : Int)) (@default Ent instInhabitedEnt)).idx = (List.getD g.ents k (@default Ent instInhabitedEnt)).idx ∧ (List.getD g.ents (Int.toNat (↑k : Int)) (@default Ent instInhabitedEnt)).term = (List.getD g.ents k (@default Ent instInhabitedEnt)).term ∧ (List.getD g.ents (Int.toNat (↑k : Int)) (@default Ent instInhabitedEnt)).kind = (List.getD g.ents k (@default Ent instInhabitedEnt)).kind ∧ (true = true ∧ List.length (List.getD g.ents (Int.toNat (↑k : Int)) (@default Ent instInhabitedEnt)).data = List.length (List.getD g.ents k (@default Ent instInhabitedEnt)).data ∧ contLe (List.length (List.getD g.ents (Int.toNat (↑k : Int)) (@default Ent instInhabitedEnt)).data) (1 : Nat) (cellsOf' encB (List.getD g.ents (Int.toNat (↑k : Int)) (@default Ent instInhabitedEnt)).data) (cellsOf' encB (List.getD g.ents k (@default Ent instInhabitedEnt)).data)) ∧ (true = true ∧ List.length (List.getD g.ents (Int.toNat (↑k : Int)) (@default Ent instInhabitedEnt)).vot = List.length (List.getD g.ents k (@default Ent instInhabitedEnt)).vot ∧ contLe (List.length (List.getD g.ents (Int.toNat (↑k : Int)) (@default Ent instInhabitedEnt)).vot) (1 : Nat) (cellsOf' encI (List.getD g.ents (Int.toNat (↑k : Int)) (@default Ent instInhabitedEnt)).vot) (cellsOf' encI (List.getD g.ents k (@default Ent instInhabitedEnt)).vot)) ∧ (true = true ∧ List.length (List.getD g.ents (Int.toNat (↑k : Int)) (@default Ent instInhabitedEnt)).lea = List.length (List.getD g.ents k (@default Ent instInhabitedEnt)).lea ∧ contLe (List.length (List.getD g.ents (Int.toNat (↑k : Int)) (@default Ent instInhabitedEnt)).lea) (1 : Nat) (cellsOf' encI (List.getD g.ents (Int.toNat (↑k : Int)) (@default Ent instInhabitedEnt)).lea) (cellsOf' encI (List.getD g.ents k (@default Ent instInhabitedEnt)).lea)) ∧ True) ∧ ((List.getD g.ents (Int.toNat (↑k : Int)) (@default Ent instInhabitedEnt)).idx = (List.getD g.ents k (@default Ent instInhabitedEnt)).idx ∧ (List.getD g.ents (Int.toNat (↑k : Int)) (@default Ent instInhabitedEnt)).term = (List.getD g.ents k (@default Ent instInhabitedEnt)).term ∧ (List.getD g.ents (Int.toNat (↑k : Int)) (@default Ent instInhabitedEnt)).kind = (List.getD g.ents k (@default Ent instInhabitedEnt)).kind ∧ (true = true ∧ List.length (List.getD g.ents (Int.toNat (↑k : Int)) (@default Ent instInhabitedEnt)).data = List.length (List.getD g.ents k (@default Ent instInhabitedEnt)).data ∧ contLe (List.length (List.getD g.ents (Int.toNat (↑k : Int)) (@default Ent instInhabitedEnt)).data) (1 : Nat) (cellsOf' encB (List.getD g.ents (Int.toNat (↑k : Int)) (@default Ent instInhabitedEnt)).data) (cellsOf' encB (List.getD g.ents k (@default Ent instInhabitedEnt)).data)) ∧ (true = true ∧ List.length (List.getD g.ents (Int.toNat (↑k : Int)) (@default Ent instInhabitedEnt)).vot = List.length (List.getD g.ents k (@default Ent instInhabitedEnt)).vot ∧ contLe (List.length (List.getD g.ents (Int.toNat (↑k : Int)) (@default Ent instInhabitedEnt)).vot) (1 : Nat) (cellsOf' encI (List.getD g.ents (Int.toNat (↑k : Int)) (@default Ent instInhabitedEnt)).vot) (cellsOf' encI (List.getD g.ents k (@default Ent instInhabitedEnt)).vot)) ∧ (true = true ∧ List.length (List.getD g.ents (Int.toNat (↑k : Int)) (@default Ent instInhabitedEnt)).lea = List.length (List.getD g.ents k (@default Ent instInhabitedEnt)).lea ∧ contLe (List.length (List.getD g.ents (Int.toNat (↑k : Int)) (@default Ent instInhabitedEnt)).lea) (1 : Nat) (cellsOf' encI (List.getD g.ents (Int.toNat (↑k : Int)) (@default Ent instInhabitedEnt)).lea) (cellsOf' encI (List.getD g.ents k (@default Ent instInhabitedEnt)).lea)) ∧ True) ∧ True) ∧ True ∧ EntOk (List.getD g.ents k (@default Ent instInhabitedEnt)) ∧ ∃ (j : Nat), List.length g.ents - j < List.length g.ents - k ∧ ((((0 : Nat) = (0 : Nat) ∧ (0 : Nat) = (0 : Nat)) ∧ ((0 : Nat) = (0 : Nat) ∧ (0 : Nat) = (0 : Nat)) ∧ IntKind.wrap IntKind.i64 ((↑k : Int) + (1 : Int)) = (↑j : Int) ∧ True) ∧ ((g.ht = g.ht ∧ g.hv = g.hv ∧ g.hc = g.hc ∧ g.base.idx = g.base.idx ∧ g.base.term = g.base.term ∧ (true = true ∧ List.length g.base.vot = List.length g.base.vot ∧ contLe (List.length g.base.vot) (1 : Nat) (cellsOf' encI g.base.vot) (cellsOf' encI g.base.vot)) ∧ (true = true ∧ List.length g.base.lea = List.length g.base.lea ∧ contLe (List.length g.base.lea) (1 : Nat) (cellsOf' encI g.base.lea) (cellsOf' encI g.base.lea)) ∧ (true = true ∧ List.length g.base.data = List.length g.base.data ∧ contLe (List.length g.base.data) (1 : Nat) (cellsOf' encB g.base.data) (cellsOf' encB g.base.data)) ∧ (true = true ∧ List.length g.ents = List.length g.ents ∧ contLe (List.length g.ents) (6 : Nat) (cellsOf' encE g.ents) (cellsOf' encE g.ents)) ∧ g.gone = g.gone ∧ True) ∧ (g.ht = g.ht ∧ g.hv = g.hv ∧ g.hc = g.hc ∧ g.base.idx = g.base.idx ∧ g.base.term = g.base.term ∧ (true = true ∧ List.length g.base.vot = List.length g.base.vot ∧ contLe (List.length g.base.vot) (1 : Nat) (cellsOf' encI g.base.vot) (cellsOf' encI g.base.vot)) ∧ (true = true ∧ List.length g.base.lea = List.length g.base.lea ∧ contLe (List.length g.base.lea) (1 : Nat) (cellsOf' encI g.base.lea) (cellsOf' encI g.base.lea)) ∧ (true = true ∧ List.length g.base.data = List.length g.base.data ∧ contLe (List.length g.base.data) (1 : Nat) (cellsOf' encB g.base.data) (cellsOf' encB g.base.data)) ∧ (true = true ∧ List.length g.ents = List.length g.ents ∧ contLe (List.length g.ents) (6 : Nat) (cellsOf' encE g.ents) (cellsOf' encE g.ents)) ∧ g.gone = g.gone ∧ True) ∧ True) ∧ true = true) ∧ true = true ∧ () = ()) ∧ (decide ((↑k : Int) < (↑(List.length g.ents) : Int)) = false → True ∧ True ∧ true = true)
theorem vcSvL_eq (g : Grp) (k : Nat) : (loopVC Try.prog (svLH (g.ents.getD k default)) 11 5 (fun k => g.ents.length - k) svT (fun _ => svM g) jX9 (fun _ => .ret ()) svS k) = vcSvL g k := by kernel_rfl
noncomputable def svH (g : Grp) : HintsT Try.prog := hh _ (lp1 11 5 (jobOf svT (fun _ => svM g) jX9 (fun _ => .ret ()) svS 0) noLp) (cs1 11 1 6 (ssnC g.base) noCs) noOp
def vcSv (g : Grp) : Prop :=
  ((g.base.idx = g.base.idx ∧ g.base.term = g.base.term ∧ (true = true ∧ List.length g.base.vot = List.length g.base.vot ∧ contLe (List.length g.base.vot) (1 : Nat) (cellsOf' encI g.base.vot) (cellsOf' encI g.base.vot)) ∧ (true = true ∧ List.length g.base.lea = List.length g.base.lea ∧ contLe (List.length g.base.lea) (1 : Nat) (cellsOf' encI g.base.lea) (cellsOf' encI g.base.lea)) ∧ (true = true ∧ List.length g.base.data = List.length g.base.data ∧ contLe (List.length g.base.data) (1 : Nat) (cellsOf' encB g.base.data) (cellsOf' encB g.base.data)) ∧ True) ∧ (g.base.idx = g.base.idx ∧ g.base.term = g.base.term ∧ (true = true ∧ List.length g.base.vot = List.length g.base.vot ∧ contLe (List.length g.base.vot) (1 : Nat) (cellsOf' encI g.base.vot) (cellsOf' encI g.base.vot)) ∧ (true = true ∧ List.length g.base.lea = List.length g.base.lea ∧ contLe (List.length g.base.lea) (1 : Nat) (cellsOf' encI g.base.lea) (cellsOf' encI g.base.lea)) ∧ (true = true ∧ List.length g.base.data = List.length g.base.data ∧ contLe (List.length g.base.data) (1 : Nat) (cellsOf' encB g.base.data) (cellsOf' encB g.base.data)) ∧ True) ∧ True) ∧ True ∧ SnpOk g.base ∧ ((!(g.ht == g.ht && (g.hv == g.hv && (g.hc == g.hc && true)))) = true → false = true ∧ True) ∧ ((!(g.ht == g.ht && (g.hv == g.hv && (g.hc == g.hc && true)))) = false → ((!g.gone == g.gone) = true → false = true ∧ True) ∧ ((!g.gone == g.gone) = false → (((↑(List.length g.ents) : Int) != (↑(List.length g.ents) : Int)) = true → false = true ∧ True) ∧ (((↑(List.length g.ents) : Int) != (↑(List.length g.ents) : Int)) = false → ((((0 : Nat) = (0 : Nat) ∧ (0 : Nat) = (0 : Nat)) ∧ ((0 : Nat) = (0 : Nat) ∧ (0 : Nat) = (0 : Nat)) ∧ (0 : Int) = (0 : Int) ∧ True) ∧ ((g.ht = g.ht ∧ g.hv = g.hv ∧ g.hc = g.hc ∧ g.base.idx = g.base.idx ∧ g.base.term = g.base.term ∧ (true = true ∧ List.length g.base.vot = List.length g.base.vot ∧ contLe (List.length g.base.vot) (1 : Nat) (cellsOf' encI g.base.vot) (cellsOf' encI g.base.vot)) ∧ (true = true ∧ List.length g.base.lea = List.length g.base.lea ∧ contLe (List.length g.base.lea) (1 : Nat) (cellsOf' encI g.base.lea) (cellsOf' encI g.base.lea)) ∧ (true = true ∧ List.length g.base.data = List.length g.base.data ∧ contLe (List.length g.base.data) (1 : Nat) (cellsOf' encB g.base.data) (cellsOf' encB g.base.data)) ∧ (true = true ∧ List.length g.ents = List.length g.ents ∧ contLe (List.length g.ents) (6 : Nat) (cellsOf' encE g.ents) (cellsOf' encE g.ents)) ∧ g.gone = g.gone ∧ True) ∧ (g.ht = g.ht ∧ g.hv = g.hv ∧ g.hc = g.hc ∧ g.base.idx = g.base.idx ∧ g.base.term = g.base.term ∧ (true = true ∧ List.length g.base.vot = List.length g.base.vot ∧ contLe (List.length g.base.vot) (1 : Nat) (cellsOf' encI g.base.vot) (cellsOf' encI g.base.vot)) ∧ (true = true ∧ List.length g.base.lea = List.length g.base.lea ∧ contLe (List.length g.base.lea) (1 : Nat) (cellsOf' encI g.base.lea) (cellsOf' encI g.base.lea)) ∧ (true = true ∧ List.length g.base.data = List.length g.base.data ∧ contLe (List.length g.base.data) (1 : Nat) (cellsOf' encB g.base.data) (cellsOf' encB g.base.data)) ∧ (true = true ∧ List.length g.ents = List.length g.ents ∧ contLe (List.length g.ents) (6 : Nat) (cellsOf' encE g.ents) (cellsOf' encE g.ents)) ∧ g.gone = g.gone ∧ True) ∧ True) ∧ true = true) ∧ LoopOk Try.prog (11 : Nat) (5 : Nat) (loopAt Try.prog (11 : Nat) (5 : Nat)) { t := svT (0 : Nat), m := svM g, mv := [] : St } (T.map (lout jX9 svS) ((fun (x : Nat) => T.ret ()) (0 : Nat))) ∧ true = true ∧ True)))
theorem vcSv_eq (g : Grp) : (ctrVC Try.prog (svH g) 11 [.agg (encV (encEs true g.ents) g), .agg (encV (encEs true g.ents) g)] [] okR) = vcSv g := by kernel_rfl
end Go.Proofs.Ytccfojpdkbaekaa.W

namespace Go.Proofs.Ytccfojpdkbaekaa.W
open Go.Ax
set_option maxRecDepth 1000000
theorem nw_c : nwR.Sat (ACall' Try.prog 8 [] []) := by
  refine ctr_vc (ht := nwH) Try.mixed rfl ?_
  rw [vcNw_eq ()]
  unfold vcNw
  simp
noncomputable def nwC : Ctr Try.prog := ⟨8, [], [], nwR, nw_c⟩
structure GrpOk (g : Grp) : Prop where
  b : SnpOk g.base
  e : EntsOk g.ents
structure IdxOk (x : Idx) : Prop where
  g : ∀ k, x.has k = true → GrpOk (x.g k)
theorem Idx.view_t {x : Idx} {k : Int} (h : x.has k = true) : x.view k = x.g k := by simp [Idx.view, h]
theorem Idx.view_f {x : Idx} {k : Int} (h : x.has k = false) : x.view k = default := by simp [Idx.view, h]
theorem grpOk0 : GrpOk default := ⟨⟨⟨by simp [default], by simp [default]⟩, by simp [default]⟩, ⟨by simp [default], fun x hx => by simp [default] at hx⟩⟩
theorem IdxOk.view {x : Idx} (h : IdxOk x) (k : Int) : GrpOk (x.view k) := by
  cases hk : x.has k with
  | true => rw [x.view_t hk]; exact h.g k hk
  | false => rw [x.view_f hk]; exact grpOk0
theorem vi_c (x : Idx) (k : Int) (h : GrpOk (x.view k)) : (viR x k).Sat (ACall' Try.prog 9 [.ptr 0 0 0 0, .y (.int .u64 k)] (idxM x)) := by
  refine ctr_vc (ht := viH (x.g k)) Try.mixed rfl ?_
  rw [vcVi_eq x k]
  unfold vcVi
  cases hk : x.has k with
  | true =>
    have e := x.view_t hk
    rw [e] at h ⊢
    simp [h.b, h.e]
  | false =>
    have e := x.view_f hk
    rw [e]
    simp [default]
noncomputable def viC (x : Idx) (k : Int) : Ctr Try.prog := ⟨9, [.ptr 0 0 0 0, .y (.int .u64 k)], idxM x, .need (GrpOk (x.view k)) (viR x k), T.Sat.need fun h => vi_c x k h⟩
theorem sv_loop (g : Grp) (h : EntsOk g.ents) (k : Nat) : LoopOk Try.prog 11 5 (loopAt Try.prog 11 5) ⟨svT k, svM g, []⟩ ((T.ret ()).map (lout jX9 svS)) := by
  refine loop_vcH Try.mixed (fun _ => rfl) (ht := fun k => svLH (g.ents.getD k default)) (μ := fun k => g.ents.length - k) (stT := svT) (stM := fun _ => svM g) (X := jX9) (o := fun _ => .ret ()) (S := svS) (fun k => (vcSvL_eq g k).mpr ?_) k
  unfold vcSvL
  have he := h.getD k
  have hn := h.n
  simp only [Int.toNat_natCast]
  generalize g.ents.getD k default = e at he
  simp [he]
  exact fun hk => ⟨hk, Exists.intro (k + 1) ⟨by omega, wrap_i64 (by omega) (by omega)⟩⟩
theorem sv_c (g : Grp) (h : GrpOk g) : okR.Sat (ACall' Try.prog 11 [.agg (encV (encEs true g.ents) g), .agg (encV (encEs true g.ents) g)] []) := by
  refine ctr_vc (ht := svH g) Try.mixed rfl ?_
  rw [vcSv_eq g]
  unfold vcSv
  have := sv_loop g h.e 0
  simp [this, h.b]
noncomputable def svC (g : Grp) : Ctr Try.prog := ⟨11, [.agg (encV (encEs true g.ents) g), .agg (encV (encEs true g.ents) g)], [], .need (GrpOk g) okR, T.Sat.need fun h => sv_c g h⟩
end Go.Proofs.Ytccfojpdkbaekaa.W

namespace Go.Proofs.Ytccfojpdkbaekaa.W
open Go.Ax
set_option maxRecDepth 1000000
def plc (b x : Int) : Int := IntKind.u64.wrap (IntKind.u64.wrap (x - b) - 1)
def Itm.at' (i : Itm) : Int := if i.kind = 1 then i.ent.idx else i.index
def ahd (g : Grp) (x : Int) : Int := if 0 < plc g.base.idx x then (g.ents.getD (IntKind.u64.wrap (plc g.base.idx x - 1)).toNat default).term else g.base.term
def tkE (g : Grp) (i : Itm) : Int :=
  if i.kind = 2 then (if i.ht < g.ht then 52 else 0)
  else if i.kind = 4 then (if i.snap.idx ≤ g.base.idx then 1 else 0)
  else if i.kind = 1 then (if i.ent.idx = 0 then 54 else if i.ent.idx ≤ g.base.idx then 1 else if (g.ents.length : Int) < plc g.base.idx i.ent.idx then 51 else if i.ent.term < ahd g i.ent.idx then 52 else 0)
  else if i.kind = 3 then (if i.index ≤ g.base.idx then 51 else 0)
  else 0
def tkG (g : Grp) (i : Itm) : Grp :=
  if i.kind = 2 then { g with ht := i.ht, hv := i.hv, hc := i.hc }
  else if i.kind = 4 then
    let p := plc g.base.idx i.snap.idx
    { g with base := i.snap, ents := if p < g.ents.length ∧ (g.ents.getD p.toNat default).term = i.snap.term then g.ents.drop (p.toNat + 1) else [] }
  else if i.kind = 1 then { g with ents := g.ents.take (plc g.base.idx i.ent.idx).toNat ++ [i.ent] }
  else if i.kind = 3 then { g with ents := g.ents.take (plc g.base.idx i.index).toNat }
  else g
def rowI (l : List Int) : Blk := .row 3 1 l.length none (cellsOf' encI l)
def grM (g : Grp) : List Blk := [.dead, .dead, .dead, rowE g.ents, rowI g.first, .box 75 (encV (.own 3 6 0 g.ents.length) g ++ [.own 4 1 0 g.first.length])]
def tkR (g : Grp) (i : Itm) : T An := .ite (tkE g i == 0) (.ret (.s .nilIface, grM (tkG g i), jM6)) (.ite (tkE g i == 1) (.ret (.ifc 111 (.agg []), grM g, jM6)) (.ret (.ifc 48 (.y (.int .i64 (tkE g i))), grM g, jM6)))
noncomputable def tkH (g : Grp) (i : Itm) : HintsT Try.prog := withSh (hh _ noLp (cs1 46 15 7 (clC false (g.ents.drop ((plc g.base.idx i.snap.idx).toNat + 1))) (cs1 46 16 4 (snpC i.snap) (cs1 46 31 7 (clC false (g.ents.take (plc g.base.idx i.at').toNat)) (cs1 46 33 7 (entC i.ent) noCs)))) (op1 46 12 0 (.row 45 6) noOp)) (sh1 46 16 11 5 (sh1 46 31 10 5 noSh))
def vcTk_q23 (i : Itm) : Prop := ((i.ent.idx = i.ent.idx ∧ i.ent.term = i.ent.term ∧ i.ent.kind = i.ent.kind ∧ (true = true ∧ List.length i.ent.data = List.length i.ent.data ∧ contLe (List.length i.ent.data) (1 : Nat) (cellsOf' encB i.ent.data) (cellsOf' encB i.ent.data)) ∧ (true = true ∧ List.length i.ent.vot = List.length i.ent.vot ∧ contLe (List.length i.ent.vot) (1 : Nat) (cellsOf' encI i.ent.vot) (cellsOf' encI i.ent.vot)) ∧ (true = true ∧ List.length i.ent.lea = List.length i.ent.lea ∧ contLe (List.length i.ent.lea) (1 : Nat) (cellsOf' encI i.ent.lea) (cellsOf' encI i.ent.lea)) ∧ True) ∧ True)
def vcTk_q11 (g : Grp) (i : Itm) : Prop := (List.length g.first = List.length (tkG g i).first ∧ contLe (List.length g.first) (1 : Nat) (cellsOf' encI g.first) (cellsOf' encI (tkG g i).first))
def vcTk_q21 (g : Grp) (i : Itm) : Prop := (true = true ∧ List.length g.base.vot = List.length (tkG g i).base.vot ∧ contLe (List.length g.base.vot) (1 : Nat) (cellsOf' encI g.base.vot) (cellsOf' encI (tkG g i).base.vot))
def vcTk_q22 (g : Grp) (i : Itm) : Prop := (true = true ∧ List.length g.base.lea = List.length (tkG g i).base.lea ∧ contLe (List.length g.base.lea) (1 : Nat) (cellsOf' encI g.base.lea) (cellsOf' encI (tkG g i).base.lea))
def vcTk_q20 (g : Grp) (i : Itm) : Prop := (true = true ∧ List.length g.base.data = List.length (tkG g i).base.data ∧ contLe (List.length g.base.data) (1 : Nat) (cellsOf' encB g.base.data) (cellsOf' encB (tkG g i).base.data))
def vcTk_q30 (g : Grp) (i : Itm) : Prop := ((0 : Nat) = (0 : Nat) ∧ List.length g.first = List.length (tkG g i).first)
def vcTk_q18 (g : Grp) (i : Itm) : Prop := (List.length (List.take (Int.toNat (plc g.base.idx (Itm.at' i))) g.ents) + (1 : Nat) = List.length g.ents ∧ contLe (List.length (List.take (Int.toNat (plc g.base.idx (Itm.at' i))) g.ents) + (1 : Nat)) (6 : Nat) (appRow (List.length (List.take (Int.toNat (plc g.base.idx (Itm.at' i))) g.ents)) (cellsOf' encE (List.take (Int.toNat (plc g.base.idx (Itm.at' i))) g.ents)) fun (k j : Nat) => Ax.get [AV.y (Value.int IntKind.u64 i.ent.idx), AV.y (Value.int IntKind.u64 i.ent.term), AV.y (Value.int IntKind.i64 i.ent.kind), AV.ys true (1 : Nat) (List.length i.ent.data) (cellsOf' encB i.ent.data), AV.ys true (1 : Nat) (List.length i.ent.vot) (cellsOf' encI i.ent.vot), AV.ys true (1 : Nat) (List.length i.ent.lea) (cellsOf' encI i.ent.lea)] (k * (6 : Nat) + j)) (cellsOf' encE g.ents))
def vcTk_q6 (g : Grp) : Prop := (List.length g.first = List.length g.first ∧ contLe (List.length g.first) (1 : Nat) (cellsOf' encI g.first) (cellsOf' encI g.first))
def vcTk_q13 (g : Grp) : Prop := (true = true ∧ List.length g.base.vot = List.length g.base.vot ∧ contLe (List.length g.base.vot) (1 : Nat) (cellsOf' encI g.base.vot) (cellsOf' encI g.base.vot))
def vcTk_q14 (g : Grp) : Prop := (true = true ∧ List.length g.base.lea = List.length g.base.lea ∧ contLe (List.length g.base.lea) (1 : Nat) (cellsOf' encI g.base.lea) (cellsOf' encI g.base.lea))
def vcTk_q12 (g : Grp) : Prop := (true = true ∧ List.length g.base.data = List.length g.base.data ∧ contLe (List.length g.base.data) (1 : Nat) (cellsOf' encB g.base.data) (cellsOf' encB g.base.data))
def vcTk_q28 (g : Grp) (i : Itm) : Prop := (g.ht = g.ht ∧ g.hv = g.hv ∧ g.hc = g.hc ∧ g.base.idx = g.base.idx ∧ g.base.term = g.base.term ∧ (vcTk_q13 g) ∧ (vcTk_q14 g) ∧ (vcTk_q12 g) ∧ ((0 : Nat) = (0 : Nat) ∧ List.length (List.take (Int.toNat (plc g.base.idx (Itm.at' i))) g.ents) + (1 : Nat) = List.length g.ents) ∧ g.gone = g.gone ∧ ((0 : Nat) = (0 : Nat) ∧ List.length g.first = List.length g.first) ∧ True)
def vcTk_q4 (g : Grp) (i : Itm) : Prop := ((i.kind == (1 : Int)) = true → (vcTk_q23 i) ∧ True ∧ EntOk i.ent ∧ (decide (List.length (List.take (Int.toNat (plc g.base.idx (Itm.at' i))) g.ents) = List.length (List.take (Int.toNat (plc g.base.idx (Itm.at' i))) g.ents)) && decide (List.length (List.take (Int.toNat (plc g.base.idx (Itm.at' i))) g.ents) + (1 : Nat) ≤ (9223372036854775807 : Nat)) && decide ((List.length (List.take (Int.toNat (plc g.base.idx (Itm.at' i))) g.ents) + (1 : Nat)) * (96 : Nat) ≤ (140737488355328 : Nat))) = true ∧ ((tkE g i == (0 : Int)) = true → True ∧ (List.length (List.take (Int.toNat (plc g.base.idx (Itm.at' i))) g.ents) + (1 : Nat) = List.length (tkG g i).ents ∧ contLe (List.length (List.take (Int.toNat (plc g.base.idx (Itm.at' i))) g.ents) + (1 : Nat)) (6 : Nat) (appRow (List.length (List.take (Int.toNat (plc g.base.idx (Itm.at' i))) g.ents)) (cellsOf' encE (List.take (Int.toNat (plc g.base.idx (Itm.at' i))) g.ents)) fun (k j : Nat) => Ax.get [AV.y (Value.int IntKind.u64 i.ent.idx), AV.y (Value.int IntKind.u64 i.ent.term), AV.y (Value.int IntKind.i64 i.ent.kind), AV.ys true (1 : Nat) (List.length i.ent.data) (cellsOf' encB i.ent.data), AV.ys true (1 : Nat) (List.length i.ent.vot) (cellsOf' encI i.ent.vot), AV.ys true (1 : Nat) (List.length i.ent.lea) (cellsOf' encI i.ent.lea)] (k * (6 : Nat) + j)) (cellsOf' encE (tkG g i).ents)) ∧ (vcTk_q11 g i) ∧ (g.ht = (tkG g i).ht ∧ g.hv = (tkG g i).hv ∧ g.hc = (tkG g i).hc ∧ g.base.idx = (tkG g i).base.idx ∧ g.base.term = (tkG g i).base.term ∧ (vcTk_q21 g i) ∧ (vcTk_q22 g i) ∧ (vcTk_q20 g i) ∧ ((0 : Nat) = (0 : Nat) ∧ List.length (List.take (Int.toNat (plc g.base.idx (Itm.at' i))) g.ents) + (1 : Nat) = List.length (tkG g i).ents) ∧ g.gone = (tkG g i).gone ∧ (vcTk_q30 g i) ∧ True) ∧ True) ∧ ((tkE g i == (0 : Int)) = false → ((tkE g i == (1 : Int)) = true → False ∧ (vcTk_q18 g i) ∧ (vcTk_q6 g) ∧ (vcTk_q28 g i) ∧ True) ∧ ((tkE g i == (1 : Int)) = false → False ∧ (vcTk_q18 g i) ∧ (vcTk_q6 g) ∧ (vcTk_q28 g i) ∧ True)))
def vcTk_q29 (g : Grp) (i : Itm) : Prop := (g.ht = g.ht ∧ g.hv = g.hv ∧ g.hc = g.hc ∧ g.base.idx = g.base.idx ∧ g.base.term = g.base.term ∧ (vcTk_q13 g) ∧ (vcTk_q14 g) ∧ (vcTk_q12 g) ∧ ((0 : Nat) = (0 : Nat) ∧ List.length (List.take (Int.toNat (plc g.base.idx (Itm.at' i))) g.ents) = List.length g.ents) ∧ g.gone = g.gone ∧ ((0 : Nat) = (0 : Nat) ∧ List.length g.first = List.length g.first) ∧ True)
def vcTk_q7 (g : Grp) (i : Itm) : Prop := ((i.kind == (1 : Int)) = false → ((tkE g i == (0 : Int)) = true → True ∧ (List.length (List.take (Int.toNat (plc g.base.idx (Itm.at' i))) g.ents) = List.length (tkG g i).ents ∧ contLe (List.length (List.take (Int.toNat (plc g.base.idx (Itm.at' i))) g.ents)) (6 : Nat) (cellsOf' encE (List.take (Int.toNat (plc g.base.idx (Itm.at' i))) g.ents)) (cellsOf' encE (tkG g i).ents)) ∧ (vcTk_q11 g i) ∧ (g.ht = (tkG g i).ht ∧ g.hv = (tkG g i).hv ∧ g.hc = (tkG g i).hc ∧ g.base.idx = (tkG g i).base.idx ∧ g.base.term = (tkG g i).base.term ∧ (vcTk_q21 g i) ∧ (vcTk_q22 g i) ∧ (vcTk_q20 g i) ∧ ((0 : Nat) = (0 : Nat) ∧ List.length (List.take (Int.toNat (plc g.base.idx (Itm.at' i))) g.ents) = List.length (tkG g i).ents) ∧ g.gone = (tkG g i).gone ∧ (vcTk_q30 g i) ∧ True) ∧ True) ∧ ((tkE g i == (0 : Int)) = false → ((tkE g i == (1 : Int)) = true → False ∧ (List.length (List.take (Int.toNat (plc g.base.idx (Itm.at' i))) g.ents) = List.length g.ents ∧ contLe (List.length (List.take (Int.toNat (plc g.base.idx (Itm.at' i))) g.ents)) (6 : Nat) (cellsOf' encE (List.take (Int.toNat (plc g.base.idx (Itm.at' i))) g.ents)) (cellsOf' encE g.ents)) ∧ (vcTk_q6 g) ∧ (vcTk_q29 g i) ∧ True) ∧ ((tkE g i == (1 : Int)) = false → False ∧ (List.length (List.take (Int.toNat (plc g.base.idx (Itm.at' i))) g.ents) = List.length g.ents ∧ contLe (List.length (List.take (Int.toNat (plc g.base.idx (Itm.at' i))) g.ents)) (6 : Nat) (cellsOf' encE (List.take (Int.toNat (plc g.base.idx (Itm.at' i))) g.ents)) (cellsOf' encE g.ents)) ∧ (vcTk_q6 g) ∧ (vcTk_q29 g i) ∧ True)))
def vcTk_q24 (g : Grp) (i : Itm) : Prop := (List.length g.ents + (1 : Nat) = List.length g.ents ∧ contLe (List.length g.ents + (1 : Nat)) (6 : Nat) (appRow (List.length g.ents) (cellsOf' encE g.ents) fun (k j : Nat) => Ax.get [AV.y (Value.int IntKind.u64 i.ent.idx), AV.y (Value.int IntKind.u64 i.ent.term), AV.y (Value.int IntKind.i64 i.ent.kind), AV.ys true (1 : Nat) (List.length i.ent.data) (cellsOf' encB i.ent.data), AV.ys true (1 : Nat) (List.length i.ent.vot) (cellsOf' encI i.ent.vot), AV.ys true (1 : Nat) (List.length i.ent.lea) (cellsOf' encI i.ent.lea)] (k * (6 : Nat) + j)) (cellsOf' encE g.ents))
def vcTk_q5 (g : Grp) (i : Itm) : Prop := ((i.kind == (1 : Int)) = true → (vcTk_q23 i) ∧ True ∧ EntOk i.ent ∧ (decide (List.length g.ents = List.length g.ents) && decide (List.length g.ents + (1 : Nat) ≤ (9223372036854775807 : Nat)) && decide ((List.length g.ents + (1 : Nat)) * (96 : Nat) ≤ (140737488355328 : Nat))) = true ∧ ((tkE g i == (0 : Int)) = true → True ∧ (List.length g.ents + (1 : Nat) = List.length (tkG g i).ents ∧ contLe (List.length g.ents + (1 : Nat)) (6 : Nat) (appRow (List.length g.ents) (cellsOf' encE g.ents) fun (k j : Nat) => Ax.get [AV.y (Value.int IntKind.u64 i.ent.idx), AV.y (Value.int IntKind.u64 i.ent.term), AV.y (Value.int IntKind.i64 i.ent.kind), AV.ys true (1 : Nat) (List.length i.ent.data) (cellsOf' encB i.ent.data), AV.ys true (1 : Nat) (List.length i.ent.vot) (cellsOf' encI i.ent.vot), AV.ys true (1 : Nat) (List.length i.ent.lea) (cellsOf' encI i.ent.lea)] (k * (6 : Nat) + j)) (cellsOf' encE (tkG g i).ents)) ∧ (vcTk_q11 g i) ∧ (g.ht = (tkG g i).ht ∧ g.hv = (tkG g i).hv ∧ g.hc = (tkG g i).hc ∧ g.base.idx = (tkG g i).base.idx ∧ g.base.term = (tkG g i).base.term ∧ (vcTk_q21 g i) ∧ (vcTk_q22 g i) ∧ (vcTk_q20 g i) ∧ ((0 : Nat) = (0 : Nat) ∧ List.length g.ents + (1 : Nat) = List.length (tkG g i).ents) ∧ g.gone = (tkG g i).gone ∧ (vcTk_q30 g i) ∧ True) ∧ True) ∧ ((tkE g i == (0 : Int)) = false → ((tkE g i == (1 : Int)) = true → False ∧ (vcTk_q24 g i) ∧ (vcTk_q6 g) ∧ (g.ht = g.ht ∧ g.hv = g.hv ∧ g.hc = g.hc ∧ g.base.idx = g.base.idx ∧ g.base.term = g.base.term ∧ (vcTk_q13 g) ∧ (vcTk_q14 g) ∧ (vcTk_q12 g) ∧ ((0 : Nat) = (0 : Nat) ∧ List.length g.ents + (1 : Nat) = List.length g.ents) ∧ g.gone = g.gone ∧ ((0 : Nat) = (0 : Nat) ∧ List.length g.first = List.length g.first) ∧ True) ∧ True) ∧ ((tkE g i == (1 : Int)) = false → False ∧ (vcTk_q24 g i) ∧ (vcTk_q6 g) ∧ (g.ht = g.ht ∧ g.hv = g.hv ∧ g.hc = g.hc ∧ g.base.idx = g.base.idx ∧ g.base.term = g.base.term ∧ (vcTk_q13 g) ∧ (vcTk_q14 g) ∧ (vcTk_q12 g) ∧ ((0 : Nat) = (0 : Nat) ∧ List.length g.ents + (1 : Nat) = List.length g.ents) ∧ g.gone = g.gone ∧ ((0 : Nat) = (0 : Nat) ∧ List.length g.first = List.length g.first) ∧ True) ∧ True)))
def vcTk_q25 (g : Grp) (i : Itm) : Prop := (List.length g.ents = List.length (tkG g i).ents ∧ contLe (List.length g.ents) (6 : Nat) (cellsOf' encE g.ents) (cellsOf' encE (tkG g i).ents))
def vcTk_q9 (g : Grp) (i : Itm) : Prop := (g.ht = (tkG g i).ht ∧ g.hv = (tkG g i).hv ∧ g.hc = (tkG g i).hc ∧ g.base.idx = (tkG g i).base.idx ∧ g.base.term = (tkG g i).base.term ∧ (vcTk_q21 g i) ∧ (vcTk_q22 g i) ∧ (vcTk_q20 g i) ∧ ((0 : Nat) = (0 : Nat) ∧ List.length g.ents = List.length (tkG g i).ents) ∧ g.gone = (tkG g i).gone ∧ (vcTk_q30 g i) ∧ True)
def vcTk_q8 (g : Grp) : Prop := (List.length g.ents = List.length g.ents ∧ contLe (List.length g.ents) (6 : Nat) (cellsOf' encE g.ents) (cellsOf' encE g.ents))
def vcTk_q2 (g : Grp) : Prop := (g.ht = g.ht ∧ g.hv = g.hv ∧ g.hc = g.hc ∧ g.base.idx = g.base.idx ∧ g.base.term = g.base.term ∧ (vcTk_q13 g) ∧ (vcTk_q14 g) ∧ (vcTk_q12 g) ∧ ((0 : Nat) = (0 : Nat) ∧ List.length g.ents = List.length g.ents) ∧ g.gone = g.gone ∧ ((0 : Nat) = (0 : Nat) ∧ List.length g.first = List.length g.first) ∧ True)
def vcTk_q19 (g : Grp) (i : Itm) : Prop := ((tkE g i == (1 : Int)) = true → False ∧ (vcTk_q8 g) ∧ (vcTk_q6 g) ∧ (vcTk_q2 g) ∧ True)
def vcTk_q1 (g : Grp) (i : Itm) : Prop := (decide (i.ent.idx ≤ g.base.idx) = false → true = true ∧ True ∧ (decide (IntKind.wrap IntKind.u64 (IntKind.wrap IntKind.u64 (i.ent.idx - g.base.idx) - (1 : Int)) < IntKind.wrap IntKind.u64 (↑(List.length g.ents) : Int)) = true → (true && decide ((0 : Int) ≤ IntKind.wrap IntKind.u64 (IntKind.wrap IntKind.u64 (i.ent.idx - g.base.idx) - (1 : Int))) && decide (IntKind.wrap IntKind.u64 (IntKind.wrap IntKind.u64 (i.ent.idx - g.base.idx) - (1 : Int)) ≤ (↑(List.length g.ents) : Int))) = true ∧ ((false = false ∧ Int.toNat (IntKind.wrap IntKind.u64 (IntKind.wrap IntKind.u64 (i.ent.idx - g.base.idx) - (1 : Int))) - (0 : Nat) = List.length (List.take (Int.toNat (plc g.base.idx (Itm.at' i))) g.ents) ∧ contLe (Int.toNat (IntKind.wrap IntKind.u64 (IntKind.wrap IntKind.u64 (i.ent.idx - g.base.idx) - (1 : Int))) - (0 : Nat)) (6 : Nat) (Ax.rowAt (0 : Nat) (cellsOf' encE g.ents)) (cellsOf' encE (List.take (Int.toNat (plc g.base.idx (Itm.at' i))) g.ents))) ∧ True) ∧ True ∧ List.length (List.take (Int.toNat (plc g.base.idx (Itm.at' i))) g.ents) * (96 : Nat) ≤ (140737488355328 : Nat) ∧ true = true ∧ ((∀ (k : Nat), k < List.length (List.take (Int.toNat (plc g.base.idx (Itm.at' i))) g.ents) → ∀ (j : Nat), j < (6 : Nat) → tagT (cellsOf' encE (List.take (Int.toNat (plc g.base.idx (Itm.at' i))) g.ents) k j) = true) ∧ True) ∧ (vcTk_q4 g i) ∧ (vcTk_q7 g i)) ∧ (decide (IntKind.wrap IntKind.u64 (IntKind.wrap IntKind.u64 (i.ent.idx - g.base.idx) - (1 : Int)) < IntKind.wrap IntKind.u64 (↑(List.length g.ents) : Int)) = false → (vcTk_q5 g i) ∧ ((i.kind == (1 : Int)) = false → ((tkE g i == (0 : Int)) = true → True ∧ (vcTk_q25 g i) ∧ (vcTk_q11 g i) ∧ (vcTk_q9 g i) ∧ True) ∧ ((tkE g i == (0 : Int)) = false → (vcTk_q19 g i) ∧ ((tkE g i == (1 : Int)) = false → False ∧ (vcTk_q8 g) ∧ (vcTk_q6 g) ∧ (vcTk_q2 g) ∧ True)))))
def vcTk_q3 (g : Grp) (i : Itm) : Prop := ((tkE g i == (0 : Int)) = true → False ∧ (vcTk_q25 g i) ∧ (vcTk_q11 g i) ∧ (vcTk_q9 g i) ∧ True)
def vcTk_q10 (g : Grp) (i : Itm) : Prop := (g.ht = g.ht ∧ g.hv = g.hv ∧ g.hc = g.hc ∧ i.snap.idx = g.base.idx ∧ i.snap.term = g.base.term ∧ (true = true ∧ List.length i.snap.vot = List.length g.base.vot ∧ contLe (List.length i.snap.vot) (1 : Nat) (cellsOf' encI i.snap.vot) (cellsOf' encI g.base.vot)) ∧ (true = true ∧ List.length i.snap.lea = List.length g.base.lea ∧ contLe (List.length i.snap.lea) (1 : Nat) (cellsOf' encI i.snap.lea) (cellsOf' encI g.base.lea)) ∧ (true = true ∧ List.length i.snap.data = List.length g.base.data ∧ contLe (List.length i.snap.data) (1 : Nat) (cellsOf' encB i.snap.data) (cellsOf' encB g.base.data)) ∧ ((0 : Nat) = (0 : Nat) ∧ (0 : Nat) = List.length g.ents) ∧ g.gone = g.gone ∧ ((0 : Nat) = (0 : Nat) ∧ List.length g.first = List.length g.first) ∧ True)
def vcTk_q15 (i : Itm) : Prop := ((i.snap.idx = i.snap.idx ∧ i.snap.term = i.snap.term ∧ (true = true ∧ List.length i.snap.vot = List.length i.snap.vot ∧ contLe (List.length i.snap.vot) (1 : Nat) (cellsOf' encI i.snap.vot) (cellsOf' encI i.snap.vot)) ∧ (true = true ∧ List.length i.snap.lea = List.length i.snap.lea ∧ contLe (List.length i.snap.lea) (1 : Nat) (cellsOf' encI i.snap.lea) (cellsOf' encI i.snap.lea)) ∧ (true = true ∧ List.length i.snap.data = List.length i.snap.data ∧ contLe (List.length i.snap.data) (1 : Nat) (cellsOf' encB i.snap.data) (cellsOf' encB i.snap.data)) ∧ True) ∧ True)
def vcTk_q16 (g : Grp) (i : Itm) : Prop := ((tkE g i == (0 : Int)) = true → True ∧ ((0 : Nat) = List.length (tkG g i).ents ∧ contLe (0 : Nat) (6 : Nat) (fun (x x_1 : Nat) => AV.junk) (cellsOf' encE (tkG g i).ents)) ∧ (vcTk_q11 g i) ∧ (g.ht = (tkG g i).ht ∧ g.hv = (tkG g i).hv ∧ g.hc = (tkG g i).hc ∧ i.snap.idx = (tkG g i).base.idx ∧ i.snap.term = (tkG g i).base.term ∧ (true = true ∧ List.length i.snap.vot = List.length (tkG g i).base.vot ∧ contLe (List.length i.snap.vot) (1 : Nat) (cellsOf' encI i.snap.vot) (cellsOf' encI (tkG g i).base.vot)) ∧ (true = true ∧ List.length i.snap.lea = List.length (tkG g i).base.lea ∧ contLe (List.length i.snap.lea) (1 : Nat) (cellsOf' encI i.snap.lea) (cellsOf' encI (tkG g i).base.lea)) ∧ (true = true ∧ List.length i.snap.data = List.length (tkG g i).base.data ∧ contLe (List.length i.snap.data) (1 : Nat) (cellsOf' encB i.snap.data) (cellsOf' encB (tkG g i).base.data)) ∧ ((0 : Nat) = (0 : Nat) ∧ (0 : Nat) = List.length (tkG g i).ents) ∧ g.gone = (tkG g i).gone ∧ (vcTk_q30 g i) ∧ True) ∧ True)
def vcTk_q17 (g : Grp) (i : Itm) : Prop := (g.ht = g.ht ∧ g.hv = g.hv ∧ g.hc = g.hc ∧ i.snap.idx = g.base.idx ∧ i.snap.term = g.base.term ∧ (true = true ∧ List.length i.snap.vot = List.length g.base.vot ∧ contLe (List.length i.snap.vot) (1 : Nat) (cellsOf' encI i.snap.vot) (cellsOf' encI g.base.vot)) ∧ (true = true ∧ List.length i.snap.lea = List.length g.base.lea ∧ contLe (List.length i.snap.lea) (1 : Nat) (cellsOf' encI i.snap.lea) (cellsOf' encI g.base.lea)) ∧ (true = true ∧ List.length i.snap.data = List.length g.base.data ∧ contLe (List.length i.snap.data) (1 : Nat) (cellsOf' encB i.snap.data) (cellsOf' encB g.base.data)) ∧ ((0 : Nat) = (0 : Nat) ∧ List.length (List.drop (Int.toNat (plc g.base.idx i.snap.idx) + (1 : Nat)) g.ents) = List.length g.ents) ∧ g.gone = g.gone ∧ ((0 : Nat) = (0 : Nat) ∧ List.length g.first = List.length g.first) ∧ True)
def vcTk_q26 (g : Grp) (i : Itm) : Prop := ((tkE g i == (0 : Int)) = false → ((tkE g i == (1 : Int)) = true → False ∧ ((0 : Nat) = List.length g.ents ∧ contLe (0 : Nat) (6 : Nat) (fun (x x_1 : Nat) => AV.junk) (cellsOf' encE g.ents)) ∧ (vcTk_q6 g) ∧ (vcTk_q10 g i) ∧ True) ∧ ((tkE g i == (1 : Int)) = false → False ∧ ((0 : Nat) = List.length g.ents ∧ contLe (0 : Nat) (6 : Nat) (fun (x x_1 : Nat) => AV.junk) (cellsOf' encE g.ents)) ∧ (vcTk_q6 g) ∧ (vcTk_q10 g i) ∧ True))
def vcTk_q27 (g : Grp) (i : Itm) : Prop := ((tkE g i == (0 : Int)) = false → (vcTk_q19 g i) ∧ ((tkE g i == (1 : Int)) = false → (51 : Int) = tkE g i ∧ (vcTk_q8 g) ∧ (vcTk_q6 g) ∧ (vcTk_q2 g) ∧ True))
def vcTk (g : Grp) (i : Itm) : Prop :=
  ((i.kind == (2 : Int)) = true → (decide (i.ht < g.ht) = true → (vcTk_q3 g i) ∧ ((tkE g i == (0 : Int)) = false → (vcTk_q19 g i) ∧ ((tkE g i == (1 : Int)) = false → (52 : Int) = tkE g i ∧ (vcTk_q8 g) ∧ (vcTk_q6 g) ∧ (vcTk_q2 g) ∧ True))) ∧ (decide (i.ht < g.ht) = false → ((tkE g i == (0 : Int)) = true → True ∧ (vcTk_q25 g i) ∧ (vcTk_q11 g i) ∧ (i.ht = (tkG g i).ht ∧ i.hv = (tkG g i).hv ∧ i.hc = (tkG g i).hc ∧ g.base.idx = (tkG g i).base.idx ∧ g.base.term = (tkG g i).base.term ∧ (vcTk_q21 g i) ∧ (vcTk_q22 g i) ∧ (vcTk_q20 g i) ∧ ((0 : Nat) = (0 : Nat) ∧ List.length g.ents = List.length (tkG g i).ents) ∧ g.gone = (tkG g i).gone ∧ (vcTk_q30 g i) ∧ True) ∧ True) ∧ ((tkE g i == (0 : Int)) = false → ((tkE g i == (1 : Int)) = true → False ∧ (vcTk_q8 g) ∧ (vcTk_q6 g) ∧ (i.ht = g.ht ∧ i.hv = g.hv ∧ i.hc = g.hc ∧ g.base.idx = g.base.idx ∧ g.base.term = g.base.term ∧ (vcTk_q13 g) ∧ (vcTk_q14 g) ∧ (vcTk_q12 g) ∧ ((0 : Nat) = (0 : Nat) ∧ List.length g.ents = List.length g.ents) ∧ g.gone = g.gone ∧ ((0 : Nat) = (0 : Nat) ∧ List.length g.first = List.length g.first) ∧ True) ∧ True) ∧ ((tkE g i == (1 : Int)) = false → False ∧ (vcTk_q8 g) ∧ (vcTk_q6 g) ∧ (i.ht = g.ht ∧ i.hv = g.hv ∧ i.hc = g.hc ∧ g.base.idx = g.base.idx ∧ g.base.term = g.base.term ∧ (vcTk_q13 g) ∧ (vcTk_q14 g) ∧ (vcTk_q12 g) ∧ ((0 : Nat) = (0 : Nat) ∧ List.length g.ents = List.length g.ents) ∧ g.gone = g.gone ∧ ((0 : Nat) = (0 : Nat) ∧ List.length g.first = List.length g.first) ∧ True) ∧ True)))) ∧ ((i.kind == (2 : Int)) = false → ((i.kind == (4 : Int)) = true → (decide (i.snap.idx ≤ g.base.idx) = true → (vcTk_q3 g i) ∧ ((tkE g i == (0 : Int)) = false → ((tkE g i == (1 : Int)) = true → True ∧ (vcTk_q8 g) ∧ (vcTk_q6 g) ∧ (vcTk_q2 g) ∧ True) ∧ ((tkE g i == (1 : Int)) = false → False ∧ (vcTk_q8 g) ∧ (vcTk_q6 g) ∧ (vcTk_q2 g) ∧ True))) ∧ (decide (i.snap.idx ≤ g.base.idx) = false → true = true ∧ True ∧ (decide (IntKind.wrap IntKind.u64 (IntKind.wrap IntKind.u64 (i.snap.idx - g.base.idx) - (1 : Int)) < IntKind.wrap IntKind.u64 (↑(List.length g.ents) : Int)) = true → (decide ((0 : Int) ≤ IntKind.wrap IntKind.u64 (IntKind.wrap IntKind.u64 (i.snap.idx - g.base.idx) - (1 : Int))) && decide (IntKind.wrap IntKind.u64 (IntKind.wrap IntKind.u64 (i.snap.idx - g.base.idx) - (1 : Int)) < (↑(List.length g.ents) : Int))) = true ∧ decide ((0 : Nat) + Int.toNat (IntKind.wrap IntKind.u64 (IntKind.wrap IntKind.u64 (i.snap.idx - g.base.idx) - (1 : Int))) < List.length g.ents) = true ∧ (((List.getD g.ents ((0 : Nat) + Int.toNat (IntKind.wrap IntKind.u64 (IntKind.wrap IntKind.u64 (i.snap.idx - g.base.idx) - (1 : Int)))) (@default Ent instInhabitedEnt)).term == i.snap.term) = true → (decide ((0 : Int) ≤ IntKind.wrap IntKind.u64 (IntKind.wrap IntKind.u64 (IntKind.wrap IntKind.u64 (i.snap.idx - g.base.idx) - (1 : Int)) + (1 : Int))) && decide (IntKind.wrap IntKind.u64 (IntKind.wrap IntKind.u64 (IntKind.wrap IntKind.u64 (i.snap.idx - g.base.idx) - (1 : Int)) + (1 : Int)) ≤ (↑(List.length g.ents) : Int)) && decide ((↑(List.length g.ents) : Int) ≤ (↑(List.length g.ents) : Int))) = true ∧ ((false = false ∧ Int.toNat (↑(List.length g.ents) : Int) - Int.toNat (IntKind.wrap IntKind.u64 (IntKind.wrap IntKind.u64 (IntKind.wrap IntKind.u64 (i.snap.idx - g.base.idx) - (1 : Int)) + (1 : Int))) = List.length (List.drop (Int.toNat (plc g.base.idx i.snap.idx) + (1 : Nat)) g.ents) ∧ contLe (Int.toNat (↑(List.length g.ents) : Int) - Int.toNat (IntKind.wrap IntKind.u64 (IntKind.wrap IntKind.u64 (IntKind.wrap IntKind.u64 (i.snap.idx - g.base.idx) - (1 : Int)) + (1 : Int)))) (6 : Nat) (Ax.rowAt ((0 : Nat) + Int.toNat (IntKind.wrap IntKind.u64 (IntKind.wrap IntKind.u64 (IntKind.wrap IntKind.u64 (i.snap.idx - g.base.idx) - (1 : Int)) + (1 : Int)))) (cellsOf' encE g.ents)) (cellsOf' encE (List.drop (Int.toNat (plc g.base.idx i.snap.idx) + (1 : Nat)) g.ents))) ∧ True) ∧ True ∧ List.length (List.drop (Int.toNat (plc g.base.idx i.snap.idx) + (1 : Nat)) g.ents) * (96 : Nat) ≤ (140737488355328 : Nat) ∧ true = true ∧ ((∀ (k : Nat), k < List.length (List.drop (Int.toNat (plc g.base.idx i.snap.idx) + (1 : Nat)) g.ents) → ∀ (j : Nat), j < (6 : Nat) → tagT (cellsOf' encE (List.drop (Int.toNat (plc g.base.idx i.snap.idx) + (1 : Nat)) g.ents) k j) = true) ∧ True) ∧ (vcTk_q15 i) ∧ True ∧ SnpOk i.snap ∧ ((tkE g i == (0 : Int)) = true → True ∧ (List.length (List.drop (Int.toNat (plc g.base.idx i.snap.idx) + (1 : Nat)) g.ents) = List.length (tkG g i).ents ∧ contLe (List.length (List.drop (Int.toNat (plc g.base.idx i.snap.idx) + (1 : Nat)) g.ents)) (6 : Nat) (cellsOf' encE (List.drop (Int.toNat (plc g.base.idx i.snap.idx) + (1 : Nat)) g.ents)) (cellsOf' encE (tkG g i).ents)) ∧ (vcTk_q11 g i) ∧ (g.ht = (tkG g i).ht ∧ g.hv = (tkG g i).hv ∧ g.hc = (tkG g i).hc ∧ i.snap.idx = (tkG g i).base.idx ∧ i.snap.term = (tkG g i).base.term ∧ (true = true ∧ List.length i.snap.vot = List.length (tkG g i).base.vot ∧ contLe (List.length i.snap.vot) (1 : Nat) (cellsOf' encI i.snap.vot) (cellsOf' encI (tkG g i).base.vot)) ∧ (true = true ∧ List.length i.snap.lea = List.length (tkG g i).base.lea ∧ contLe (List.length i.snap.lea) (1 : Nat) (cellsOf' encI i.snap.lea) (cellsOf' encI (tkG g i).base.lea)) ∧ (true = true ∧ List.length i.snap.data = List.length (tkG g i).base.data ∧ contLe (List.length i.snap.data) (1 : Nat) (cellsOf' encB i.snap.data) (cellsOf' encB (tkG g i).base.data)) ∧ ((0 : Nat) = (0 : Nat) ∧ List.length (List.drop (Int.toNat (plc g.base.idx i.snap.idx) + (1 : Nat)) g.ents) = List.length (tkG g i).ents) ∧ g.gone = (tkG g i).gone ∧ (vcTk_q30 g i) ∧ True) ∧ True) ∧ ((tkE g i == (0 : Int)) = false → ((tkE g i == (1 : Int)) = true → False ∧ (List.length (List.drop (Int.toNat (plc g.base.idx i.snap.idx) + (1 : Nat)) g.ents) = List.length g.ents ∧ contLe (List.length (List.drop (Int.toNat (plc g.base.idx i.snap.idx) + (1 : Nat)) g.ents)) (6 : Nat) (cellsOf' encE (List.drop (Int.toNat (plc g.base.idx i.snap.idx) + (1 : Nat)) g.ents)) (cellsOf' encE g.ents)) ∧ (vcTk_q6 g) ∧ (vcTk_q17 g i) ∧ True) ∧ ((tkE g i == (1 : Int)) = false → False ∧ (List.length (List.drop (Int.toNat (plc g.base.idx i.snap.idx) + (1 : Nat)) g.ents) = List.length g.ents ∧ contLe (List.length (List.drop (Int.toNat (plc g.base.idx i.snap.idx) + (1 : Nat)) g.ents)) (6 : Nat) (cellsOf' encE (List.drop (Int.toNat (plc g.base.idx i.snap.idx) + (1 : Nat)) g.ents)) (cellsOf' encE g.ents)) ∧ (vcTk_q6 g) ∧ (vcTk_q17 g i) ∧ True))) ∧ (((List.getD g.ents ((0 : Nat) + Int.toNat (IntKind.wrap IntKind.u64 (IntKind.wrap IntKind.u64 (i.snap.idx - g.base.idx) - (1 : Int)))) (@default Ent instInhabitedEnt)).term == i.snap.term) = false → (vcTk_q15 i) ∧ True ∧ SnpOk i.snap ∧ (vcTk_q16 g i) ∧ (vcTk_q26 g i))) ∧ (decide (IntKind.wrap IntKind.u64 (IntKind.wrap IntKind.u64 (i.snap.idx - g.base.idx) - (1 : Int)) < IntKind.wrap IntKind.u64 (↑(List.length g.ents) : Int)) = false → (vcTk_q15 i) ∧ True ∧ SnpOk i.snap ∧ (vcTk_q16 g i) ∧ (vcTk_q26 g i)))) ∧ ((i.kind == (4 : Int)) = false → ((i.kind == (1 : Int)) = true → true = true ∧ True ∧ ((i.ent.idx == (0 : Int)) = true → (vcTk_q3 g i) ∧ ((tkE g i == (0 : Int)) = false → (vcTk_q19 g i) ∧ ((tkE g i == (1 : Int)) = false → (54 : Int) = tkE g i ∧ (vcTk_q8 g) ∧ (vcTk_q6 g) ∧ (vcTk_q2 g) ∧ True))) ∧ ((i.ent.idx == (0 : Int)) = false → (decide (i.ent.idx ≤ g.base.idx) = true → (vcTk_q3 g i) ∧ ((tkE g i == (0 : Int)) = false → ((tkE g i == (1 : Int)) = true → True ∧ (vcTk_q8 g) ∧ (vcTk_q6 g) ∧ (vcTk_q2 g) ∧ True) ∧ ((tkE g i == (1 : Int)) = false → False ∧ (vcTk_q8 g) ∧ (vcTk_q6 g) ∧ (vcTk_q2 g) ∧ True))) ∧ (decide (i.ent.idx ≤ g.base.idx) = false → (decide (IntKind.wrap IntKind.u64 (↑(List.length g.ents) : Int) < IntKind.wrap IntKind.u64 (IntKind.wrap IntKind.u64 (i.ent.idx - g.base.idx) - (1 : Int))) = true → (vcTk_q3 g i) ∧ (vcTk_q27 g i)) ∧ (decide (IntKind.wrap IntKind.u64 (↑(List.length g.ents) : Int) < IntKind.wrap IntKind.u64 (IntKind.wrap IntKind.u64 (i.ent.idx - g.base.idx) - (1 : Int))) = false → (decide ((0 : Int) < IntKind.wrap IntKind.u64 (IntKind.wrap IntKind.u64 (i.ent.idx - g.base.idx) - (1 : Int))) = true → (decide ((0 : Int) ≤ IntKind.wrap IntKind.u64 (IntKind.wrap IntKind.u64 (IntKind.wrap IntKind.u64 (i.ent.idx - g.base.idx) - (1 : Int)) - (1 : Int))) && decide (IntKind.wrap IntKind.u64 (IntKind.wrap IntKind.u64 (IntKind.wrap IntKind.u64 (i.ent.idx - g.base.idx) - (1 : Int)) - (1 : Int)) < (↑(List.length g.ents) : Int))) = true ∧ true = true ∧ True ∧ (decide (i.ent.term < (List.getD g.ents (Int.toNat (IntKind.wrap IntKind.u64 (IntKind.wrap IntKind.u64 (IntKind.wrap IntKind.u64 (i.ent.idx - g.base.idx) - (1 : Int)) - (1 : Int)))) (@default Ent instInhabitedEnt)).term) = true → (vcTk_q3 g i) ∧ ((tkE g i == (0 : Int)) = false → (vcTk_q19 g i) ∧ ((tkE g i == (1 : Int)) = false → (52 : Int) = tkE g i ∧ (vcTk_q8 g) ∧ (vcTk_q6 g) ∧ (vcTk_q2 g) ∧ True))) ∧ (decide (i.ent.term < (List.getD g.ents (Int.toNat (IntKind.wrap IntKind.u64 (IntKind.wrap IntKind.u64 (IntKind.wrap IntKind.u64 (i.ent.idx - g.base.idx) - (1 : Int)) - (1 : Int)))) (@default Ent instInhabitedEnt)).term) = false → (decide (i.ent.idx ≤ g.base.idx) = true → (vcTk_q3 g i) ∧ (vcTk_q27 g i)) ∧ (vcTk_q1 g i))) ∧ (decide ((0 : Int) < IntKind.wrap IntKind.u64 (IntKind.wrap IntKind.u64 (i.ent.idx - g.base.idx) - (1 : Int))) = false → true = true ∧ True ∧ (decide (i.ent.term < g.base.term) = true → (vcTk_q3 g i) ∧ ((tkE g i == (0 : Int)) = false → (vcTk_q19 g i) ∧ ((tkE g i == (1 : Int)) = false → (52 : Int) = tkE g i ∧ (vcTk_q8 g) ∧ (vcTk_q6 g) ∧ (vcTk_q2 g) ∧ True))) ∧ (decide (i.ent.term < g.base.term) = false → (decide (i.ent.idx ≤ g.base.idx) = true → (vcTk_q3 g i) ∧ (vcTk_q27 g i)) ∧ (vcTk_q1 g i))))))) ∧ ((i.kind == (1 : Int)) = false → ((i.kind == (3 : Int)) = true → (decide (i.index ≤ g.base.idx) = true → (vcTk_q3 g i) ∧ (vcTk_q27 g i)) ∧ (decide (i.index ≤ g.base.idx) = false → true = true ∧ True ∧ (decide (IntKind.wrap IntKind.u64 (IntKind.wrap IntKind.u64 (i.index - g.base.idx) - (1 : Int)) < IntKind.wrap IntKind.u64 (↑(List.length g.ents) : Int)) = true → (true && decide ((0 : Int) ≤ IntKind.wrap IntKind.u64 (IntKind.wrap IntKind.u64 (i.index - g.base.idx) - (1 : Int))) && decide (IntKind.wrap IntKind.u64 (IntKind.wrap IntKind.u64 (i.index - g.base.idx) - (1 : Int)) ≤ (↑(List.length g.ents) : Int))) = true ∧ ((false = false ∧ Int.toNat (IntKind.wrap IntKind.u64 (IntKind.wrap IntKind.u64 (i.index - g.base.idx) - (1 : Int))) - (0 : Nat) = List.length (List.take (Int.toNat (plc g.base.idx (Itm.at' i))) g.ents) ∧ contLe (Int.toNat (IntKind.wrap IntKind.u64 (IntKind.wrap IntKind.u64 (i.index - g.base.idx) - (1 : Int))) - (0 : Nat)) (6 : Nat) (Ax.rowAt (0 : Nat) (cellsOf' encE g.ents)) (cellsOf' encE (List.take (Int.toNat (plc g.base.idx (Itm.at' i))) g.ents))) ∧ True) ∧ True ∧ List.length (List.take (Int.toNat (plc g.base.idx (Itm.at' i))) g.ents) * (96 : Nat) ≤ (140737488355328 : Nat) ∧ true = true ∧ ((∀ (k : Nat), k < List.length (List.take (Int.toNat (plc g.base.idx (Itm.at' i))) g.ents) → ∀ (j : Nat), j < (6 : Nat) → tagT (cellsOf' encE (List.take (Int.toNat (plc g.base.idx (Itm.at' i))) g.ents) k j) = true) ∧ True) ∧ (vcTk_q4 g i) ∧ (vcTk_q7 g i)) ∧ (decide (IntKind.wrap IntKind.u64 (IntKind.wrap IntKind.u64 (i.index - g.base.idx) - (1 : Int)) < IntKind.wrap IntKind.u64 (↑(List.length g.ents) : Int)) = false → (vcTk_q5 g i) ∧ ((i.kind == (1 : Int)) = false → ((tkE g i == (0 : Int)) = true → True ∧ (vcTk_q25 g i) ∧ (vcTk_q11 g i) ∧ (vcTk_q9 g i) ∧ True) ∧ ((tkE g i == (0 : Int)) = false → (vcTk_q19 g i) ∧ ((tkE g i == (1 : Int)) = false → False ∧ (vcTk_q8 g) ∧ (vcTk_q6 g) ∧ (vcTk_q2 g) ∧ True)))))) ∧ ((i.kind == (3 : Int)) = false → ((tkE g i == (0 : Int)) = true → True ∧ (vcTk_q25 g i) ∧ (vcTk_q11 g i) ∧ (vcTk_q9 g i) ∧ True) ∧ ((tkE g i == (0 : Int)) = false → (vcTk_q19 g i) ∧ ((tkE g i == (1 : Int)) = false → False ∧ (vcTk_q8 g) ∧ (vcTk_q6 g) ∧ (vcTk_q2 g) ∧ True))))))
theorem vcTk_eq (g : Grp) (i : Itm) : (ctrVC Try.prog (tkH g i) 46 [.ptr 5 0 0 0, .agg (encIt i)] (grM g) (tkR g i)) = vcTk g i := by kernel_rfl
end Go.Proofs.Ytccfojpdkbaekaa.W
