import Derived.Test.YtccfojpdkbaekaaW3
set_option linter.unusedVariables false
set_option linter.unusedSimpArgs false
set_option linter.unusedSectionVars false
namespace Go.Proofs.Ytccfojpdkbaekaa.W
open Go.Ax
set_option maxRecDepth 1000000
structure IdxRoom (x : Idx) : Prop where
  r : ∀ k, x.has k = true → ((x.g k).ents.length + 1) * 96 ≤ 140737488355328
theorem IdxRoom.view {x : Idx} (h : IdxRoom x) (k : Int) : ((x.view k).ents.length + 1) * 96 ≤ 140737488355328 := by
  cases hk : x.has k with
  | true => rw [x.view_t hk]; exact h.r k hk
  | false => rw [x.view_f hk]; simp [default]
theorem one_le (x : Int) : lstLe 1 1 [AV.y (Value.int IntKind.i64 x)] (cellsOf' encI [x]) := by
  intro k hk j hj
  obtain rfl : k = 0 := by omega
  obtain rfl : j = 0 := by omega
  exact ⟨le0_refl _, rfl⟩
theorem updBi_same {f : Int → Bool} {k : Int} (h : f k = true) (y : Int) : updBi f k y = f y := by
  unfold updBi
  by_cases hy : k = y
  · subst hy; simp [h]
  · simp [hy]
@[simp] theorem dfS1 : (default : Snp).idx = 0 := rfl
@[simp] theorem dfS2 : (default : Snp).term = 0 := rfl
@[simp] theorem dfS3 : (default : Snp).vot = [] := rfl
@[simp] theorem dfS4 : (default : Snp).lea = [] := rfl
@[simp] theorem dfS5 : (default : Snp).data = [] := rfl
@[simp] theorem dfG1 : (default : Grp).ht = 0 := rfl
@[simp] theorem dfG2 : (default : Grp).hv = 0 := rfl
@[simp] theorem dfG3 : (default : Grp).hc = 0 := rfl
@[simp] theorem dfG4 : (default : Grp).base = default := rfl
@[simp] theorem dfG5 : (default : Grp).ents = [] := rfl
@[simp] theorem dfG6 : (default : Grp).gone = false := rfl
@[simp] theorem dfG7 : (default : Grp).first = [] := rfl
theorem err_le {g : Int} {t : TypeId} {a : AV} {e : Int} (h : le0 (.ifc t a) (.ifc t (.y (.int .i64 e)))) : cellLe 2 (Ax.get [.y (.int .u64 g), .ifc t a]) (Ax.get [.y (.int .u64 g), .ifc t (.y (.int .i64 e))]) := fun j hj => match j, hj with
  | 0, _ => le0_refl _
  | 1, _ => h
theorem ap_t (x : Idx) (i : Itm) (hx : IdxOk x) (hi : ItmOk i) (hr : IdxRoom x) (h0 : x.has i.group = true) : vcAp x (apX x i) (apE x i) i := by
  unfold vcAp vcAp_q3 vcAp_q2 vcAp_q1
  have hg := hx.view i.group
  have hm := hr.view i.group
  have hyo : ∀ k, k ≠ i.group → (apX x i).g k = x.g k := fun k hk => by simp [apX, Idx.put, hk]
  have hyg : (apX x i).g i.group = apG (x.view i.group) x.now i := by simp [apX, Idx.put]
  have hyh : ∀ k, (apX x i).has k = updBi x.has i.group k := fun _ => rfl
  have hyn : (apX x i).n = if x.has i.group then x.n else x.n + 1 := rfl
  have hyw : (apX x i).now = x.now := rfl
  generalize apX x i = y at *
  have hyo1 : ∀ k, updBi x.has i.group k = true → k ≠ i.group → x.has k = true := fun k h1 h2 => by
    unfold updBi at h1
    simpa [Ne.symm h2] using h1
  have main : ∀ b : Bool, x.has i.group = b → apE x i = (if i.kind < 1 ∨ 5 < i.kind then 54 else if i.kind = 5 then 0 else if (x.view i.group).gone then 53 else if i.kind = 3 ∧ i.index = 0 then 0 else if tkE (x.view i.group) i = 0 ∨ tkE (x.view i.group) i = 1 then 0 else tkE (x.view i.group) i) := fun _ _ => rfl
  refine ⟨fun hh => ?_, fun hh => absurd (h0.symm.trans hh) (by simp)⟩
  have ee := main true hh
  rw [x.view_t hh] at *
  have hyh2 : ∀ k, y.has k = x.has k := fun k => by rw [hyh]; exact updBi_same hh k
  rw [hh] at hyn
  by_cases k1 : i.kind < 1
  · have e : apE x i = 54 := by simp [ee, k1]
    simp [e, k1, hh, err_le]
  · by_cases k2 : 5 < i.kind
    · have e : apE x i = 54 := by simp [ee, k2]
      simp [e, k1, k2, hh, err_le]
    · by_cases k5 : i.kind = 5
      · have e : apE x i = 0 := by simp [ee, k5]
        have ey : apG (x.g i.group) x.now i = gone1 x.now := by simp [apG, k5]
        rw [ey] at hyg
        simp +contextual [e, k5, hh, hyg, hyo, hyh2, hyn, hyw, gone1, one_le]
      · by_cases kg : (x.g i.group).gone = true
        · have e : apE x i = 53 := by simp [ee, k1, k2, k5, kg]
          simp [e, k1, k2, k5, hh, kg, err_le]
        · by_cases k3 : i.kind = 3 ∧ i.index = 0
          · have e : apE x i = 0 := by simp [ee, k1, k2, k5, kg, k3]
            have ey : apG (x.g i.group) x.now i = default := by simp [apG, k5, k3]
            rw [ey] at hyg
            simp +contextual [e, k1, k2, k3.1, k3.2, hh, hyg, hyo, hyh2, hyn, hyw, kg, one_le]
          · have ey : apG (x.g i.group) x.now i = (if tkE (x.g i.group) i = 0 then { tkG (x.g i.group) i with first := if (tkG (x.g i.group) i).first.length = 0 then [x.now] else (tkG (x.g i.group) i).first } else { x.g i.group with first := if (x.g i.group).first.length = 0 then [x.now] else (x.g i.group).first }) := by
              unfold apG
              rw [if_neg k5, if_neg k3]
              by_cases h0 : tkE (x.g i.group) i = 0 <;> simp [h0]
            by_cases h0 : tkE (x.g i.group) i = 0
            · have e : apE x i = 0 := by simp [ee, k1, k2, k5, kg, k3, h0]
              rw [ey, if_pos h0] at hyg
              by_cases hf : (tkG (x.g i.group) i).first = []
              · simp [hf] at hyg
                simp +contextual [e, k1, k2, k5, h0, hf, hh, hyg, hyo, hyh2, hyn, hyw, kg, one_le, hg, hi, hm, x.view_t hh]
                exact fun a b => absurd ⟨a, b⟩ k3
              · simp [hf] at hyg
                simp +contextual [e, k1, k2, k5, h0, hf, hh, hyg, hyo, hyh2, hyn, hyw, kg, one_le, hg, hi, hm, x.view_t hh]
                exact fun a b => absurd ⟨a, b⟩ k3
            · rw [ey, if_neg h0] at hyg
              by_cases h1 : tkE (x.g i.group) i = 1
              · have e : apE x i = 0 := by simp [ee, k1, k2, k5, kg, k3, h1]
                by_cases hf : (x.g i.group).first = []
                · simp [hf] at hyg
                  simp +contextual [e, k1, k2, k5, h0, h1, hf, hh, hyg, hyo, hyh2, hyn, hyw, kg, one_le, hg, hi, hm, x.view_t hh]
                  exact fun a b => absurd ⟨a, b⟩ k3
                · simp [hf] at hyg
                  simp +contextual [e, k1, k2, k5, h0, h1, hf, hh, hyg, hyo, hyh2, hyn, hyw, kg, one_le, hg, hi, hm, x.view_t hh]
                  exact fun a b => absurd ⟨a, b⟩ k3
              · have e : apE x i = tkE (x.g i.group) i := by simp [ee, k1, k2, k5, kg, k3, h0, h1]
                simp +contextual [e, k1, k2, k5, h0, h1, hh, kg, err_le, hg, hi, hm, x.view_t hh]
                exact fun a b => absurd ⟨a, b⟩ k3
theorem ap_f (x : Idx) (i : Itm) (hx : IdxOk x) (hi : ItmOk i) (hr : IdxRoom x) (h0 : x.has i.group = false) : vcAp x (apX x i) (apE x i) i := by
  unfold vcAp vcAp_q3 vcAp_q2 vcAp_q1
  have hg := hx.view i.group
  have hm := hr.view i.group
  have hyo : ∀ k, k ≠ i.group → (apX x i).g k = x.g k := fun k hk => by simp [apX, Idx.put, hk]
  have hyg : (apX x i).g i.group = apG (x.view i.group) x.now i := by simp [apX, Idx.put]
  have hyh : ∀ k, (apX x i).has k = updBi x.has i.group k := fun _ => rfl
  have hyn : (apX x i).n = if x.has i.group then x.n else x.n + 1 := rfl
  have hyw : (apX x i).now = x.now := rfl
  generalize apX x i = y at *
  have hyo1 : ∀ k, updBi x.has i.group k = true → k ≠ i.group → x.has k = true := fun k h1 h2 => by
    unfold updBi at h1
    simpa [Ne.symm h2] using h1
  have main : ∀ b : Bool, x.has i.group = b → apE x i = (if i.kind < 1 ∨ 5 < i.kind then 54 else if i.kind = 5 then 0 else if (x.view i.group).gone then 53 else if i.kind = 3 ∧ i.index = 0 then 0 else if tkE (x.view i.group) i = 0 ∨ tkE (x.view i.group) i = 1 then 0 else tkE (x.view i.group) i) := fun _ _ => rfl
  refine ⟨fun hh => absurd (h0.symm.trans hh) (by simp), fun hh => ?_⟩
  have ee := main false hh
  rw [x.view_f hh] at *
  have hyn2 : y.n = x.n + 1 := by rw [hyn, hh]; rfl
  by_cases k1 : i.kind < 1
  · have e : apE x i = 54 := by simp [ee, k1]
    simp [e, k1, hh, err_le]
  · by_cases k2 : 5 < i.kind
    · have e : apE x i = 54 := by simp [ee, k2]
      simp [e, k1, k2, hh, err_le]
    · by_cases k5 : i.kind = 5
      · have e : apE x i = 0 := by simp [ee, k5]
        have ey : apG (default : Grp) x.now i = gone1 x.now := by simp [apG, k5]
        rw [ey] at hyg
        simp +contextual [e, k5, hh, hyg, hyo, hyh, hyn2, hyw, gone1, one_le]
      · have kg : ¬(default : Grp).gone = true := by simp
        by_cases k3 : i.kind = 3 ∧ i.index = 0
        · have e : apE x i = 0 := by simp [ee, k1, k2, k5, kg, k3]
          have ey : apG (default : Grp) x.now i = default := by simp [apG, k5, k3]
          rw [ey] at hyg
          simp +contextual [e, k1, k2, k3.1, k3.2, hh, hyg, hyo, hyh, hyn2, hyw, kg, one_le]
        · have ey : apG (default : Grp) x.now i = (if tkE (default : Grp) i = 0 then { tkG (default : Grp) i with first := if (tkG (default : Grp) i).first.length = 0 then [x.now] else (tkG (default : Grp) i).first } else { (default : Grp) with first := if (default : Grp).first.length = 0 then [x.now] else (default : Grp).first }) := by
            unfold apG
            rw [if_neg k5, if_neg k3]
            by_cases h0 : tkE (default : Grp) i = 0 <;> simp [h0]
          by_cases h0 : tkE (default : Grp) i = 0
          · have e : apE x i = 0 := by simp [ee, k1, k2, k5, kg, k3, h0]
            rw [ey, if_pos h0] at hyg
            by_cases hf : (tkG (default : Grp) i).first = []
            · simp [hf] at hyg
              simp +contextual [e, k1, k2, k5, h0, hf, hh, hyg, hyo, hyh, hyn2, hyw, kg, one_le, hg, hi, hm, x.view_f hh]
              exact fun a b => absurd ⟨a, b⟩ k3
            · simp [hf] at hyg
              simp +contextual [e, k1, k2, k5, h0, hf, hh, hyg, hyo, hyh, hyn2, hyw, kg, one_le, hg, hi, hm, x.view_f hh]
              exact fun a b => absurd ⟨a, b⟩ k3
          · rw [ey, if_neg h0] at hyg
            by_cases h1 : tkE (default : Grp) i = 1
            · have e : apE x i = 0 := by simp [ee, k1, k2, k5, kg, k3, h1]
              by_cases hf : (default : Grp).first = []
              · simp [hf] at hyg
                simp +contextual [e, k1, k2, k5, h0, h1, hf, hh, hyg, hyo, hyh, hyn2, hyw, kg, one_le, hg, hi, hm, x.view_f hh]
                exact fun a b => absurd ⟨a, b⟩ k3
              · simp [hf] at hyg
                simp +contextual [e, k1, k2, k5, h0, h1, hf, hh, hyg, hyo, hyh, hyn2, hyw, kg, one_le, hg, hi, hm, x.view_f hh]
                exact fun a b => absurd ⟨a, b⟩ k3
            · have e : apE x i = tkE (default : Grp) i := by simp [ee, k1, k2, k5, kg, k3, h0, h1]
              simp +contextual [e, k1, k2, k5, h0, h1, hh, kg, err_le, hg, hi, hm, x.view_f hh]
              exact fun a b => absurd ⟨a, b⟩ k3
theorem ap_c (x : Idx) (i : Itm) (hx : IdxOk x) (hi : ItmOk i) (hr : IdxRoom x) : (apR x (apX x i) (apE x i) i).Sat (ACall' Try.prog 25 [.ptr 0 0 0 0, .agg (encIt i)] (idxM x)) := by
  refine ctr_vc (ht := apH x i) Try.mixed rfl ?_
  rw [vcAp_eq x (apX x i) (apE x i) i]
  cases hh : x.has i.group with
  | true => exact ap_t x i hx hi hr hh
  | false => exact ap_f x i hx hi hr hh
end Go.Proofs.Ytccfojpdkbaekaa.W

namespace Go.Proofs.Ytccfojpdkbaekaa.W
open Go.Ax
set_option maxRecDepth 1000000
theorem apE_in (x : Idx) (i : Itm) : apE x i = 0 ∨ apE x i = 51 ∨ apE x i = 52 ∨ apE x i = 53 ∨ apE x i = 54 := by
  have h : tkE (x.view i.group) i = 0 ∨ tkE (x.view i.group) i = 1 ∨ tkE (x.view i.group) i = 51 ∨ tkE (x.view i.group) i = 52 ∨ tkE (x.view i.group) i = 54 := by
    unfold tkE
    repeat' split
    all_goals simp
  unfold apE
  generalize tkE (x.view i.group) i = e at *
  split
  · simp
  split
  · simp
  split
  · simp
  split
  · simp
  rcases h with h | h | h | h | h <;> simp [h]
structure ApOk (x : Idx) (i : Itm) : Prop where
  o : IdxOk x
  t : ItmOk i
  r : IdxRoom x
structure ApEq (x : Idx) (i : Itm) (y : Idx) (e : Int) : Prop where
  p : y = apX x i
  q : e = apE x i
theorem ap_c2 (x y : Idx) (e : Int) (i : Itm) (h : ApOk x i) (q : ApEq x i y e) : (apR x y e i).Sat (ACall' Try.prog 25 [.ptr 0 0 0 0, .agg (encIt i)] (idxM x)) := by
  rw [q.p, q.q]
  exact ap_c x i h.o h.t h.r
noncomputable def apC2 (x y : Idx) (e : Int) (i : Itm) : Ctr Try.prog := ⟨25, [.ptr 0 0 0 0, .agg (encIt i)], idxM x, .need (ApOk x i) (.need (ApEq x i y e) (apR x y e i)), T.Sat.need fun h => T.Sat.need fun q => ap_c2 x y e i h q⟩
def alR (z : Idx) (e : Int) : T An := .ret (.y (.int .i64 e), idxM z, jM)
noncomputable def alH (x y : Idx) (e : Int) (i : Itm) : HintsT Try.prog := withSub (hh _ noLp (cs1 10 1 2 (apC2 x y e i) noCs) noOp) [25]
def vcAl (x : Idx) (y : Idx) (z : Idx) (e : Int) (i : Itm) : Prop :=
  (((0 : Nat) = (0 : Nat) ∧ (0 : Nat) = (0 : Nat)) ∧ (i.kind = i.kind ∧ i.group = i.group ∧ i.ent.idx = i.ent.idx ∧ i.ent.term = i.ent.term ∧ i.ent.kind = i.ent.kind ∧ (true = true ∧ List.length i.ent.data = List.length i.ent.data ∧ contLe (List.length i.ent.data) (1 : Nat) (cellsOf' encB i.ent.data) (cellsOf' encB i.ent.data)) ∧ (true = true ∧ List.length i.ent.vot = List.length i.ent.vot ∧ contLe (List.length i.ent.vot) (1 : Nat) (cellsOf' encI i.ent.vot) (cellsOf' encI i.ent.vot)) ∧ (true = true ∧ List.length i.ent.lea = List.length i.ent.lea ∧ contLe (List.length i.ent.lea) (1 : Nat) (cellsOf' encI i.ent.lea) (cellsOf' encI i.ent.lea)) ∧ i.ht = i.ht ∧ i.hv = i.hv ∧ i.hc = i.hc ∧ i.index = i.index ∧ i.snap.idx = i.snap.idx ∧ i.snap.term = i.snap.term ∧ (true = true ∧ List.length i.snap.vot = List.length i.snap.vot ∧ contLe (List.length i.snap.vot) (1 : Nat) (cellsOf' encI i.snap.vot) (cellsOf' encI i.snap.vot)) ∧ (true = true ∧ List.length i.snap.lea = List.length i.snap.lea ∧ contLe (List.length i.snap.lea) (1 : Nat) (cellsOf' encI i.snap.lea) (cellsOf' encI i.snap.lea)) ∧ (true = true ∧ List.length i.snap.data = List.length i.snap.data ∧ contLe (List.length i.snap.data) (1 : Nat) (cellsOf' encB i.snap.data) (cellsOf' encB i.snap.data)) ∧ True) ∧ True) ∧ ((True ∧ x.now = x.now ∧ True) ∧ (x.n = x.n ∧ (∀ (x_1 : Int), x.has x_1 = x.has x_1) ∧ ∀ (x_1 : Int), x.has x_1 = true → (x.g x_1).ht = (x.g x_1).ht ∧ (x.g x_1).hv = (x.g x_1).hv ∧ (x.g x_1).hc = (x.g x_1).hc ∧ (x.g x_1).base.idx = (x.g x_1).base.idx ∧ (x.g x_1).base.term = (x.g x_1).base.term ∧ (true = true ∧ List.length (x.g x_1).base.vot = List.length (x.g x_1).base.vot ∧ contLe (List.length (x.g x_1).base.vot) (1 : Nat) (cellsOf' encI (x.g x_1).base.vot) (cellsOf' encI (x.g x_1).base.vot)) ∧ (true = true ∧ List.length (x.g x_1).base.lea = List.length (x.g x_1).base.lea ∧ contLe (List.length (x.g x_1).base.lea) (1 : Nat) (cellsOf' encI (x.g x_1).base.lea) (cellsOf' encI (x.g x_1).base.lea)) ∧ (true = true ∧ List.length (x.g x_1).base.data = List.length (x.g x_1).base.data ∧ contLe (List.length (x.g x_1).base.data) (1 : Nat) (cellsOf' encB (x.g x_1).base.data) (cellsOf' encB (x.g x_1).base.data)) ∧ (List.length (x.g x_1).ents = List.length (x.g x_1).ents ∧ contLe (List.length (x.g x_1).ents) (6 : Nat) (cellsOf' encE (x.g x_1).ents) (cellsOf' encE (x.g x_1).ents)) ∧ (x.g x_1).gone = (x.g x_1).gone ∧ (List.length (x.g x_1).first = List.length (x.g x_1).first ∧ contLe (List.length (x.g x_1).first) (1 : Nat) (cellsOf' encI (x.g x_1).first) (cellsOf' encI (x.g x_1).first)) ∧ True) ∧ True) ∧ ApOk x i ∧ ApEq x i y e ∧ ((e == (0 : Int)) = true → (0 : Int) = e ∧ (True ∧ y.now = z.now ∧ True) ∧ (y.n = z.n ∧ (∀ (x : Int), y.has x = z.has x) ∧ ∀ (x : Int), y.has x = true → (y.g x).ht = (z.g x).ht ∧ (y.g x).hv = (z.g x).hv ∧ (y.g x).hc = (z.g x).hc ∧ (y.g x).base.idx = (z.g x).base.idx ∧ (y.g x).base.term = (z.g x).base.term ∧ (true = true ∧ List.length (y.g x).base.vot = List.length (z.g x).base.vot ∧ contLe (List.length (y.g x).base.vot) (1 : Nat) (cellsOf' encI (y.g x).base.vot) (cellsOf' encI (z.g x).base.vot)) ∧ (true = true ∧ List.length (y.g x).base.lea = List.length (z.g x).base.lea ∧ contLe (List.length (y.g x).base.lea) (1 : Nat) (cellsOf' encI (y.g x).base.lea) (cellsOf' encI (z.g x).base.lea)) ∧ (true = true ∧ List.length (y.g x).base.data = List.length (z.g x).base.data ∧ contLe (List.length (y.g x).base.data) (1 : Nat) (cellsOf' encB (y.g x).base.data) (cellsOf' encB (z.g x).base.data)) ∧ (List.length (y.g x).ents = List.length (z.g x).ents ∧ contLe (List.length (y.g x).ents) (6 : Nat) (cellsOf' encE (y.g x).ents) (cellsOf' encE (z.g x).ents)) ∧ (y.g x).gone = (z.g x).gone ∧ (List.length (y.g x).first = List.length (z.g x).first ∧ contLe (List.length (y.g x).first) (1 : Nat) (cellsOf' encI (y.g x).first) (cellsOf' encI (z.g x).first)) ∧ True) ∧ True) ∧ ((e == (0 : Int)) = false → ((e == (54 : Int)) = true → (54 : Int) = e ∧ (True ∧ x.now = z.now ∧ True) ∧ (x.n = z.n ∧ (∀ (x_3 : Int), x.has x_3 = z.has x_3) ∧ ∀ (x_3 : Int), x.has x_3 = true → (x.g x_3).ht = (z.g x_3).ht ∧ (x.g x_3).hv = (z.g x_3).hv ∧ (x.g x_3).hc = (z.g x_3).hc ∧ (x.g x_3).base.idx = (z.g x_3).base.idx ∧ (x.g x_3).base.term = (z.g x_3).base.term ∧ (true = true ∧ List.length (x.g x_3).base.vot = List.length (z.g x_3).base.vot ∧ contLe (List.length (x.g x_3).base.vot) (1 : Nat) (cellsOf' encI (x.g x_3).base.vot) (cellsOf' encI (z.g x_3).base.vot)) ∧ (true = true ∧ List.length (x.g x_3).base.lea = List.length (z.g x_3).base.lea ∧ contLe (List.length (x.g x_3).base.lea) (1 : Nat) (cellsOf' encI (x.g x_3).base.lea) (cellsOf' encI (z.g x_3).base.lea)) ∧ (true = true ∧ List.length (x.g x_3).base.data = List.length (z.g x_3).base.data ∧ contLe (List.length (x.g x_3).base.data) (1 : Nat) (cellsOf' encB (x.g x_3).base.data) (cellsOf' encB (z.g x_3).base.data)) ∧ (List.length (x.g x_3).ents = List.length (z.g x_3).ents ∧ contLe (List.length (x.g x_3).ents) (6 : Nat) (cellsOf' encE (x.g x_3).ents) (cellsOf' encE (z.g x_3).ents)) ∧ (x.g x_3).gone = (z.g x_3).gone ∧ (List.length (x.g x_3).first = List.length (z.g x_3).first ∧ contLe (List.length (x.g x_3).first) (1 : Nat) (cellsOf' encI (x.g x_3).first) (cellsOf' encI (z.g x_3).first)) ∧ True) ∧ True) ∧ ((e == (54 : Int)) = false → ((e == (53 : Int)) = true → (53 : Int) = e ∧ (True ∧ x.now = z.now ∧ True) ∧ (x.n = z.n ∧ (∀ (x_4 : Int), x.has x_4 = z.has x_4) ∧ ∀ (x_4 : Int), x.has x_4 = true → (x.g x_4).ht = (z.g x_4).ht ∧ (x.g x_4).hv = (z.g x_4).hv ∧ (x.g x_4).hc = (z.g x_4).hc ∧ (x.g x_4).base.idx = (z.g x_4).base.idx ∧ (x.g x_4).base.term = (z.g x_4).base.term ∧ (true = true ∧ List.length (x.g x_4).base.vot = List.length (z.g x_4).base.vot ∧ contLe (List.length (x.g x_4).base.vot) (1 : Nat) (cellsOf' encI (x.g x_4).base.vot) (cellsOf' encI (z.g x_4).base.vot)) ∧ (true = true ∧ List.length (x.g x_4).base.lea = List.length (z.g x_4).base.lea ∧ contLe (List.length (x.g x_4).base.lea) (1 : Nat) (cellsOf' encI (x.g x_4).base.lea) (cellsOf' encI (z.g x_4).base.lea)) ∧ (true = true ∧ List.length (x.g x_4).base.data = List.length (z.g x_4).base.data ∧ contLe (List.length (x.g x_4).base.data) (1 : Nat) (cellsOf' encB (x.g x_4).base.data) (cellsOf' encB (z.g x_4).base.data)) ∧ (List.length (x.g x_4).ents = List.length (z.g x_4).ents ∧ contLe (List.length (x.g x_4).ents) (6 : Nat) (cellsOf' encE (x.g x_4).ents) (cellsOf' encE (z.g x_4).ents)) ∧ (x.g x_4).gone = (z.g x_4).gone ∧ (List.length (x.g x_4).first = List.length (z.g x_4).first ∧ contLe (List.length (x.g x_4).first) (1 : Nat) (cellsOf' encI (x.g x_4).first) (cellsOf' encI (z.g x_4).first)) ∧ True) ∧ True) ∧ ((e == (53 : Int)) = false → ((e == (51 : Int)) = true → (51 : Int) = e ∧ (True ∧ x.now = z.now ∧ True) ∧ (x.n = z.n ∧ (∀ (x_5 : Int), x.has x_5 = z.has x_5) ∧ ∀ (x_5 : Int), x.has x_5 = true → (x.g x_5).ht = (z.g x_5).ht ∧ (x.g x_5).hv = (z.g x_5).hv ∧ (x.g x_5).hc = (z.g x_5).hc ∧ (x.g x_5).base.idx = (z.g x_5).base.idx ∧ (x.g x_5).base.term = (z.g x_5).base.term ∧ (true = true ∧ List.length (x.g x_5).base.vot = List.length (z.g x_5).base.vot ∧ contLe (List.length (x.g x_5).base.vot) (1 : Nat) (cellsOf' encI (x.g x_5).base.vot) (cellsOf' encI (z.g x_5).base.vot)) ∧ (true = true ∧ List.length (x.g x_5).base.lea = List.length (z.g x_5).base.lea ∧ contLe (List.length (x.g x_5).base.lea) (1 : Nat) (cellsOf' encI (x.g x_5).base.lea) (cellsOf' encI (z.g x_5).base.lea)) ∧ (true = true ∧ List.length (x.g x_5).base.data = List.length (z.g x_5).base.data ∧ contLe (List.length (x.g x_5).base.data) (1 : Nat) (cellsOf' encB (x.g x_5).base.data) (cellsOf' encB (z.g x_5).base.data)) ∧ (List.length (x.g x_5).ents = List.length (z.g x_5).ents ∧ contLe (List.length (x.g x_5).ents) (6 : Nat) (cellsOf' encE (x.g x_5).ents) (cellsOf' encE (z.g x_5).ents)) ∧ (x.g x_5).gone = (z.g x_5).gone ∧ (List.length (x.g x_5).first = List.length (z.g x_5).first ∧ contLe (List.length (x.g x_5).first) (1 : Nat) (cellsOf' encI (x.g x_5).first) (cellsOf' encI (z.g x_5).first)) ∧ True) ∧ True) ∧ ((e == (51 : Int)) = false → ((e == (52 : Int)) = true → (52 : Int) = e ∧ (True ∧ x.now = z.now ∧ True) ∧ (x.n = z.n ∧ (∀ (x_6 : Int), x.has x_6 = z.has x_6) ∧ ∀ (x_6 : Int), x.has x_6 = true → (x.g x_6).ht = (z.g x_6).ht ∧ (x.g x_6).hv = (z.g x_6).hv ∧ (x.g x_6).hc = (z.g x_6).hc ∧ (x.g x_6).base.idx = (z.g x_6).base.idx ∧ (x.g x_6).base.term = (z.g x_6).base.term ∧ (true = true ∧ List.length (x.g x_6).base.vot = List.length (z.g x_6).base.vot ∧ contLe (List.length (x.g x_6).base.vot) (1 : Nat) (cellsOf' encI (x.g x_6).base.vot) (cellsOf' encI (z.g x_6).base.vot)) ∧ (true = true ∧ List.length (x.g x_6).base.lea = List.length (z.g x_6).base.lea ∧ contLe (List.length (x.g x_6).base.lea) (1 : Nat) (cellsOf' encI (x.g x_6).base.lea) (cellsOf' encI (z.g x_6).base.lea)) ∧ (true = true ∧ List.length (x.g x_6).base.data = List.length (z.g x_6).base.data ∧ contLe (List.length (x.g x_6).base.data) (1 : Nat) (cellsOf' encB (x.g x_6).base.data) (cellsOf' encB (z.g x_6).base.data)) ∧ (List.length (x.g x_6).ents = List.length (z.g x_6).ents ∧ contLe (List.length (x.g x_6).ents) (6 : Nat) (cellsOf' encE (x.g x_6).ents) (cellsOf' encE (z.g x_6).ents)) ∧ (x.g x_6).gone = (z.g x_6).gone ∧ (List.length (x.g x_6).first = List.length (z.g x_6).first ∧ contLe (List.length (x.g x_6).first) (1 : Nat) (cellsOf' encI (x.g x_6).first) (cellsOf' encI (z.g x_6).first)) ∧ True) ∧ True) ∧ ((e == (52 : Int)) = false → (0 : Int) = e ∧ (True ∧ x.now = z.now ∧ True) ∧ (x.n = z.n ∧ (∀ (x_6 : Int), x.has x_6 = z.has x_6) ∧ ∀ (x_6 : Int), x.has x_6 = true → (x.g x_6).ht = (z.g x_6).ht ∧ (x.g x_6).hv = (z.g x_6).hv ∧ (x.g x_6).hc = (z.g x_6).hc ∧ (x.g x_6).base.idx = (z.g x_6).base.idx ∧ (x.g x_6).base.term = (z.g x_6).base.term ∧ (true = true ∧ List.length (x.g x_6).base.vot = List.length (z.g x_6).base.vot ∧ contLe (List.length (x.g x_6).base.vot) (1 : Nat) (cellsOf' encI (x.g x_6).base.vot) (cellsOf' encI (z.g x_6).base.vot)) ∧ (true = true ∧ List.length (x.g x_6).base.lea = List.length (z.g x_6).base.lea ∧ contLe (List.length (x.g x_6).base.lea) (1 : Nat) (cellsOf' encI (x.g x_6).base.lea) (cellsOf' encI (z.g x_6).base.lea)) ∧ (true = true ∧ List.length (x.g x_6).base.data = List.length (z.g x_6).base.data ∧ contLe (List.length (x.g x_6).base.data) (1 : Nat) (cellsOf' encB (x.g x_6).base.data) (cellsOf' encB (z.g x_6).base.data)) ∧ (List.length (x.g x_6).ents = List.length (z.g x_6).ents ∧ contLe (List.length (x.g x_6).ents) (6 : Nat) (cellsOf' encE (x.g x_6).ents) (cellsOf' encE (z.g x_6).ents)) ∧ (x.g x_6).gone = (z.g x_6).gone ∧ (List.length (x.g x_6).first = List.length (z.g x_6).first ∧ contLe (List.length (x.g x_6).first) (1 : Nat) (cellsOf' encI (x.g x_6).first) (cellsOf' encI (z.g x_6).first)) ∧ True) ∧ True)))))
theorem vcAl_eq (x : Idx) (y : Idx) (z : Idx) (e : Int) (i : Itm) : (ctrVC Try.prog (alH x y e i) 10 [.ptr 0 0 0 0, .agg (encIt i)] (idxM x) (alR z e)) = vcAl x y z e i := by kernel_rfl
end Go.Proofs.Ytccfojpdkbaekaa.W

namespace Go.Proofs.Ytccfojpdkbaekaa.W
open Go.Ax
set_option maxRecDepth 1000000
def Grp.idxAt (g : Grp) (j : Nat) : Int := match j with | 0 => g.base.idx | j + 1 => (g.ents.getD j default).idx
def Grp.termAt (g : Grp) (j : Nat) : Int := match j with | 0 => g.base.term | j + 1 => (g.ents.getD j default).term
structure GInv (g : Grp) : Prop where
  b : 0 ≤ g.base.idx
  ix : ∀ j, j < g.ents.length → (g.ents.getD j default).idx = g.base.idx + 1 + j
  tm : ∀ j, j < g.ents.length → g.termAt j ≤ (g.ents.getD j default).term
  lt : ∀ j, j < g.ents.length → (g.ents.getD j default).idx ≤ 18446744073709551615
  gn : g.gone = true → g.ents = []
structure ItmIn (i : Itm) : Prop where
  e : 0 ≤ i.ent.idx ∧ i.ent.idx ≤ 18446744073709551615
  s : 0 ≤ i.snap.idx ∧ i.snap.idx ≤ 18446744073709551615
  x : 0 ≤ i.index ∧ i.index ≤ 18446744073709551615
theorem gInv0 : GInv default := ⟨by simp, fun j hj => by simp at hj, fun j hj => by simp at hj, fun j hj => by simp at hj, fun h => by simp at h⟩
theorem plc_eq {b x : Int} (h1 : 0 ≤ b) (h2 : b < x) (h3 : x ≤ 18446744073709551615) : plc b x = x - b - 1 := by
  unfold plc
  rw [wrap_u64 (n := x - b) (by omega) (by omega), wrap_u64 (by omega) (by omega)]
theorem getD_drop {α : Type} (l : List α) (p j : Nat) (d : α) : (l.drop p).getD j d = l.getD (p + j) d := by
  simp [List.getD_eq_getElem?_getD, List.getElem?_drop]
theorem getD_take {α : Type} {l : List α} {p j : Nat} {d : α} (h : j < p) : (l.take p).getD j d = l.getD j d := by
  simp [List.getD_eq_getElem?_getD, List.getElem?_take, h]
theorem getD_app1 {α : Type} {l r : List α} {j : Nat} {d : α} (h : j < l.length) : (l ++ r).getD j d = l.getD j d := by
  simp [List.getD_eq_getElem?_getD, List.getElem?_append_left h]
theorem getD_app2 {α : Type} {l : List α} {x : α} {d : α} : (l ++ [x]).getD l.length d = x := by
  simp [List.getD_eq_getElem?_getD]
theorem termAt_take {g g' : Grp} {p j : Nat} (hb : g'.base = g.base) (he : ∀ j, j < p → g'.ents.getD j default = g.ents.getD j default) (hj : j ≤ p) : g'.termAt j = g.termAt j := by
  cases j with
  | zero => simp [Grp.termAt, hb]
  | succ j => simp only [Grp.termAt]; rw [he j (by omega)]
theorem tkG_inv {g : Grp} {i : Itm} (h : GInv g) (hi : ItmIn i) (hg : g.gone = false) (h0 : tkE g i = 0) : GInv (tkG g i) := by
  have hb := h.b
  by_cases k2 : i.kind = 2
  · have e : tkG g i = { g with ht := i.ht, hv := i.hv, hc := i.hc } := by simp [tkG, k2]
    rw [e]
    exact ⟨h.b, h.ix, fun j hj => by have := h.tm j hj; cases j <;> exact this, h.lt, h.gn⟩
  by_cases k4 : i.kind = 4
  · have hs : g.base.idx < i.snap.idx := by
      rcases Int.lt_or_le g.base.idx i.snap.idx with hlt | hle
      · exact hlt
      · simp [tkE, k4, hle] at h0
    have hp := plc_eq h.b hs hi.s.2
    have e : tkG g i = { g with base := i.snap, ents := if plc g.base.idx i.snap.idx < g.ents.length ∧ (g.ents.getD (plc g.base.idx i.snap.idx).toNat default).term = i.snap.term then g.ents.drop ((plc g.base.idx i.snap.idx).toNat + 1) else [] } := by simp [tkG, k4]
    rw [e, hp]
    split
    · rename_i hc
      obtain ⟨q, hq⟩ : ∃ q : Nat, i.snap.idx - g.base.idx - 1 = q := ⟨(i.snap.idx - g.base.idx - 1).toNat, by omega⟩
      have hn : (i.snap.idx - g.base.idx - 1).toNat = q := by omega
      simp only [hn] at hc ⊢
      refine ⟨hi.s.1, fun j hj => ?_, fun j hj => ?_, fun j hj => ?_, fun hx => by rw [hg] at hx; cases hx⟩
      · simp only [List.length_drop] at hj
        simp only [getD_drop]
        rw [h.ix _ (by omega)]
        omega
      · simp only [List.length_drop] at hj
        simp only [getD_drop]
        have := h.tm (q + 1 + j) (by omega)
        cases j with
        | zero =>
          simp only [Grp.termAt] at this ⊢
          rw [← hc.2]; exact this
        | succ j =>
          simp only [Grp.termAt, getD_drop] at this ⊢
          exact this
      · simp only [List.length_drop] at hj
        simp only [getD_drop]
        exact h.lt _ (by omega)
    · exact ⟨hi.s.1, fun j hj => by simp at hj, fun j hj => by simp at hj, fun j hj => by simp at hj, fun _ => rfl⟩
  by_cases k1 : i.kind = 1
  · have e : tkG g i = { g with ents := g.ents.take (plc g.base.idx i.ent.idx).toNat ++ [i.ent] } := by simp [tkG, k1]
    have h0' : ¬i.ent.idx = 0 ∧ ¬i.ent.idx ≤ g.base.idx ∧ ¬(g.ents.length : Int) < plc g.base.idx i.ent.idx ∧ ¬i.ent.term < ahd g i.ent.idx := by
      refine ⟨fun q => ?_, fun q => ?_, fun q => ?_, fun q => ?_⟩
      · simp [tkE, k1, q] at h0
      · by_cases q0 : i.ent.idx = 0 <;> simp [tkE, k1, q, q0] at h0
      · by_cases q0 : i.ent.idx = 0 <;> by_cases q1 : i.ent.idx ≤ g.base.idx <;> simp [tkE, k1, q, q0, q1] at h0
      · by_cases q0 : i.ent.idx = 0 <;> by_cases q1 : i.ent.idx ≤ g.base.idx <;> by_cases q2 : (g.ents.length : Int) < plc g.base.idx i.ent.idx <;> simp [tkE, k1, q, q0, q1, q2] at h0
    obtain ⟨n0, n1, n2, n3⟩ := h0'
    have hp := plc_eq h.b (by omega) hi.e.2
    obtain ⟨q, hq⟩ : ∃ q : Nat, i.ent.idx - g.base.idx - 1 = q := ⟨(i.ent.idx - g.base.idx - 1).toNat, by omega⟩
    have he2 := hi.e.2
    have hah : ahd g i.ent.idx = g.termAt q := by
      unfold ahd
      rw [hp, hq]
      cases q with
      | zero => simp [Grp.termAt]
      | succ q =>
        rw [if_pos (by omega), wrap_u64 (by omega) (by omega)]
        simp only [Grp.termAt]
        congr 2
        omega
    rw [hah] at n3
    rw [hp, hq] at n2
    rw [e, hp, hq, Int.toNat_natCast]
    have hl : (g.ents.take q).length = q := by rw [List.length_take]; omega
    have hge : ∀ j, j < q → (g.ents.take q ++ [i.ent]).getD j default = g.ents.getD j default := fun j hj => by rw [getD_app1 (by omega), getD_take hj]
    have hgq : (g.ents.take q ++ [i.ent]).getD q default = i.ent := by
      have := getD_app2 (l := g.ents.take q) (x := i.ent) (d := default)
      rwa [hl] at this
    refine ⟨h.b, fun j hj => ?_, fun j hj => ?_, fun j hj => ?_, fun hx => by rw [hg] at hx; cases hx⟩
    · simp only [List.length_append, hl, List.length_singleton] at hj
      rcases Nat.lt_or_ge j q with hjq | hjq
      · rw [hge j hjq]; exact h.ix j (by omega)
      · obtain rfl : j = q := by omega
        simp only [hgq]
        omega
    · simp only [List.length_append, hl, List.length_singleton] at hj
      have ht : Grp.termAt { g with ents := g.ents.take q ++ [i.ent] } j = g.termAt j := termAt_take rfl (p := q) hge (by omega)
      rw [ht]
      rcases Nat.lt_or_ge j q with hjq | hjq
      · rw [hge j hjq]; exact h.tm j (by omega)
      · obtain rfl : j = q := by omega
        simp only [hgq]
        omega
    · simp only [List.length_append, hl, List.length_singleton] at hj
      rcases Nat.lt_or_ge j q with hjq | hjq
      · rw [hge j hjq]; exact h.lt j (by omega)
      · obtain rfl : j = q := by omega
        simp only [hgq]
        exact hi.e.2
  by_cases k3 : i.kind = 3
  · have e : tkG g i = { g with ents := g.ents.take (plc g.base.idx i.index).toNat } := by simp [tkG, k3]
    rw [e]
    generalize (plc g.base.idx i.index).toNat = q
    refine ⟨h.b, fun j hj => ?_, fun j hj => ?_, fun j hj => ?_, fun hx => by rw [hg] at hx; cases hx⟩
    · simp only [List.length_take] at hj
      simp only [getD_take (show j < q by omega)]
      exact h.ix j (by omega)
    · simp only [List.length_take] at hj
      simp only [getD_take (show j < q by omega)]
      have ht : Grp.termAt { g with ents := g.ents.take q } j = g.termAt j := termAt_take rfl (p := q) (fun j hj => getD_take hj) (by omega)
      rw [ht]
      exact h.tm j (by omega)
    · simp only [List.length_take] at hj
      simp only [getD_take (show j < q by omega)]
      exact h.lt j (by omega)
  · have e : tkG g i = g := by simp [tkG, k1, k2, k3, k4]
    rw [e]; exact h
theorem GInv.first {g : Grp} (h : GInv g) (f : List Int) : GInv { g with first := f } :=
  ⟨h.b, h.ix, fun j hj => by have := h.tm j hj; cases j <;> exact this, h.lt, h.gn⟩
theorem apG_inv {x : Idx} {i : Itm} (h : GInv (x.view i.group)) (hi : ItmIn i) (h0 : apE x i = 0) : GInv (apG (x.view i.group) x.now i) := by
  unfold apG
  split
  · exact ⟨by simp [gone1], fun j hj => by simp [gone1] at hj, fun j hj => by simp [gone1] at hj, fun j hj => by simp [gone1] at hj, fun _ => rfl⟩
  · rename_i k5
    split
    · exact gInv0
    · rename_i k3
      have hg : (x.view i.group).gone = false := by
        cases hg : (x.view i.group).gone with
        | false => rfl
        | true => 
          unfold apE at h0
          rw [if_neg k5, if_pos hg] at h0
          split at h0 <;> cases h0
      refine GInv.first ?_ _
      split
      · rename_i ht
        exact tkG_inv h hi hg ht
      · exact h
end Go.Proofs.Ytccfojpdkbaekaa.W

namespace Go.Proofs.Ytccfojpdkbaekaa.W
open Go.Ax
set_option maxRecDepth 1000000
def stepX (x : Idx) (i : Itm) : Idx := if apE x i = 0 then apX x i else x
structure AlEq (x : Idx) (i : Itm) (z : Idx) (e : Int) : Prop where
  p : z = stepX x i
  q : e = apE x i
theorem al_c (x z : Idx) (e : Int) (i : Itm) (h : ApOk x i) (q : AlEq x i z e) : (alR z e).Sat (ACall' Try.prog 10 [.ptr 0 0 0 0, .agg (encIt i)] (idxM x)) := by
  refine ctr_vc (ht := alH x (apX x i) e i) Try.mixed rfl ?_
  rw [vcAl_eq x (apX x i) z e i]
  unfold vcAl
  have hz := q.p
  have hy : ApEq x i (apX x i) e := ⟨rfl, q.q⟩
  have he := apE_in x i
  rw [← q.q] at he
  unfold stepX at hz
  rw [← q.q] at hz
  by_cases h0 : e = 0
  · rw [if_pos h0] at hz
    subst hz
    have hy0 : ApEq x i (apX x i) 0 := h0 ▸ hy
    simp [h, hy0, h0]
  · rw [if_neg h0] at hz
    subst hz
    rcases he with he | he | he | he | he
    · exact absurd he h0
    all_goals
      have hy0 := he ▸ hy
      simp [h, hy0, he]
noncomputable def alC (x z : Idx) (e : Int) (i : Itm) : Ctr Try.prog := ⟨10, [.ptr 0 0 0 0, .agg (encIt i)], idxM x, .need (ApOk x i) (.need (AlEq x i z e) (alR z e)), T.Sat.need fun h => T.Sat.need fun q => al_c x z e i h q⟩
def itE (idx term : Int) : Itm := ⟨1, 5, ⟨idx, term, 2, [], [], []⟩, 0, 0, 0, 0, default⟩
def subW : List Nat := [9, 10]
noncomputable def lvH (z : Idx) : HintsT Try.prog := withSub (hh _ noLp (cs1 7 1 0 nwC (cs1 7 4 2 (alC x0 z 0 (itE 1 1)) (cs1 7 5 1 (viC z 5) (cs1 7 6 2 (alC z z 51 (itE 3 1)) noCs)))) noOp) subW
def lvR (b : Bool) : T An := .ret (.y (.bool b), [], [])
def vcLv (z : Idx) : Prop :=
  True ∧ True ∧ (((0 : Nat) = (0 : Nat) ∧ (0 : Nat) = (0 : Nat)) ∧ ((1 : Int) = (1 : Int) ∧ (5 : Int) = (5 : Int) ∧ (1 : Int) = (1 : Int) ∧ (1 : Int) = (1 : Int) ∧ (2 : Int) = (2 : Int) ∧ (0 : Nat) = (0 : Nat) ∧ (0 : Nat) = (0 : Nat) ∧ (0 : Nat) = (0 : Nat) ∧ (0 : Int) = (0 : Int) ∧ (0 : Int) = (0 : Int) ∧ (0 : Int) = (0 : Int) ∧ (0 : Int) = (0 : Int) ∧ (0 : Int) = (0 : Int) ∧ (0 : Int) = (0 : Int) ∧ (0 : Nat) = (0 : Nat) ∧ (0 : Nat) = (0 : Nat) ∧ (0 : Nat) = (0 : Nat) ∧ True) ∧ True) ∧ ((True ∧ (1 : Int) = (1 : Int) ∧ True) ∧ ((0 : Nat) = (0 : Nat) ∧ (∀ (x : Int), false = false) ∧ ∀ (x : Int), false = true → (0 : Int) = (0 : Int) ∧ (0 : Int) = (0 : Int) ∧ (0 : Int) = (0 : Int) ∧ (0 : Int) = (0 : Int) ∧ (0 : Int) = (0 : Int) ∧ (true = true ∧ (0 : Nat) = (0 : Nat) ∧ contLe (0 : Nat) (1 : Nat) (cellsOf' encI []) (cellsOf' encI [])) ∧ (true = true ∧ (0 : Nat) = (0 : Nat) ∧ contLe (0 : Nat) (1 : Nat) (cellsOf' encI []) (cellsOf' encI [])) ∧ (true = true ∧ (0 : Nat) = (0 : Nat) ∧ contLe (0 : Nat) (1 : Nat) (cellsOf' encB []) (cellsOf' encB [])) ∧ ((0 : Nat) = (0 : Nat) ∧ contLe (0 : Nat) (6 : Nat) (cellsOf' encE []) (cellsOf' encE [])) ∧ false = false ∧ ((0 : Nat) = (0 : Nat) ∧ contLe (0 : Nat) (1 : Nat) (cellsOf' encI []) (cellsOf' encI [])) ∧ True) ∧ True) ∧ ApOk x0 (itE (1 : Int) (1 : Int)) ∧ AlEq x0 (itE (1 : Int) (1 : Int)) z (0 : Int) ∧ (((0 : Nat) = (0 : Nat) ∧ (0 : Nat) = (0 : Nat)) ∧ (5 : Int) = (5 : Int) ∧ True) ∧ ((True ∧ z.now = z.now ∧ True) ∧ (z.n = z.n ∧ (∀ (x : Int), z.has x = z.has x) ∧ ∀ (x : Int), z.has x = true → (z.g x).ht = (z.g x).ht ∧ (z.g x).hv = (z.g x).hv ∧ (z.g x).hc = (z.g x).hc ∧ (z.g x).base.idx = (z.g x).base.idx ∧ (z.g x).base.term = (z.g x).base.term ∧ (true = true ∧ List.length (z.g x).base.vot = List.length (z.g x).base.vot ∧ contLe (List.length (z.g x).base.vot) (1 : Nat) (cellsOf' encI (z.g x).base.vot) (cellsOf' encI (z.g x).base.vot)) ∧ (true = true ∧ List.length (z.g x).base.lea = List.length (z.g x).base.lea ∧ contLe (List.length (z.g x).base.lea) (1 : Nat) (cellsOf' encI (z.g x).base.lea) (cellsOf' encI (z.g x).base.lea)) ∧ (true = true ∧ List.length (z.g x).base.data = List.length (z.g x).base.data ∧ contLe (List.length (z.g x).base.data) (1 : Nat) (cellsOf' encB (z.g x).base.data) (cellsOf' encB (z.g x).base.data)) ∧ (List.length (z.g x).ents = List.length (z.g x).ents ∧ contLe (List.length (z.g x).ents) (6 : Nat) (cellsOf' encE (z.g x).ents) (cellsOf' encE (z.g x).ents)) ∧ (z.g x).gone = (z.g x).gone ∧ (List.length (z.g x).first = List.length (z.g x).first ∧ contLe (List.length (z.g x).first) (1 : Nat) (cellsOf' encI (z.g x).first) (cellsOf' encI (z.g x).first)) ∧ True) ∧ True) ∧ GrpOk (Idx.view z (5 : Int)) ∧ (((0 : Nat) = (0 : Nat) ∧ (0 : Nat) = (0 : Nat)) ∧ ((1 : Int) = (1 : Int) ∧ (5 : Int) = (5 : Int) ∧ (3 : Int) = (3 : Int) ∧ (1 : Int) = (1 : Int) ∧ (2 : Int) = (2 : Int) ∧ (0 : Nat) = (0 : Nat) ∧ (0 : Nat) = (0 : Nat) ∧ (0 : Nat) = (0 : Nat) ∧ (0 : Int) = (0 : Int) ∧ (0 : Int) = (0 : Int) ∧ (0 : Int) = (0 : Int) ∧ (0 : Int) = (0 : Int) ∧ (0 : Int) = (0 : Int) ∧ (0 : Int) = (0 : Int) ∧ (0 : Nat) = (0 : Nat) ∧ (0 : Nat) = (0 : Nat) ∧ (0 : Nat) = (0 : Nat) ∧ True) ∧ True) ∧ ((True ∧ z.now = z.now ∧ True) ∧ (z.n = z.n ∧ (∀ (x : Int), z.has x = z.has x) ∧ ∀ (x : Int), z.has x = true → (z.g x).ht = (z.g x).ht ∧ (z.g x).hv = (z.g x).hv ∧ (z.g x).hc = (z.g x).hc ∧ (z.g x).base.idx = (z.g x).base.idx ∧ (z.g x).base.term = (z.g x).base.term ∧ (true = true ∧ List.length (z.g x).base.vot = List.length (z.g x).base.vot ∧ contLe (List.length (z.g x).base.vot) (1 : Nat) (cellsOf' encI (z.g x).base.vot) (cellsOf' encI (z.g x).base.vot)) ∧ (true = true ∧ List.length (z.g x).base.lea = List.length (z.g x).base.lea ∧ contLe (List.length (z.g x).base.lea) (1 : Nat) (cellsOf' encI (z.g x).base.lea) (cellsOf' encI (z.g x).base.lea)) ∧ (true = true ∧ List.length (z.g x).base.data = List.length (z.g x).base.data ∧ contLe (List.length (z.g x).base.data) (1 : Nat) (cellsOf' encB (z.g x).base.data) (cellsOf' encB (z.g x).base.data)) ∧ (List.length (z.g x).ents = List.length (z.g x).ents ∧ contLe (List.length (z.g x).ents) (6 : Nat) (cellsOf' encE (z.g x).ents) (cellsOf' encE (z.g x).ents)) ∧ (z.g x).gone = (z.g x).gone ∧ (List.length (z.g x).first = List.length (z.g x).first ∧ contLe (List.length (z.g x).first) (1 : Nat) (cellsOf' encI (z.g x).first) (cellsOf' encI (z.g x).first)) ∧ True) ∧ True) ∧ ApOk z (itE (3 : Int) (1 : Int)) ∧ AlEq z (itE (3 : Int) (1 : Int)) z (51 : Int) ∧ (true = true → (z.has (5 : Int) = true → (((↑(List.length (Idx.view z (5 : Int)).ents) : Int) == (1 : Int)) = true → (true && decide ((0 : Int) < (↑(List.length (Idx.view z (5 : Int)).ents) : Int))) = true ∧ (((List.getD (Idx.view z (5 : Int)).ents (0 : Nat) (@default Ent instInhabitedEnt)).idx == (1 : Int)) = true → true = true ∧ True) ∧ (((List.getD (Idx.view z (5 : Int)).ents (0 : Nat) (@default Ent instInhabitedEnt)).idx == (1 : Int)) = false → false = true ∧ True)) ∧ (((↑(List.length (Idx.view z (5 : Int)).ents) : Int) == (1 : Int)) = false → false = true ∧ True)) ∧ (z.has (5 : Int) = false → false = true ∧ True)) ∧ (true = false → false = true ∧ True)
theorem vcLv_eq (z : Idx) : (ctrVC Try.prog (lvH z) 7 [] [] (lvR true)) = vcLv z := by kernel_rfl
end Go.Proofs.Ytccfojpdkbaekaa.W

namespace Go.Proofs.Ytccfojpdkbaekaa.W
open Go.Ax
set_option maxRecDepth 1000000
theorem idxOk0 : IdxOk x0 := ⟨fun k h => by simp [x0] at h⟩
theorem idxRoom0 : IdxRoom x0 := ⟨fun k h => by simp [x0] at h⟩
def lvG : Grp := ⟨0, 0, 0, default, [⟨1, 1, 2, [], [], []⟩], false, [1]⟩
theorem lv_e : apE x0 (itE 1 1) = 0 := by rfl
theorem lv_z : stepX x0 (itE 1 1) = x0.put 5 lvG := by
  unfold stepX
  rw [if_pos lv_e]
  rfl
theorem lv_v : (stepX x0 (itE 1 1)).view 5 = lvG := by rw [lv_z]; rfl
theorem lv_e3 : apE (stepX x0 (itE 1 1)) (itE 3 1) = 51 := by rw [lv_z]; rfl
theorem entOk1 (a b c : Int) : EntOk ⟨a, b, c, [], [], []⟩ := ⟨⟨by simp, by simp⟩, by simp⟩
theorem itmOkE (a b : Int) : ItmOk (itE a b) := ⟨entOk1 _ _ _, grpOk0.b⟩
theorem lv_g : GrpOk lvG := ⟨grpOk0.b, ⟨by simp [lvG], fun x hx => by simp [lvG] at hx; subst hx; exact entOk1 _ _ _⟩⟩
theorem lv_c : (lvR true).Sat (ACall' Try.prog 7 [] []) := by
  refine ctr_vc (ht := lvH (stepX x0 (itE 1 1))) Try.mixed rfl ?_
  rw [vcLv_eq (stepX x0 (itE 1 1))]
  unfold vcLv
  have h1 : ApOk x0 (itE 1 1) := ⟨idxOk0, itmOkE _ _, idxRoom0⟩
  have h2 : AlEq x0 (itE 1 1) (stepX x0 (itE 1 1)) 0 := ⟨rfl, lv_e.symm⟩
  have hk : ∀ k, (stepX x0 (itE 1 1)).has k = true → (stepX x0 (itE 1 1)).g k = lvG := by
    rw [lv_z]
    intro k hk
    simp only [Idx.put, updBi, x0, Bool.or_false, decide_eq_true_eq] at hk ⊢
    simp [hk.symm]
  have h3 : ApOk (stepX x0 (itE 1 1)) (itE 3 1) := ⟨⟨fun k h => by rw [hk k h]; exact lv_g⟩, itmOkE _ _, ⟨fun k h => by rw [hk k h]; simp [lvG]⟩⟩
  have h4 : AlEq (stepX x0 (itE 1 1)) (itE 3 1) (stepX x0 (itE 1 1)) 51 := by
    have hst : ∀ z, apE z (itE 3 1) = 51 → z = stepX z (itE 3 1) := fun z h => by unfold stepX; rw [h]; rfl
    exact ⟨hst _ lv_e3, lv_e3.symm⟩
  have h5 := lv_v
  have h6 : (stepX x0 (itE 1 1)).has 5 = true := by rw [lv_z]; rfl
  generalize stepX x0 (itE 1 1) = z at *
  have h0 : ∀ k, x0.has k = false := fun _ => rfl
  have h7 : x0.n = 0 := rfl
  have h8 : x0.now = 1 := rfl
  simp [h1, h2, h3, h4, h5, h6, h0, h7, h8, lv_g]
  simp [lvG]
noncomputable def lvC : Ctr Try.prog := ⟨7, [], [], lvR true, lv_c⟩
def encIts (b : Bool) (l : List Itm) : AV := .ys b 17 l.length (cellsOf' encIt l)
def xs (l : List Itm) (k : Nat) : Idx := (l.take k).foldl stepX x0
def jX20 : List Nat := [2, 3, 4, 5, 6, 7, 8, 9, 10, 11, 12, 13, 14, 15, 16, 17, 18, 19, 20, 21, 22, 23, 24]
def jX25 : List Nat := 0 :: 1 :: jX20
def orT (b : Bool) (l : List Itm) (k : Nat) : List AV := mkT 126 [(0, encIts b l), (4, .ptr 0 0 0 0), (5, .y (.int .i64 k))]
def orS (_ : Unit) : Exit × List AV × List Blk := (.exit 0, mkT 126 [], [])
def enT (b : Bool) (l : List Itm) (k : Nat) (g : Grp) (j : Nat) : List AV := mkT 126 [(0, encIts b l), (4, .ptr 0 0 0 0), (5, .y (.int .i64 k)), (9, .ptr 3 0 0 0), (12, .y (.int .u64 (g.idxAt j))), (13, .y (.int .u64 (g.termAt j))), (14, .y (.int .i64 j))]
def enM (z : Idx) (g : Grp) : List Blk := idxM z ++ [.dead, .box 39 (encV (encEs true g.ents) g)]
def enS (b : Bool) (l : List Itm) (k : Nat) (z : Idx) (_ : Unit) : Exit × List AV × List Blk := (.exit 2, mkT 126 [(0, encIts b l), (4, .ptr 0 0 0 0), (5, .y (.int .i64 k))], idxM z)
def vcEn (b : Bool) (l : List Itm) (k : Nat) (z : Idx) (g : Grp) (j : Nat) : Prop :=
  (decide ((↑j : Int) < (↑(List.length g.ents) : Int)) = true → (true && decide ((↑j : Int) < (↑(List.length g.ents) : Int))) = true ∧ (((List.getD g.ents (Int.toNat (↑j : Int)) (@default Ent instInhabitedEnt)).idx != IntKind.wrap IntKind.u64 (Grp.idxAt g j + (1 : Int))) = true → False) ∧ (((List.getD g.ents (Int.toNat (↑j : Int)) (@default Ent instInhabitedEnt)).idx != IntKind.wrap IntKind.u64 (Grp.idxAt g j + (1 : Int))) = false → (true && decide ((↑j : Int) < (↑(List.length g.ents) : Int))) = true ∧ (decide ((List.getD g.ents (Int.toNat (↑j : Int)) (@default Ent instInhabitedEnt)).term < Grp.termAt g j) = true → False) ∧ (decide ((List.getD g.ents (Int.toNat (↑j : Int)) (@default Ent instInhabitedEnt)).term < Grp.termAt g j) = false → (true && decide ((↑j : Int) < (↑(List.length g.ents) : Int))) = true ∧ (true && decide ((↑j : Int) < (↑(List.length g.ents) : Int))) = true ∧ ∃ (j_1 : Nat), List.length g.ents - j_1 < List.length g.ents - j ∧ (((b = b ∧ List.length l = List.length l ∧ contLe (List.length l) (17 : Nat) (cellsOf' encIt l) (cellsOf' encIt l)) ∧ ((0 : Nat) = (0 : Nat) ∧ (0 : Nat) = (0 : Nat)) ∧ (↑k : Int) = (↑k : Int) ∧ ((0 : Nat) = (0 : Nat) ∧ (0 : Nat) = (0 : Nat)) ∧ (List.getD g.ents (Int.toNat (↑j : Int)) (@default Ent instInhabitedEnt)).idx = Grp.idxAt g j_1 ∧ (List.getD g.ents (Int.toNat (↑j : Int)) (@default Ent instInhabitedEnt)).term = Grp.termAt g j_1 ∧ IntKind.wrap IntKind.i64 ((↑j : Int) + (1 : Int)) = (↑j_1 : Int) ∧ True) ∧ ((True ∧ z.now = z.now ∧ True) ∧ (z.n = z.n ∧ (∀ (x : Int), z.has x = z.has x) ∧ ∀ (x : Int), z.has x = true → (z.g x).ht = (z.g x).ht ∧ (z.g x).hv = (z.g x).hv ∧ (z.g x).hc = (z.g x).hc ∧ (z.g x).base.idx = (z.g x).base.idx ∧ (z.g x).base.term = (z.g x).base.term ∧ (true = true ∧ List.length (z.g x).base.vot = List.length (z.g x).base.vot ∧ contLe (List.length (z.g x).base.vot) (1 : Nat) (cellsOf' encI (z.g x).base.vot) (cellsOf' encI (z.g x).base.vot)) ∧ (true = true ∧ List.length (z.g x).base.lea = List.length (z.g x).base.lea ∧ contLe (List.length (z.g x).base.lea) (1 : Nat) (cellsOf' encI (z.g x).base.lea) (cellsOf' encI (z.g x).base.lea)) ∧ (true = true ∧ List.length (z.g x).base.data = List.length (z.g x).base.data ∧ contLe (List.length (z.g x).base.data) (1 : Nat) (cellsOf' encB (z.g x).base.data) (cellsOf' encB (z.g x).base.data)) ∧ (List.length (z.g x).ents = List.length (z.g x).ents ∧ contLe (List.length (z.g x).ents) (6 : Nat) (cellsOf' encE (z.g x).ents) (cellsOf' encE (z.g x).ents)) ∧ (z.g x).gone = (z.g x).gone ∧ (List.length (z.g x).first = List.length (z.g x).first ∧ contLe (List.length (z.g x).first) (1 : Nat) (cellsOf' encI (z.g x).first) (cellsOf' encI (z.g x).first)) ∧ True) ∧ (g.ht = g.ht ∧ g.hv = g.hv ∧ g.hc = g.hc ∧ g.base.idx = g.base.idx ∧ g.base.term = g.base.term ∧ (true = true ∧ List.length g.base.vot = List.length g.base.vot ∧ contLe (List.length g.base.vot) (1 : Nat) (cellsOf' encI g.base.vot) (cellsOf' encI g.base.vot)) ∧ (true = true ∧ List.length g.base.lea = List.length g.base.lea ∧ contLe (List.length g.base.lea) (1 : Nat) (cellsOf' encI g.base.lea) (cellsOf' encI g.base.lea)) ∧ (true = true ∧ List.length g.base.data = List.length g.base.data ∧ contLe (List.length g.base.data) (1 : Nat) (cellsOf' encB g.base.data) (cellsOf' encB g.base.data)) ∧ (true = true ∧ List.length g.ents = List.length g.ents ∧ contLe (List.length g.ents) (6 : Nat) (cellsOf' encE g.ents) (cellsOf' encE g.ents)) ∧ g.gone = g.gone ∧ True) ∧ True) ∧ true = true) ∧ true = true ∧ () = ()))) ∧ (decide ((↑j : Int) < (↑(List.length g.ents) : Int)) = false → ((b = b ∧ List.length l = List.length l ∧ contLe (List.length l) (17 : Nat) (cellsOf' encIt l) (cellsOf' encIt l)) ∧ ((0 : Nat) = (0 : Nat) ∧ (0 : Nat) = (0 : Nat)) ∧ (↑k : Int) = (↑k : Int) ∧ True) ∧ ((True ∧ z.now = z.now ∧ True) ∧ (z.n = z.n ∧ (∀ (x : Int), z.has x = z.has x) ∧ ∀ (x : Int), z.has x = true → (z.g x).ht = (z.g x).ht ∧ (z.g x).hv = (z.g x).hv ∧ (z.g x).hc = (z.g x).hc ∧ (z.g x).base.idx = (z.g x).base.idx ∧ (z.g x).base.term = (z.g x).base.term ∧ (true = true ∧ List.length (z.g x).base.vot = List.length (z.g x).base.vot ∧ contLe (List.length (z.g x).base.vot) (1 : Nat) (cellsOf' encI (z.g x).base.vot) (cellsOf' encI (z.g x).base.vot)) ∧ (true = true ∧ List.length (z.g x).base.lea = List.length (z.g x).base.lea ∧ contLe (List.length (z.g x).base.lea) (1 : Nat) (cellsOf' encI (z.g x).base.lea) (cellsOf' encI (z.g x).base.lea)) ∧ (true = true ∧ List.length (z.g x).base.data = List.length (z.g x).base.data ∧ contLe (List.length (z.g x).base.data) (1 : Nat) (cellsOf' encB (z.g x).base.data) (cellsOf' encB (z.g x).base.data)) ∧ (List.length (z.g x).ents = List.length (z.g x).ents ∧ contLe (List.length (z.g x).ents) (6 : Nat) (cellsOf' encE (z.g x).ents) (cellsOf' encE (z.g x).ents)) ∧ (z.g x).gone = (z.g x).gone ∧ (List.length (z.g x).first = List.length (z.g x).first ∧ contLe (List.length (z.g x).first) (1 : Nat) (cellsOf' encI (z.g x).first) (cellsOf' encI (z.g x).first)) ∧ True) ∧ True) ∧ true = true)
theorem vcEn_eq (b : Bool) (l : List Itm) (k : Nat) (z : Idx) (g : Grp) (j : Nat) : (loopVC Try.prog (hT _) 3 20 (fun j => g.ents.length - j) (enT b l k g) (fun _ => enM z g) jX20 (fun _ => .ret ()) (enS b l k z) j) = vcEn b l k z g j := by kernel_rfl
noncomputable def orLH (b : Bool) (l : List Itm) (k : Nat) (x z : Idx) (g : Grp) (e : Int) (i : Itm) : HintsT Try.prog := withSub (hh _ (lp1 3 20 (jobOf (enT b l k g) (fun _ => enM z g) jX20 (fun _ => .ret ()) (enS b l k z) 0) noLp) (cs1 3 8 6 (viC x i.group) (cs1 3 9 5 (alC x z e i) (cs1 3 10 6 (viC z i.group) (cs1 3 12 2 (svC g) noCs)))) noOp) subW
def vcOrL_q3 (k : Nat) (X : Nat → Idx) : Prop := ((X (k + (1 : Nat))).n = (X (k + (1 : Nat))).n ∧ (∀ (x : Int), (X (k + (1 : Nat))).has x = (X (k + (1 : Nat))).has x) ∧ ∀ (x : Int), (X (k + (1 : Nat))).has x = true → ((X (k + (1 : Nat))).g x).ht = ((X (k + (1 : Nat))).g x).ht ∧ ((X (k + (1 : Nat))).g x).hv = ((X (k + (1 : Nat))).g x).hv ∧ ((X (k + (1 : Nat))).g x).hc = ((X (k + (1 : Nat))).g x).hc ∧ ((X (k + (1 : Nat))).g x).base.idx = ((X (k + (1 : Nat))).g x).base.idx ∧ ((X (k + (1 : Nat))).g x).base.term = ((X (k + (1 : Nat))).g x).base.term ∧ (true = true ∧ List.length ((X (k + (1 : Nat))).g x).base.vot = List.length ((X (k + (1 : Nat))).g x).base.vot ∧ contLe (List.length ((X (k + (1 : Nat))).g x).base.vot) (1 : Nat) (cellsOf' encI ((X (k + (1 : Nat))).g x).base.vot) (cellsOf' encI ((X (k + (1 : Nat))).g x).base.vot)) ∧ (true = true ∧ List.length ((X (k + (1 : Nat))).g x).base.lea = List.length ((X (k + (1 : Nat))).g x).base.lea ∧ contLe (List.length ((X (k + (1 : Nat))).g x).base.lea) (1 : Nat) (cellsOf' encI ((X (k + (1 : Nat))).g x).base.lea) (cellsOf' encI ((X (k + (1 : Nat))).g x).base.lea)) ∧ (true = true ∧ List.length ((X (k + (1 : Nat))).g x).base.data = List.length ((X (k + (1 : Nat))).g x).base.data ∧ contLe (List.length ((X (k + (1 : Nat))).g x).base.data) (1 : Nat) (cellsOf' encB ((X (k + (1 : Nat))).g x).base.data) (cellsOf' encB ((X (k + (1 : Nat))).g x).base.data)) ∧ (List.length ((X (k + (1 : Nat))).g x).ents = List.length ((X (k + (1 : Nat))).g x).ents ∧ contLe (List.length ((X (k + (1 : Nat))).g x).ents) (6 : Nat) (cellsOf' encE ((X (k + (1 : Nat))).g x).ents) (cellsOf' encE ((X (k + (1 : Nat))).g x).ents)) ∧ ((X (k + (1 : Nat))).g x).gone = ((X (k + (1 : Nat))).g x).gone ∧ (List.length ((X (k + (1 : Nat))).g x).first = List.length ((X (k + (1 : Nat))).g x).first ∧ contLe (List.length ((X (k + (1 : Nat))).g x).first) (1 : Nat) (cellsOf' encI ((X (k + (1 : Nat))).g x).first) (cellsOf' encI ((X (k + (1 : Nat))).g x).first)) ∧ True)
def vcOrL_q2 (l : List Itm) (k : Nat) (X : Nat → Idx) (g : Grp) : Prop := ((Idx.view (X (k + (1 : Nat))) (List.getD l k (@default Itm instInhabitedItm)).group).ht = g.ht ∧ (Idx.view (X (k + (1 : Nat))) (List.getD l k (@default Itm instInhabitedItm)).group).hv = g.hv ∧ (Idx.view (X (k + (1 : Nat))) (List.getD l k (@default Itm instInhabitedItm)).group).hc = g.hc ∧ (Idx.view (X (k + (1 : Nat))) (List.getD l k (@default Itm instInhabitedItm)).group).base.idx = g.base.idx ∧ (Idx.view (X (k + (1 : Nat))) (List.getD l k (@default Itm instInhabitedItm)).group).base.term = g.base.term ∧ (true = true ∧ List.length (Idx.view (X (k + (1 : Nat))) (List.getD l k (@default Itm instInhabitedItm)).group).base.vot = List.length g.base.vot ∧ contLe (List.length (Idx.view (X (k + (1 : Nat))) (List.getD l k (@default Itm instInhabitedItm)).group).base.vot) (1 : Nat) (cellsOf' encI (Idx.view (X (k + (1 : Nat))) (List.getD l k (@default Itm instInhabitedItm)).group).base.vot) (cellsOf' encI g.base.vot)) ∧ (true = true ∧ List.length (Idx.view (X (k + (1 : Nat))) (List.getD l k (@default Itm instInhabitedItm)).group).base.lea = List.length g.base.lea ∧ contLe (List.length (Idx.view (X (k + (1 : Nat))) (List.getD l k (@default Itm instInhabitedItm)).group).base.lea) (1 : Nat) (cellsOf' encI (Idx.view (X (k + (1 : Nat))) (List.getD l k (@default Itm instInhabitedItm)).group).base.lea) (cellsOf' encI g.base.lea)) ∧ (true = true ∧ List.length (Idx.view (X (k + (1 : Nat))) (List.getD l k (@default Itm instInhabitedItm)).group).base.data = List.length g.base.data ∧ contLe (List.length (Idx.view (X (k + (1 : Nat))) (List.getD l k (@default Itm instInhabitedItm)).group).base.data) (1 : Nat) (cellsOf' encB (Idx.view (X (k + (1 : Nat))) (List.getD l k (@default Itm instInhabitedItm)).group).base.data) (cellsOf' encB g.base.data)) ∧ (true = true ∧ List.length (Idx.view (X (k + (1 : Nat))) (List.getD l k (@default Itm instInhabitedItm)).group).ents = List.length g.ents ∧ contLe (List.length (Idx.view (X (k + (1 : Nat))) (List.getD l k (@default Itm instInhabitedItm)).group).ents) (6 : Nat) (cellsOf' encE (Idx.view (X (k + (1 : Nat))) (List.getD l k (@default Itm instInhabitedItm)).group).ents) (cellsOf' encE g.ents)) ∧ (Idx.view (X (k + (1 : Nat))) (List.getD l k (@default Itm instInhabitedItm)).group).gone = g.gone ∧ True)
def vcOrL_q1 (b : Bool) (l : List Itm) (k : Nat) (X : Nat → Idx) (g : Grp) : Prop := (((b = b ∧ List.length l = List.length l ∧ contLe (List.length l) (17 : Nat) (cellsOf' encIt l) (cellsOf' encIt l)) ∧ ((0 : Nat) = (0 : Nat) ∧ (0 : Nat) = (0 : Nat)) ∧ (↑k : Int) = (↑k : Int) ∧ ((0 : Nat) = (0 : Nat) ∧ (0 : Nat) = (0 : Nat)) ∧ (Idx.view (X (k + (1 : Nat))) (List.getD l k (@default Itm instInhabitedItm)).group).base.idx = Grp.idxAt g (0 : Nat) ∧ (Idx.view (X (k + (1 : Nat))) (List.getD l k (@default Itm instInhabitedItm)).group).base.term = Grp.termAt g (0 : Nat) ∧ (0 : Int) = (0 : Int) ∧ True) ∧ ((True ∧ (X (k + (1 : Nat))).now = (X (k + (1 : Nat))).now ∧ True) ∧ (vcOrL_q3 k X) ∧ (vcOrL_q2 l k X g) ∧ True) ∧ true = true)
def vcOrL_q4 (k : Nat) (X : Nat → Idx) : Prop := ((True ∧ (X k).now = (X k).now ∧ True) ∧ ((X k).n = (X k).n ∧ (∀ (x : Int), (X k).has x = (X k).has x) ∧ ∀ (x : Int), (X k).has x = true → ((X k).g x).ht = ((X k).g x).ht ∧ ((X k).g x).hv = ((X k).g x).hv ∧ ((X k).g x).hc = ((X k).g x).hc ∧ ((X k).g x).base.idx = ((X k).g x).base.idx ∧ ((X k).g x).base.term = ((X k).g x).base.term ∧ (true = true ∧ List.length ((X k).g x).base.vot = List.length ((X k).g x).base.vot ∧ contLe (List.length ((X k).g x).base.vot) (1 : Nat) (cellsOf' encI ((X k).g x).base.vot) (cellsOf' encI ((X k).g x).base.vot)) ∧ (true = true ∧ List.length ((X k).g x).base.lea = List.length ((X k).g x).base.lea ∧ contLe (List.length ((X k).g x).base.lea) (1 : Nat) (cellsOf' encI ((X k).g x).base.lea) (cellsOf' encI ((X k).g x).base.lea)) ∧ (true = true ∧ List.length ((X k).g x).base.data = List.length ((X k).g x).base.data ∧ contLe (List.length ((X k).g x).base.data) (1 : Nat) (cellsOf' encB ((X k).g x).base.data) (cellsOf' encB ((X k).g x).base.data)) ∧ (List.length ((X k).g x).ents = List.length ((X k).g x).ents ∧ contLe (List.length ((X k).g x).ents) (6 : Nat) (cellsOf' encE ((X k).g x).ents) (cellsOf' encE ((X k).g x).ents)) ∧ ((X k).g x).gone = ((X k).g x).gone ∧ (List.length ((X k).g x).first = List.length ((X k).g x).first ∧ contLe (List.length ((X k).g x).first) (1 : Nat) (cellsOf' encI ((X k).g x).first) (cellsOf' encI ((X k).g x).first)) ∧ True) ∧ True)
def vcOrL (b : Bool) (l : List Itm) (k : Nat) (X : Nat → Idx) (g : Grp) (e : Int) : Prop :=
  (decide ((↑k : Int) < (↑(List.length l) : Int)) = true → (true && decide ((↑k : Int) < (↑(List.length l) : Int))) = true ∧ (((0 : Nat) = (0 : Nat) ∧ (0 : Nat) = (0 : Nat)) ∧ (List.getD l (Int.toNat (↑k : Int)) (@default Itm instInhabitedItm)).group = (List.getD l k (@default Itm instInhabitedItm)).group ∧ True) ∧ (vcOrL_q4 k X) ∧ GrpOk (Idx.view (X k) (List.getD l k (@default Itm instInhabitedItm)).group) ∧ (true && decide ((↑k : Int) < (↑(List.length l) : Int))) = true ∧ (((0 : Nat) = (0 : Nat) ∧ (0 : Nat) = (0 : Nat)) ∧ ((List.getD l (Int.toNat (↑k : Int)) (@default Itm instInhabitedItm)).kind = (List.getD l k (@default Itm instInhabitedItm)).kind ∧ (List.getD l (Int.toNat (↑k : Int)) (@default Itm instInhabitedItm)).group = (List.getD l k (@default Itm instInhabitedItm)).group ∧ (List.getD l (Int.toNat (↑k : Int)) (@default Itm instInhabitedItm)).ent.idx = (List.getD l k (@default Itm instInhabitedItm)).ent.idx ∧ (List.getD l (Int.toNat (↑k : Int)) (@default Itm instInhabitedItm)).ent.term = (List.getD l k (@default Itm instInhabitedItm)).ent.term ∧ (List.getD l (Int.toNat (↑k : Int)) (@default Itm instInhabitedItm)).ent.kind = (List.getD l k (@default Itm instInhabitedItm)).ent.kind ∧ (true = true ∧ List.length (List.getD l (Int.toNat (↑k : Int)) (@default Itm instInhabitedItm)).ent.data = List.length (List.getD l k (@default Itm instInhabitedItm)).ent.data ∧ contLe (List.length (List.getD l (Int.toNat (↑k : Int)) (@default Itm instInhabitedItm)).ent.data) (1 : Nat) (cellsOf' encB (List.getD l (Int.toNat (↑k : Int)) (@default Itm instInhabitedItm)).ent.data) (cellsOf' encB (List.getD l k (@default Itm instInhabitedItm)).ent.data)) ∧ (true = true ∧ List.length (List.getD l (Int.toNat (↑k : Int)) (@default Itm instInhabitedItm)).ent.vot = List.length (List.getD l k (@default Itm instInhabitedItm)).ent.vot ∧ contLe (List.length (List.getD l (Int.toNat (↑k : Int)) (@default Itm instInhabitedItm)).ent.vot) (1 : Nat) (cellsOf' encI (List.getD l (Int.toNat (↑k : Int)) (@default Itm instInhabitedItm)).ent.vot) (cellsOf' encI (List.getD l k (@default Itm instInhabitedItm)).ent.vot)) ∧ (true = true ∧ List.length (List.getD l (Int.toNat (↑k : Int)) (@default Itm instInhabitedItm)).ent.lea = List.length (List.getD l k (@default Itm instInhabitedItm)).ent.lea ∧ contLe (List.length (List.getD l (Int.toNat (↑k : Int)) (@default Itm instInhabitedItm)).ent.lea) (1 : Nat) (cellsOf' encI (List.getD l (Int.toNat (↑k : Int)) (@default Itm instInhabitedItm)).ent.lea) (cellsOf' encI (List.getD l k (@default Itm instInhabitedItm)).ent.lea)) ∧ (List.getD l (Int.toNat (↑k : Int)) (@default Itm instInhabitedItm)).ht = (List.getD l k (@default Itm instInhabitedItm)).ht ∧ (List.getD l (Int.toNat (↑k : Int)) (@default Itm instInhabitedItm)).hv = (List.getD l k (@default Itm instInhabitedItm)).hv ∧ (List.getD l (Int.toNat (↑k : Int)) (@default Itm instInhabitedItm)).hc = (List.getD l k (@default Itm instInhabitedItm)).hc ∧ (List.getD l (Int.toNat (↑k : Int)) (@default Itm instInhabitedItm)).index = (List.getD l k (@default Itm instInhabitedItm)).index ∧ (List.getD l (Int.toNat (↑k : Int)) (@default Itm instInhabitedItm)).snap.idx = (List.getD l k (@default Itm instInhabitedItm)).snap.idx ∧ (List.getD l (Int.toNat (↑k : Int)) (@default Itm instInhabitedItm)).snap.term = (List.getD l k (@default Itm instInhabitedItm)).snap.term ∧ (true = true ∧ List.length (List.getD l (Int.toNat (↑k : Int)) (@default Itm instInhabitedItm)).snap.vot = List.length (List.getD l k (@default Itm instInhabitedItm)).snap.vot ∧ contLe (List.length (List.getD l (Int.toNat (↑k : Int)) (@default Itm instInhabitedItm)).snap.vot) (1 : Nat) (cellsOf' encI (List.getD l (Int.toNat (↑k : Int)) (@default Itm instInhabitedItm)).snap.vot) (cellsOf' encI (List.getD l k (@default Itm instInhabitedItm)).snap.vot)) ∧ (true = true ∧ List.length (List.getD l (Int.toNat (↑k : Int)) (@default Itm instInhabitedItm)).snap.lea = List.length (List.getD l k (@default Itm instInhabitedItm)).snap.lea ∧ contLe (List.length (List.getD l (Int.toNat (↑k : Int)) (@default Itm instInhabitedItm)).snap.lea) (1 : Nat) (cellsOf' encI (List.getD l (Int.toNat (↑k : Int)) (@default Itm instInhabitedItm)).snap.lea) (cellsOf' encI (List.getD l k (@default Itm instInhabitedItm)).snap.lea)) ∧ (true = true ∧ List.length (List.getD l (Int.toNat (↑k : Int)) (@default Itm instInhabitedItm)).snap.data = List.length (List.getD l k (@default Itm instInhabitedItm)).snap.data ∧ contLe (List.length (List.getD l (Int.toNat (↑k : Int)) (@default Itm instInhabitedItm)).snap.data) (1 : Nat) (cellsOf' encB (List.getD l (Int.toNat (↑k : Int)) (@default Itm instInhabitedItm)).snap.data) (cellsOf' encB (List.getD l k (@default Itm instInhabitedItm)).snap.data)) ∧ True) ∧ True) ∧ (vcOrL_q4 k X) ∧ ApOk (X k) (List.getD l k (@default Itm instInhabitedItm)) ∧ AlEq (X k) (List.getD l k (@default Itm instInhabitedItm)) (X (k + (1 : Nat))) e ∧ (true && decide ((↑k : Int) < (↑(List.length l) : Int))) = true ∧ (((0 : Nat) = (0 : Nat) ∧ (0 : Nat) = (0 : Nat)) ∧ (List.getD l (Int.toNat (↑k : Int)) (@default Itm instInhabitedItm)).group = (List.getD l k (@default Itm instInhabitedItm)).group ∧ True) ∧ ((True ∧ (X (k + (1 : Nat))).now = (X (k + (1 : Nat))).now ∧ True) ∧ (vcOrL_q3 k X) ∧ True) ∧ GrpOk (Idx.view (X (k + (1 : Nat))) (List.getD l k (@default Itm instInhabitedItm)).group) ∧ ((e != (0 : Int)) = true → (((Idx.view (X k) (List.getD l k (@default Itm instInhabitedItm)).group).ht = g.ht ∧ (Idx.view (X k) (List.getD l k (@default Itm instInhabitedItm)).group).hv = g.hv ∧ (Idx.view (X k) (List.getD l k (@default Itm instInhabitedItm)).group).hc = g.hc ∧ (Idx.view (X k) (List.getD l k (@default Itm instInhabitedItm)).group).base.idx = g.base.idx ∧ (Idx.view (X k) (List.getD l k (@default Itm instInhabitedItm)).group).base.term = g.base.term ∧ (true = true ∧ List.length (Idx.view (X k) (List.getD l k (@default Itm instInhabitedItm)).group).base.vot = List.length g.base.vot ∧ contLe (List.length (Idx.view (X k) (List.getD l k (@default Itm instInhabitedItm)).group).base.vot) (1 : Nat) (cellsOf' encI (Idx.view (X k) (List.getD l k (@default Itm instInhabitedItm)).group).base.vot) (cellsOf' encI g.base.vot)) ∧ (true = true ∧ List.length (Idx.view (X k) (List.getD l k (@default Itm instInhabitedItm)).group).base.lea = List.length g.base.lea ∧ contLe (List.length (Idx.view (X k) (List.getD l k (@default Itm instInhabitedItm)).group).base.lea) (1 : Nat) (cellsOf' encI (Idx.view (X k) (List.getD l k (@default Itm instInhabitedItm)).group).base.lea) (cellsOf' encI g.base.lea)) ∧ (true = true ∧ List.length (Idx.view (X k) (List.getD l k (@default Itm instInhabitedItm)).group).base.data = List.length g.base.data ∧ contLe (List.length (Idx.view (X k) (List.getD l k (@default Itm instInhabitedItm)).group).base.data) (1 : Nat) (cellsOf' encB (Idx.view (X k) (List.getD l k (@default Itm instInhabitedItm)).group).base.data) (cellsOf' encB g.base.data)) ∧ (true = true ∧ List.length (Idx.view (X k) (List.getD l k (@default Itm instInhabitedItm)).group).ents = List.length g.ents ∧ contLe (List.length (Idx.view (X k) (List.getD l k (@default Itm instInhabitedItm)).group).ents) (6 : Nat) (cellsOf' encE (Idx.view (X k) (List.getD l k (@default Itm instInhabitedItm)).group).ents) (cellsOf' encE g.ents)) ∧ (Idx.view (X k) (List.getD l k (@default Itm instInhabitedItm)).group).gone = g.gone ∧ True) ∧ (vcOrL_q2 l k X g) ∧ True) ∧ True ∧ GrpOk g ∧ ∃ (j : Nat), List.length l - j < List.length l - k ∧ (((b = b ∧ List.length l = List.length l ∧ contLe (List.length l) (17 : Nat) (cellsOf' encIt l) (cellsOf' encIt l)) ∧ ((0 : Nat) = (0 : Nat) ∧ (0 : Nat) = (0 : Nat)) ∧ IntKind.wrap IntKind.i64 ((↑k : Int) + (1 : Int)) = (↑j : Int) ∧ True) ∧ ((True ∧ (X (k + (1 : Nat))).now = (X j).now ∧ True) ∧ ((X (k + (1 : Nat))).n = (X j).n ∧ (∀ (x : Int), (X (k + (1 : Nat))).has x = (X j).has x) ∧ ∀ (x : Int), (X (k + (1 : Nat))).has x = true → ((X (k + (1 : Nat))).g x).ht = ((X j).g x).ht ∧ ((X (k + (1 : Nat))).g x).hv = ((X j).g x).hv ∧ ((X (k + (1 : Nat))).g x).hc = ((X j).g x).hc ∧ ((X (k + (1 : Nat))).g x).base.idx = ((X j).g x).base.idx ∧ ((X (k + (1 : Nat))).g x).base.term = ((X j).g x).base.term ∧ (true = true ∧ List.length ((X (k + (1 : Nat))).g x).base.vot = List.length ((X j).g x).base.vot ∧ contLe (List.length ((X (k + (1 : Nat))).g x).base.vot) (1 : Nat) (cellsOf' encI ((X (k + (1 : Nat))).g x).base.vot) (cellsOf' encI ((X j).g x).base.vot)) ∧ (true = true ∧ List.length ((X (k + (1 : Nat))).g x).base.lea = List.length ((X j).g x).base.lea ∧ contLe (List.length ((X (k + (1 : Nat))).g x).base.lea) (1 : Nat) (cellsOf' encI ((X (k + (1 : Nat))).g x).base.lea) (cellsOf' encI ((X j).g x).base.lea)) ∧ (true = true ∧ List.length ((X (k + (1 : Nat))).g x).base.data = List.length ((X j).g x).base.data ∧ contLe (List.length ((X (k + (1 : Nat))).g x).base.data) (1 : Nat) (cellsOf' encB ((X (k + (1 : Nat))).g x).base.data) (cellsOf' encB ((X j).g x).base.data)) ∧ (List.length ((X (k + (1 : Nat))).g x).ents = List.length ((X j).g x).ents ∧ contLe (List.length ((X (k + (1 : Nat))).g x).ents) (6 : Nat) (cellsOf' encE ((X (k + (1 : Nat))).g x).ents) (cellsOf' encE ((X j).g x).ents)) ∧ ((X (k + (1 : Nat))).g x).gone = ((X j).g x).gone ∧ (List.length ((X (k + (1 : Nat))).g x).first = List.length ((X j).g x).first ∧ contLe (List.length ((X (k + (1 : Nat))).g x).first) (1 : Nat) (cellsOf' encI ((X (k + (1 : Nat))).g x).first) (cellsOf' encI ((X j).g x).first)) ∧ True) ∧ True) ∧ true = true) ∧ true = true ∧ () = ()) ∧ ((e != (0 : Int)) = false → ((!(X (k + (1 : Nat))).has (List.getD l k (@default Itm instInhabitedItm)).group) = true → False) ∧ ((!(X (k + (1 : Nat))).has (List.getD l k (@default Itm instInhabitedItm)).group) = false → ((Idx.view (X (k + (1 : Nat))) (List.getD l k (@default Itm instInhabitedItm)).group).gone = true → (decide ((0 : Int) < (↑(List.length (Idx.view (X (k + (1 : Nat))) (List.getD l k (@default Itm instInhabitedItm)).group).ents) : Int)) = true → False) ∧ (decide ((0 : Int) < (↑(List.length (Idx.view (X (k + (1 : Nat))) (List.getD l k (@default Itm instInhabitedItm)).group).ents) : Int)) = false → (vcOrL_q1 b l k X g) ∧ LoopOk Try.prog (3 : Nat) (20 : Nat) (loopAt Try.prog (3 : Nat) (20 : Nat)) { t := enT b l k g (0 : Nat), m := enM (X (k + (1 : Nat))) g, mv := [] : St } (T.map (lout jX20 (enS b l k (X (k + (1 : Nat))))) ((fun (x : Nat) => T.ret ()) (0 : Nat))) ∧ ∃ (j : Nat), List.length l - j < List.length l - k ∧ (((b = b ∧ List.length l = List.length l ∧ contLe (List.length l) (17 : Nat) (cellsOf' encIt l) (cellsOf' encIt l)) ∧ ((0 : Nat) = (0 : Nat) ∧ (0 : Nat) = (0 : Nat)) ∧ IntKind.wrap IntKind.i64 ((↑k : Int) + (1 : Int)) = (↑j : Int) ∧ True) ∧ ((True ∧ (X (k + (1 : Nat))).now = (X j).now ∧ True) ∧ ((X (k + (1 : Nat))).n = (X j).n ∧ (∀ (x : Int), (X (k + (1 : Nat))).has x = (X j).has x) ∧ ∀ (x : Int), (X (k + (1 : Nat))).has x = true → ((X (k + (1 : Nat))).g x).ht = ((X j).g x).ht ∧ ((X (k + (1 : Nat))).g x).hv = ((X j).g x).hv ∧ ((X (k + (1 : Nat))).g x).hc = ((X j).g x).hc ∧ ((X (k + (1 : Nat))).g x).base.idx = ((X j).g x).base.idx ∧ ((X (k + (1 : Nat))).g x).base.term = ((X j).g x).base.term ∧ (true = true ∧ List.length ((X (k + (1 : Nat))).g x).base.vot = List.length ((X j).g x).base.vot ∧ contLe (List.length ((X (k + (1 : Nat))).g x).base.vot) (1 : Nat) (cellsOf' encI ((X (k + (1 : Nat))).g x).base.vot) (cellsOf' encI ((X j).g x).base.vot)) ∧ (true = true ∧ List.length ((X (k + (1 : Nat))).g x).base.lea = List.length ((X j).g x).base.lea ∧ contLe (List.length ((X (k + (1 : Nat))).g x).base.lea) (1 : Nat) (cellsOf' encI ((X (k + (1 : Nat))).g x).base.lea) (cellsOf' encI ((X j).g x).base.lea)) ∧ (true = true ∧ List.length ((X (k + (1 : Nat))).g x).base.data = List.length ((X j).g x).base.data ∧ contLe (List.length ((X (k + (1 : Nat))).g x).base.data) (1 : Nat) (cellsOf' encB ((X (k + (1 : Nat))).g x).base.data) (cellsOf' encB ((X j).g x).base.data)) ∧ (List.length ((X (k + (1 : Nat))).g x).ents = List.length ((X j).g x).ents ∧ contLe (List.length ((X (k + (1 : Nat))).g x).ents) (6 : Nat) (cellsOf' encE ((X (k + (1 : Nat))).g x).ents) (cellsOf' encE ((X j).g x).ents)) ∧ ((X (k + (1 : Nat))).g x).gone = ((X j).g x).gone ∧ (List.length ((X (k + (1 : Nat))).g x).first = List.length ((X j).g x).first ∧ contLe (List.length ((X (k + (1 : Nat))).g x).first) (1 : Nat) (cellsOf' encI ((X (k + (1 : Nat))).g x).first) (cellsOf' encI ((X j).g x).first)) ∧ True) ∧ True) ∧ true = true) ∧ true = true ∧ () = ())) ∧ ((Idx.view (X (k + (1 : Nat))) (List.getD l k (@default Itm instInhabitedItm)).group).gone = false → (vcOrL_q1 b l k X g) ∧ LoopOk Try.prog (3 : Nat) (20 : Nat) (loopAt Try.prog (3 : Nat) (20 : Nat)) { t := enT b l k g (0 : Nat), m := enM (X (k + (1 : Nat))) g, mv := [] : St } (T.map (lout jX20 (enS b l k (X (k + (1 : Nat))))) ((fun (x : Nat) => T.ret ()) (0 : Nat))) ∧ ∃ (j : Nat), List.length l - j < List.length l - k ∧ (((b = b ∧ List.length l = List.length l ∧ contLe (List.length l) (17 : Nat) (cellsOf' encIt l) (cellsOf' encIt l)) ∧ ((0 : Nat) = (0 : Nat) ∧ (0 : Nat) = (0 : Nat)) ∧ IntKind.wrap IntKind.i64 ((↑k : Int) + (1 : Int)) = (↑j : Int) ∧ True) ∧ ((True ∧ (X (k + (1 : Nat))).now = (X j).now ∧ True) ∧ ((X (k + (1 : Nat))).n = (X j).n ∧ (∀ (x : Int), (X (k + (1 : Nat))).has x = (X j).has x) ∧ ∀ (x : Int), (X (k + (1 : Nat))).has x = true → ((X (k + (1 : Nat))).g x).ht = ((X j).g x).ht ∧ ((X (k + (1 : Nat))).g x).hv = ((X j).g x).hv ∧ ((X (k + (1 : Nat))).g x).hc = ((X j).g x).hc ∧ ((X (k + (1 : Nat))).g x).base.idx = ((X j).g x).base.idx ∧ ((X (k + (1 : Nat))).g x).base.term = ((X j).g x).base.term ∧ (true = true ∧ List.length ((X (k + (1 : Nat))).g x).base.vot = List.length ((X j).g x).base.vot ∧ contLe (List.length ((X (k + (1 : Nat))).g x).base.vot) (1 : Nat) (cellsOf' encI ((X (k + (1 : Nat))).g x).base.vot) (cellsOf' encI ((X j).g x).base.vot)) ∧ (true = true ∧ List.length ((X (k + (1 : Nat))).g x).base.lea = List.length ((X j).g x).base.lea ∧ contLe (List.length ((X (k + (1 : Nat))).g x).base.lea) (1 : Nat) (cellsOf' encI ((X (k + (1 : Nat))).g x).base.lea) (cellsOf' encI ((X j).g x).base.lea)) ∧ (true = true ∧ List.length ((X (k + (1 : Nat))).g x).base.data = List.length ((X j).g x).base.data ∧ contLe (List.length ((X (k + (1 : Nat))).g x).base.data) (1 : Nat) (cellsOf' encB ((X (k + (1 : Nat))).g x).base.data) (cellsOf' encB ((X j).g x).base.data)) ∧ (List.length ((X (k + (1 : Nat))).g x).ents = List.length ((X j).g x).ents ∧ contLe (List.length ((X (k + (1 : Nat))).g x).ents) (6 : Nat) (cellsOf' encE ((X (k + (1 : Nat))).g x).ents) (cellsOf' encE ((X j).g x).ents)) ∧ ((X (k + (1 : Nat))).g x).gone = ((X j).g x).gone ∧ (List.length ((X (k + (1 : Nat))).g x).first = List.length ((X j).g x).first ∧ contLe (List.length ((X (k + (1 : Nat))).g x).first) (1 : Nat) (cellsOf' encI ((X (k + (1 : Nat))).g x).first) (cellsOf' encI ((X j).g x).first)) ∧ True) ∧ True) ∧ true = true) ∧ true = true ∧ () = ())))) ∧ (decide ((↑k : Int) < (↑(List.length l) : Int)) = false → True ∧ True ∧ true = true)
theorem vcOrL_eq (b : Bool) (l : List Itm) (k : Nat) (X : Nat → Idx) (g : Grp) (e : Int) : (loopVC Try.prog (orLH b l k (X k) (X (k + 1)) g e (l.getD k default)) 3 6 (fun k => l.length - k) (orT b l) (fun k => idxM (X k)) jX25 (fun _ => .ret ()) orS k) = vcOrL b l k X g e := by kernel_rfl
noncomputable def orH (b : Bool) (l : List Itm) (X : Nat → Idx) : HintsT Try.prog := withSub (hh _ (lp1 3 6 (jobOf (orT b l) (fun k => idxM (X k)) jX25 (fun _ => .ret ()) orS 0) noLp) (cs1 3 1 0 lvC (cs1 3 2 0 nwC noCs)) noOp) subW
def vcOr (b : Bool) (l : List Itm) (X : Nat → Idx) : Prop :=
  True ∧ True ∧ True ∧ True ∧ (false = true → false = true ∧ True) ∧ (false = false → (((b = b ∧ List.length l = List.length l ∧ contLe (List.length l) (17 : Nat) (cellsOf' encIt l) (cellsOf' encIt l)) ∧ ((0 : Nat) = (0 : Nat) ∧ (0 : Nat) = (0 : Nat)) ∧ (0 : Int) = (0 : Int) ∧ True) ∧ ((True ∧ (1 : Int) = (X (0 : Nat)).now ∧ True) ∧ ((0 : Nat) = (X (0 : Nat)).n ∧ (∀ (x : Int), false = (X (0 : Nat)).has x) ∧ ∀ (x : Int), false = true → (0 : Int) = ((X (0 : Nat)).g x).ht ∧ (0 : Int) = ((X (0 : Nat)).g x).hv ∧ (0 : Int) = ((X (0 : Nat)).g x).hc ∧ (0 : Int) = ((X (0 : Nat)).g x).base.idx ∧ (0 : Int) = ((X (0 : Nat)).g x).base.term ∧ (true = true ∧ (0 : Nat) = List.length ((X (0 : Nat)).g x).base.vot ∧ contLe (0 : Nat) (1 : Nat) (cellsOf' encI []) (cellsOf' encI ((X (0 : Nat)).g x).base.vot)) ∧ (true = true ∧ (0 : Nat) = List.length ((X (0 : Nat)).g x).base.lea ∧ contLe (0 : Nat) (1 : Nat) (cellsOf' encI []) (cellsOf' encI ((X (0 : Nat)).g x).base.lea)) ∧ (true = true ∧ (0 : Nat) = List.length ((X (0 : Nat)).g x).base.data ∧ contLe (0 : Nat) (1 : Nat) (cellsOf' encB []) (cellsOf' encB ((X (0 : Nat)).g x).base.data)) ∧ ((0 : Nat) = List.length ((X (0 : Nat)).g x).ents ∧ contLe (0 : Nat) (6 : Nat) (cellsOf' encE []) (cellsOf' encE ((X (0 : Nat)).g x).ents)) ∧ false = ((X (0 : Nat)).g x).gone ∧ ((0 : Nat) = List.length ((X (0 : Nat)).g x).first ∧ contLe (0 : Nat) (1 : Nat) (cellsOf' encI []) (cellsOf' encI ((X (0 : Nat)).g x).first)) ∧ True) ∧ True) ∧ true = true) ∧ LoopOk Try.prog (3 : Nat) (6 : Nat) (loopAt Try.prog (3 : Nat) (6 : Nat)) { t := orT b l (0 : Nat), m := idxM (X (0 : Nat)), mv := [] : St } (T.map (lout jX25 orS) ((fun (x : Nat) => T.ret ()) (0 : Nat))) ∧ true = true ∧ True)
theorem vcOr_eq (b : Bool) (l : List Itm) (X : Nat → Idx) : (ctrVC Try.prog (orH b l X) 3 [encIts b l] [] (lvR true)) = vcOr b l X := by kernel_rfl
end Go.Proofs.Ytccfojpdkbaekaa.W

namespace Go.Proofs.Ytccfojpdkbaekaa.W
open Go.Ax
set_option maxRecDepth 1000000
structure ItsOk (l : List Itm) : Prop where
  o : ∀ i ∈ l, ItmOk i
  n : ∀ i ∈ l, ItmIn i
  len : l.length * 232 ≤ 140737488355328
theorem itmOk0 : ItmOk default := ⟨entOk1 _ _ _, grpOk0.b⟩
theorem itmIn0 : ItmIn default := ⟨by simp [default], by simp [default], by simp [default]⟩
theorem getD_all {α : Type} [Inhabited α] {P : α → Prop} {l : List α} (h : ∀ x ∈ l, P x) (h0 : P default) (k : Nat) : P (l.getD k default) := by
  rw [List.getD_eq_getElem?_getD]
  rcases Nat.lt_or_ge k l.length with hk | hk
  · rw [List.getElem?_eq_getElem hk]; exact h _ (List.getElem_mem hk)
  · rw [List.getElem?_eq_none hk]; exact h0
structure XInv (x : Idx) (k : Nat) : Prop where
  o : ∀ j, x.has j = true → GrpOk (x.g j)
  r : ∀ j, x.has j = true → (x.g j).ents.length ≤ k
  v : ∀ j, x.has j = true → GInv (x.g j)
theorem XInv.view {x : Idx} {k : Nat} (h : XInv x k) (j : Int) : GrpOk (x.view j) ∧ (x.view j).ents.length ≤ k ∧ GInv (x.view j) := by
  cases hj : x.has j with
  | true => rw [x.view_t hj]; exact ⟨h.o j hj, h.r j hj, h.v j hj⟩
  | false => rw [x.view_f hj]; exact ⟨grpOk0, by simp, gInv0⟩
theorem tkG_ok {g : Grp} {i : Itm} (h : GrpOk g) (hi : ItmOk i) (hn : (g.ents.length + 1) * 96 ≤ 140737488355328) : GrpOk (tkG g i) ∧ (tkG g i).ents.length ≤ g.ents.length + 1 := by
  have hd : ∀ p, EntsOk (g.ents.drop p) := fun p => ⟨by rw [List.length_drop]; omega, fun x hx => h.e.e x (List.mem_of_mem_drop hx)⟩
  have ht : ∀ p, EntsOk (g.ents.take p) := fun p => ⟨by rw [List.length_take]; omega, fun x hx => h.e.e x (List.mem_of_mem_take hx)⟩
  have ha : ∀ p, EntsOk (g.ents.take p ++ [i.ent]) := fun p => ⟨by simp; omega, fun x hx => by
    rcases List.mem_append.1 hx with hx | hx
    · exact h.e.e x (List.mem_of_mem_take hx)
    · simp at hx; subst hx; exact hi.e⟩
  unfold tkG
  split
  · exact ⟨⟨h.b, h.e⟩, by simp⟩
  split
  · refine ⟨⟨hi.s, ?_⟩, ?_⟩
    · dsimp only; split
      · exact hd _
      · exact ⟨by simp, fun x hx => by simp at hx⟩
    · dsimp only; split
      · rw [List.length_drop]; omega
      · simp
  split
  · exact ⟨⟨h.b, ha _⟩, by simp; omega⟩
  split
  · exact ⟨⟨h.b, ht _⟩, by rw [List.length_take]; omega⟩
  · exact ⟨h, by omega⟩
theorem apG_ok {g : Grp} {i : Itm} (now : Int) (h : GrpOk g) (hi : ItmOk i) (hn : (g.ents.length + 1) * 96 ≤ 140737488355328) : GrpOk (apG g now i) ∧ (apG g now i).ents.length ≤ g.ents.length + 1 := by
  unfold apG
  split
  · exact ⟨⟨grpOk0.b, grpOk0.e⟩, by simp [gone1]⟩
  split
  · exact ⟨grpOk0, by simp⟩
  · dsimp only
    split
    · have := tkG_ok h hi hn
      exact ⟨⟨this.1.b, this.1.e⟩, this.2⟩
    · exact ⟨⟨h.b, h.e⟩, by simp⟩
theorem step_inv {x : Idx} {k : Nat} {i : Itm} (h : XInv x k) (hi : ItmOk i) (hn : ItmIn i) (hk : (k + 1) * 96 ≤ 140737488355328) : XInv (stepX x i) (k + 1) := by
  unfold stepX
  split
  · rename_i h0
    obtain ⟨v1, v2, v3⟩ := h.view i.group
    have a := apG_ok (g := x.view i.group) (i := i) x.now v1 hi (by omega)
    have b := apG_inv v3 hn h0
    have key : ∀ {P : Grp → Prop}, P (apG (x.view i.group) x.now i) → (∀ j, x.has j = true → P (x.g j)) → ∀ j, (apX x i).has j = true → P ((apX x i).g j) := by
      intro P h1 h2 j hj
      by_cases e : j = i.group
      · subst e; simpa [apX, Idx.put] using h1
      · have : (apX x i).g j = x.g j := by simp [apX, Idx.put, e]
        rw [this]
        refine h2 j ?_
        have hj : updBi x.has i.group j = true := hj
        unfold updBi at hj
        simpa [Ne.symm e] using hj
    exact ⟨key a.1 h.o, key (P := fun g => g.ents.length ≤ k + 1) (by omega) (fun j hj => by have := h.r j hj; omega), key b h.v⟩
  · exact ⟨h.o, fun j hj => by have := h.r j hj; omega, h.v⟩
theorem xs_succ {l : List Itm} {k : Nat} (h : k < l.length) : xs l (k + 1) = stepX (xs l k) (l.getD k default) := by
  unfold xs
  rw [takeS h, List.foldl_append]
  rfl
theorem xs_inv {l : List Itm} (h : ItsOk l) : ∀ k, k ≤ l.length → XInv (xs l k) k
  | 0, _ => ⟨fun j hj => by simp [xs, x0] at hj, fun j hj => by simp [xs, x0] at hj, fun j hj => by simp [xs, x0] at hj⟩
  | k + 1, hk => by
    rw [xs_succ (by omega)]
    have := h.len
    exact step_inv (xs_inv h k (by omega)) (getD_all h.o itmOk0 k) (getD_all h.n itmIn0 k) (by omega)
theorem en_loop (b : Bool) (l : List Itm) (k : Nat) (z : Idx) (g : Grp) (h : GInv g) (hn : g.ents.length * 96 ≤ 140737488355328) (j : Nat) : LoopOk Try.prog 3 20 (loopAt Try.prog 3 20) ⟨enT b l k g j, enM z g, []⟩ ((T.ret ()).map (lout jX20 (enS b l k z))) := by
  refine loop_vc Try.mixed (fun _ => rfl) (fun j => (vcEn_eq b l k z g j).mpr ?_) j
  unfold vcEn
  simp only [Int.toNat_natCast]
  have hx : ∀ j, j < g.ents.length → IntKind.u64.wrap (g.idxAt j + 1) = (g.ents.getD j default).idx := fun j hj => by
    have h1 := h.ix j hj
    have h2 := h.lt j hj
    have hb := h.b
    rw [h1] at h2 ⊢
    cases j with
    | zero => simp only [Grp.idxAt]; rw [wrap_u64 (by omega) (by omega)]; omega
    | succ j =>
      have h3 := h.ix j (by omega)
      simp only [Grp.idxAt]
      rw [h3, wrap_u64 (by omega) (by omega)]; omega
  have hs : ∀ j, g.idxAt (j + 1) = (g.ents.getD j default).idx := fun _ => rfl
  have ht : ∀ j, g.termAt (j + 1) = (g.ents.getD j default).term := fun _ => rfl
  refine ⟨fun hj => ?_, fun hj => by simp⟩
  have hj : j < g.ents.length := by simpa using hj
  have h1 := hx j hj
  have h2 := h.tm j hj
  rw [h1]
  have h2' : ¬ (g.ents.getD j default).term < g.termAt j := by omega
  rw [← hs j, ← ht j] at *
  simp [h2', hj]
  have e2 : g.ents[j].term = g.termAt (j + 1) := by rw [ht, List.getD_eq_getElem?_getD, List.getElem?_eq_getElem hj]; rfl
  rw [e2]
  refine ⟨h2, fun _ => ?_⟩
  refine Exists.intro (j + 1) ?_
  exact ⟨by omega, rfl, rfl, wrap_i64 (by omega) (by omega)⟩
theorem or_loop (b : Bool) (l : List Itm) (h : ItsOk l) (k : Nat) : LoopOk Try.prog 3 6 (loopAt Try.prog 3 6) ⟨orT b l k, idxM (xs l k), []⟩ ((T.ret ()).map (lout jX25 orS)) := by
  refine loop_vcH Try.mixed (fun _ => rfl) (ht := fun k => orLH b l k (xs l k) (xs l (k + 1)) ((xs l (k + 1)).view (l.getD k default).group) (apE (xs l k) (l.getD k default)) (l.getD k default)) (μ := fun k => l.length - k) (stT := orT b l) (stM := fun k => idxM (xs l k)) (X := jX25) (o := fun _ => .ret ()) (S := orS) (fun k => (vcOrL_eq b l k (xs l) ((xs l (k + 1)).view (l.getD k default).group) (apE (xs l k) (l.getD k default))).mpr ?_) k
  unfold vcOrL vcOrL_q4 vcOrL_q1 vcOrL_q2 vcOrL_q3
  simp only [Int.toNat_natCast]
  refine ⟨fun hk => ?_, fun hk => by simp⟩
  have hk : k < l.length := by simpa using hk
  have hlen := h.len
  have i1 := xs_inv h k (by omega)
  have i2 := xs_inv h (k + 1) (by omega)
  have hs := xs_succ hk
  have hit := getD_all h.o itmOk0 k
  generalize hi : l.getD k default = i at *
  have a1 : ApOk (xs l k) i := ⟨⟨i1.o⟩, hit, ⟨fun j hj => by have := i1.r j hj; omega⟩⟩
  have a2 : AlEq (xs l k) i (xs l (k + 1)) (apE (xs l k) i) := ⟨hs, rfl⟩
  obtain ⟨v1, _, _⟩ := i1.view i.group
  obtain ⟨w1, w2, w3⟩ := i2.view i.group
  have hin := en_loop b l k (xs l (k + 1)) _ w3 (by omega) 0
  have hw : IntKind.i64.wrap ((k : Int) + 1) = ((k + 1 : Nat) : Int) := wrap_i64 (by omega) (by omega)
  have hne : apE (xs l k) i ≠ 0 → (xs l k).view i.group = (xs l (k + 1)).view i.group := fun e => by rw [hs]; unfold stepX; rw [if_neg e]
  have hze : apE (xs l k) i = 0 → (xs l (k + 1)).has i.group = true := fun e => by
    rw [hs]; unfold stepX; rw [if_pos e]
    show updBi _ _ _ = true
    simp [updBi]
  generalize hzz : xs l (k + 1) = z at *
  generalize xs l k = x at *
  generalize apE x i = e at *
  have hlt : (x.view i.group).ents.length ≤ k := by omega
  have a3 : e = 0 → AlEq x i z 0 := fun h => h ▸ a2
  have i0 : (z.view i.group).base.idx = (z.view i.group).idxAt 0 := rfl
  have t0 : (z.view i.group).base.term = (z.view i.group).termAt 0 := rfl
  by_cases h0 : e = 0
  · have hz := hze h0
    have gn := w3.gn
    generalize z.view i.group = g at *
    simp [hk, v1, w1, a1, a3 h0, h0, hz, hw, hin, ← i0, ← t0]
    refine ⟨fun hg => ⟨gn hg, fun _ => ?_⟩, fun _ => ?_⟩
    all_goals
      refine Exists.intro (k + 1) ?_
      rw [hzz]
      simp
      omega
  · have hq := hne h0
    rw [hq] at *
    simp [hk, v1, w1, a1, a2, h0, hw]
    refine Exists.intro (k + 1) ?_
    rw [hzz]
    simp
    omega
theorem or_c (b : Bool) (l : List Itm) (h : ItsOk l) : (lvR true).Sat (ACall' Try.prog 3 [encIts b l] []) := by
  refine ctr_vc (ht := orH b l (xs l)) Try.mixed rfl ?_
  rw [vcOr_eq b l (xs l)]
  unfold vcOr
  have h1 := or_loop b l h 0
  have e : xs l 0 = x0 := rfl
  rw [e] at h1
  simp [e, h1]
  exact ⟨rfl, rfl, fun _ => rfl⟩
end Go.Proofs.Ytccfojpdkbaekaa.W
