import Derived.Test.YtghhkabankbkoaaQr
set_option linter.unusedVariables false
set_option linter.unusedSimpArgs false
/-! Plans: the law PlansNamed. -/
namespace Go.Proofs.Ytghhkabankbkoaa
open Go.Ax
set_option maxRecDepth 1000000
theorem inI_back (l : List Int) (x : Int) : inI (back l 0) x = inI l x := by simp [inI, back]
theorem inS_back (l : List Site) (x : Site) : inS (back l 0) x = inS l x := by simp [inS, back]
theorem ask_named (p o : Plan) (s : Seen) : askL (p.as o) (s.back 0 0 0) = askL p s := by
  have f : ∀ x, inI (s.back 0 0 0).frozen x = inI s.frozen x := fun x => inI_back _ x
  have m : ∀ x, inS (s.back 0 0 0).made x = inS s.made x := fun x => inS_back _ x
  have g : ∀ x, inS (s.back 0 0 0).gone x = inS s.gone x := fun x => inS_back _ x
  have e1 : doneL (p.as o) = doneL p := rfl
  have e2 : learnB (p.as o) (s.back 0 0 0) = learnB p s := rfl
  have e3 : learnA (p.as o) (s.back 0 0 0) = learnA p s := by
    have := m ⟨p.group, p.dst⟩
    simp only [learnA, Plan.as, this]
  have e4 : promA (p.as o) (s.back 0 0 0) = promA p s := rfl
  have e5 : remA (p.as o) (s.back 0 0 0) = remA p s := rfl
  have e6 : remB (p.as o) (s.back 0 0 0) = remB p s := rfl
  have e7 : leaveL (p.as o) (s.back 0 0 0) = leaveL p s := by
    have := g ⟨p.group, p.src⟩
    simp only [leaveL, Plan.as, this]
    rfl
  have e8 : ∀ x, frzL (p.as o) (s.back 0 0 0) x = frzL p s x := fun x => by
    simp only [frzL, f, e1]
  have e9 : ∀ k gs, sitesL (s.back 0 0 0).made k (p.as o) gs = sitesL s.made k p gs := fun k gs => by
    unfold sitesL restA mostB cntB missA
    simp only [m]
    rfl
  have e10 : ∀ k gs, sitesL (s.back 0 0 0).gone k (p.as o) gs = sitesL s.gone k p gs := fun k gs => by
    unfold sitesL restA mostB cntB missA
    simp only [g]
    rfl
  unfold askL
  rw [e1, e2, e3, e4, e5, e6, e7, e8, e8, e9, e10]
  rfl
theorem back_step {α : Type} (d : α) {l : List α} {q : Nat} (h : q + 1 ≤ l.length) : back l q = back l (q + 1) ++ [l[q]?.getD d] := by
  unfold back
  rw [List.drop_eq_getElem_cons (by omega), List.reverse_cons]
  simp [List.getElem?_eq_getElem (by omega : q < l.length)]
theorem back_len {α : Type} (l : List α) (q : Nat) : (back l q).length = l.length - q := by simp [back]
theorem n1_loop (x : NmP) (h1 : x.s.frozen.length * 8 ≤ 140737488351232) (k : Nat) : LoopOk Try.prog 7 12 (loopAt Try.prog 7 12) ⟨n1T x k, n1M x k, []⟩ (T.map (lout [6, 7, 8, 9, 10, 11] (n1S x)) (.ret ())) := by
  refine loop_vcH (o := fun _ => .ret ()) Try.mixed (fun _ => rfl) (fun k => (vcN1_eq x k).mpr ?_) k
  unfold vcN1
  have hm : min k x.s.frozen.length ≤ x.s.frozen.length := Nat.min_le_right _ _
  generalize hq : min k x.s.frozen.length = q at *
  simp
  have hl := back_len x.s.frozen q
  refine ⟨fun hq1 => ?_, fun hq0 => ?_⟩
  · obtain ⟨r, rfl⟩ : ∃ r, q = r + 1 := ⟨q - 1, by omega⟩
    have hs := back_step 0 hm
    have hr : min r x.s.frozen.length = r := by omega
    refine ⟨⟨by omega, by omega⟩, ⟨by omega, by omega⟩, r, by omega, by rw [hr, wrap_i64 (by omega) (by omega)]; omega, by rw [hr, hs]; simp, ?_⟩
    rw [hr, hs]
    have h0 : ∀ j, j < 1 → le0 (Ax.get [AV.y (Value.int IntKind.u64 (x.s.frozen[r]?.getD 0))] j) (Ax.get (encU (x.s.frozen[r]?.getD 0)) j) := fun j hj => by
      have e : j = 0 := by omega
      rw [e]; exact le0_refl _
    have := app1_le (sz := 1) (enc := encU) (l := back x.s.frozen (r + 1)) (n := (back x.s.frozen (r + 1)).length) rfl h0
    simpa using this
  · obtain rfl : q = 0 := by omega
    exact ⟨rfl, contLe_refl _ _ _⟩
theorem n2_loop (x : NmP) (h1 : x.s.made.length * 16 ≤ 140737488351232) (k : Nat) : LoopOk Try.prog 7 16 (loopAt Try.prog 7 16) ⟨n2T x k, n2M x k, []⟩ (T.map (lout [6, 7, 8, 9, 10, 11] (n2S x)) (.ret ())) := by
  refine loop_vcH (o := fun _ => .ret ()) Try.mixed (fun _ => rfl) (fun k => (vcN2_eq x k).mpr ?_) k
  unfold vcN2
  have hm : min k x.s.made.length ≤ x.s.made.length := Nat.min_le_right _ _
  generalize hq : min k x.s.made.length = q at *
  simp
  have hl := back_len x.s.made q
  refine ⟨fun hq1 => ?_, fun hq0 => ?_⟩
  · obtain ⟨r, rfl⟩ : ∃ r, q = r + 1 := ⟨q - 1, by omega⟩
    have hs := back_step default hm
    have hr : min r x.s.made.length = r := by omega
    refine ⟨⟨by omega, by omega⟩, ⟨by omega, by omega⟩, r, by omega, by rw [hr, wrap_i64 (by omega) (by omega)]; omega, by rw [hr, hs]; simp, ?_⟩
    rw [hr, hs]
    exact app1_le rfl fun j hj => by match j, hj with | 0, _ => simp [encS] | 1, _ => simp [encS]
  · obtain rfl : q = 0 := by omega
    exact ⟨rfl, contLe_refl _ _ _⟩
theorem n3_loop (x : NmP) (h1 : x.s.gone.length * 16 ≤ 140737488351232) (k : Nat) : LoopOk Try.prog 7 20 (loopAt Try.prog 7 20) ⟨n3T x k, n3M x k, []⟩ (T.map (lout [6, 7, 8, 9, 10, 11] (n3S x)) (.ret ())) := by
  refine loop_vcH (o := fun _ => .ret ()) Try.mixed (fun _ => rfl) (fun k => (vcN3_eq x k).mpr ?_) k
  unfold vcN3
  have hm : min k x.s.gone.length ≤ x.s.gone.length := Nat.min_le_right _ _
  generalize hq : min k x.s.gone.length = q at *
  simp
  have hl := back_len x.s.gone q
  refine ⟨fun hq1 => ?_, fun hq0 => ?_⟩
  · obtain ⟨r, rfl⟩ : ∃ r, q = r + 1 := ⟨q - 1, by omega⟩
    have hs := back_step default hm
    have hr : min r x.s.gone.length = r := by omega
    refine ⟨⟨by omega, by omega⟩, ⟨by omega, by omega⟩, r, by omega, by rw [hr, wrap_i64 (by omega) (by omega)]; omega, by rw [hr, hs]; simp, ?_⟩
    rw [hr, hs]
    exact app1_le rfl fun j hj => by match j, hj with | 0, _ => simp [encS] | 1, _ => simp [encS]
  · obtain rfl : q = 0 := by omega
    exact ⟨rfl, contLe_refl _ _ _⟩

theorem named_c (p o : Plan) (s : Seen) (hp : p.Ok) (hs : s.Ok) (h1 : s.frozen.length * 8 ≤ 140737488351232) (h2 : s.made.length * 16 ≤ 140737488351232) (h3 : s.gone.length * 16 ≤ 140737488351232) : (boolR true).Sat (ACall' Try.prog 7 [.agg (encPl true p), .agg (encSe true true s), .agg (encPl true o)] []) := by
  have s1 : ∀ l : List Act, sameP l l = true := fun l => sameP_iff.2 rfl
  have ha := ask_named p o s
  have hb : isPlan (p.as o) = isPlan p := rfl
  have hp2 : (p.as o).Ok := ⟨hp.into, hp.nodes⟩
  have hs2 : (s.back 0 0 0).Ok := ⟨by simpa [Seen.back, back] using hs.frozen, by simpa [Seen.back, back] using hs.made, by simpa [Seen.back, back] using hs.gone, hs.voters, hs.learners⟩
  cases hi : isPlan p
  · have a1 := n1_loop (nmX false p o s) h1 s.frozen.length
    have a2 := n2_loop (nmX false p o s) h2 s.made.length
    have a3 := n3_loop (nmX false p o s) h3 s.gone.length
    refine ctr_vc (ht := nmH false p o s) Try.mixed rfl ?_
    rw [vcNm2_eq p o s]
    unfold vcNm2
    simp [hp, hs, hi, s1, hb, hp2, hs2, ha, nmX] at *
    exact ⟨⟨wrap_i64 (by omega) (by omega), by simp [back_len], by simp [back_len], by simp [back_len]⟩, a1, wrap_i64 (by omega) (by omega), a2, wrap_i64 (by omega) (by omega), a3⟩
  · have a1 := n1_loop (nmX true p o s) h1 s.frozen.length
    have a2 := n2_loop (nmX true p o s) h2 s.made.length
    have a3 := n3_loop (nmX true p o s) h3 s.gone.length
    have hlen := askL_len (s := s) hi
    refine ctr_vc (ht := nmH true p o s) Try.mixed rfl ?_
    rw [vcNm_eq p o s]
    unfold vcNm
    simp [hp, hs, hi, s1, hb, hp2, hs2, ha, nmX] at *
    exact ⟨⟨wrap_i64 (by omega) (by omega), by simp [back_len], by simp [back_len], by simp [back_len]⟩, a1, wrap_i64 (by omega) (by omega), a2, wrap_i64 (by omega) (by omega), a3, tagAs _, by omega⟩
end Go.Proofs.Ytghhkabankbkoaa
