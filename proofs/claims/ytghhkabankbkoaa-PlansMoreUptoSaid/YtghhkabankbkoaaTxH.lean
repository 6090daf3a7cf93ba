import Derived.Test.YtghhkabankbkoaaTxG
set_option linter.unusedVariables false
set_option linter.unusedSimpArgs false
/-! Loops whose rounds have their own hints. -/
namespace Go.Ax
set_option maxRecDepth 1000000
theorem loop_ofH {P : Program} (hm : P.follows .mixedOrders = true) (n : Nat) {f : FuncId} {k : Nat} {c : Code} {ι τ : Type} (ht : ι → HintsT P) (μ : ι → Nat) (st : ι → List AV × List Blk) (X : List Nat) (o : ι → T τ) (S : τ → Exit × List AV × List Blk) (hd : ∀ i, (o i).det = true)
    (h : ∀ i, (ecodeT P (ht i) n f c ⟨(st i).1, (st i).2, []⟩).post fun e => match e.1 with
      | .normal => ∃ j, μ j < μ i ∧ stLe e.2 ⟨(st j).1, (st j).2, []⟩ ∧ allIn (drops e.2.m (st j).2 0 ++ e.2.mv) X = true ∧ (o j).post fun a => (o i).post fun b => a = b
      | x => (o i).post fun b => exLe (x, e.2) (lout X S b)) : ∀ i, LoopOk P f k c ⟨(st i).1, (st i).2, []⟩ ((o i).map (lout X S)) := by
  have key : ∀ m i, μ i < m → (o i).Sat fun b => ∃ q, ARounds P c q ⟨(st i).1, (st i).2, []⟩ (lout X S b).1 (lout X S b).2 := by
    intro m
    induction m with
    | zero => intro i hi; omega
    | succ m ih =>
      intro i hi Q hQ
      obtain ⟨⟨x, s⟩, he, hp⟩ := ecodeT_ok hm (ht := ht i) n f c _ _ (h i)
      cases x with
      | normal =>
        obtain ⟨j, hj, hle, hX, hout⟩ := hp
        obtain ⟨a, ⟨q, hq⟩, ha⟩ := ih j (by omega) _ hout
        obtain ⟨b, rfl, hQb⟩ := T.post_ex (hd i) ha hQ
        refine ⟨a, ⟨q + 1, ?_⟩, hQb⟩
        have hmv := allIn_ok hX
        refine ARounds.next he (s1 := s) ?_
        refine ⟨fun i hi => hmv i (List.mem_append_right _ hi), fun H E w a' hC hT hd => ?_⟩
        obtain ⟨E', h1, h2, h3⟩ := stLe_ok hle hC hT
        refine rounds_mono ?_ q a' w (hq.2 H E' w a' h1 h2 hd)
        rintro x' a2 w2 ⟨H1, E1, rfl, hd1, hT1, hC1, hE1⟩
        exact ⟨H1, E1, rfl, hd1, hT1, hC1, h3.trans hE1 fun i hi => hmv i (List.mem_append_left _ hi)⟩
      | _ =>
        obtain ⟨b, hb, hQb⟩ := T.post_ex (hd i) hp hQ
        exact ⟨b, ⟨1, ARounds.out (fun e => by
          unfold exLe at hb
          split at hb
          · rename_i hbb
            simp only [Bool.and_eq_true] at hbb
            rw [← exB_eq hbb.1] at e; cases e
          · exact hb.elim) (exLe_ok he hb)⟩, hQb⟩
  intro i
  exact (key (μ i + 1) i (by omega)).map fun e ⟨q, hq⟩ => ACode.loop hq

theorem loop_vcH {P : Program} (hm : P.follows .mixedOrders = true) {f k : Nat} {ι τ : Type} {ht : ι → HintsT P} {μ : ι → Nat} {stT : ι → List AV} {stM : ι → List Blk} {X : List Nat} {o : ι → T τ} {S : τ → Exit × List AV × List Blk} (hd : ∀ i, (o i).det = true)
    (h : ∀ i, loopVC P (ht i) f k μ stT stM X o S i) (i : ι) : LoopOk P f k (loopAt P f k) ⟨stT i, stM i, []⟩ ((o i).map (lout X S)) :=
  loop_ofH hm 300 ht μ (fun i => (stT i, stM i)) X o S hd h i
end Go.Ax
