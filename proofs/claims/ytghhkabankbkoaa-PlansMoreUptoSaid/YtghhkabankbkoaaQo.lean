import Derived.Test.YtghhkabankbkoaaQn
set_option linter.unusedVariables false
set_option linter.unusedSimpArgs false
/-! Plans: the law PlansNext. -/
namespace Go.Proofs.Ytghhkabankbkoaa
open Go.Ax
set_option maxRecDepth 1000000
theorem bump_len (l : List Act) (k : Nat) : (bumpL l k).length = l.length := by
  simp [bumpL]; omega
theorem bump_zero (l : List Act) : bumpL l 0 = l := by simp [bumpL]
theorem bump_at (l : List Act) (k : Nat) (h : k < l.length) : (bumpL l k)[k]?.getD default = l[k]?.getD default := by
  simp [bumpL, List.getElem?_append, Nat.min_eq_left (Nat.le_of_lt h), h]
theorem snoc_a {d : List Act} {j : Nat} (h : j < d.length) : d.take (j + 1) = d.take j ++ [d[j]?.getD default] := by
  rw [List.take_add_one, List.getElem?_eq_getElem h]; rfl
theorem bump_step (l : List Act) (k : Nat) (h : k < l.length) : bumpL l (k + 1) = (bumpL l k).set k (bumpA (l[k]?.getD default)) := by
  unfold bumpL
  rw [snoc_a h, List.map_append, List.set_append, List.length_map, List.length_take, Nat.min_eq_left (Nat.le_of_lt h), if_neg (Nat.lt_irrefl _), Nat.sub_self]
  rw [List.drop_eq_getElem_cons h, List.set_cons_zero]
  simp
theorem askL_len {p : Plan} {s : Seen} (hi : isPlan p = true) : (askL p s).length ≤ 15 := by
  have h := isP hi
  have d : ∀ b x, (doneL p b x).length ≤ 15 := by intro b x; unfold doneL; split <;> simp
  have si : ∀ (l : List Site) (k : Int) (gs : List Int), gs.length ≤ 2 → (sitesL l k p gs).length ≤ 15 := by
    intro l k gs hg
    have := SiP.at_len (x := ⟨true, true, true, p, gs, l, k⟩) hg h.nodes gs.length
    unfold SiP.at at this
    simp only [List.take_length] at this
    unfold sitesL
    rw [List.length_append]
    split <;> simp <;> omega
  have hin : p.into.length ≤ 2 := by have := h.many; have := many_le p.kind; omega
  unfold askL
  repeat' split
  all_goals first
    | exact d _ _
    | exact si _ _ _ hin
    | exact si _ _ _ (olds_le p)
    | simp
theorem p1_loop (p : Plan) (s : Seen) (q : Int) (hi : isPlan p = true) (k : Nat) : LoopOk Try.prog 4 8 (loopAt Try.prog 4 8) ⟨p1T p s q k, p1M p s k, []⟩ (T.map (lout [2, 3, 4, 5, 6, 7, 8, 9] (p1S p s q)) (.ret ())) := by
  refine loop_vcH (o := fun _ => .ret ()) Try.mixed (fun _ => rfl) (fun k => (vcP1_eq p s q k).mpr ?_) k
  unfold vcP1
  have hlen := askL_len (s := s) hi
  generalize askL p s = L at *
  have hbl := bump_len L k
  simp
  intro hk
  refine ⟨hk, by omega, hk, by omega, k + 1, by omega, by rw [wrap_i64 (by omega) (by omega)]; omega, by rw [bump_len, bump_len], ?_⟩
  rw [bump_at L k hk, bump_step L k hk]
  generalize hx : L[k]?.getD default = x
  have hx' : (bumpL L k).getD k default = x := by rw [List.getD_eq_getElem?_getD, bump_at L k hk, hx]
  intro a ha b hb
  unfold wrRow cellsOf'
  by_cases h1 : a = k
  · subst h1
    have h2 : ((bumpL L a).set a (bumpA x)).getD a default = bumpA x := by simp [hbl, hk]
    rw [h2, hx']
    match b, hb with
    | 0, _ => simp [encA, bumpA, len_eq]
    | 1, _ => simp [encA, bumpA, len_eq]
    | 2, _ => simp [encA, bumpA, len_eq]
    | 3, _ => simp [encA, bumpA, len_eq]
    | 4, _ => simp [encA, bumpA, len_eq]
    | 5, _ => simp [encA, bumpA, len_eq]
  · rw [if_neg (by rintro ⟨h, _⟩; exact h1 h)]
    simp [List.getElem?_set, Ne.symm h1]
theorem p2_loop (p : Plan) (s : Seen) (e q : Int) (hp : p.Ok) (k : Nat) : LoopOk Try.prog 4 12 (loopAt Try.prog 4 12) ⟨p2T p e q k, pnM p s, []⟩ (T.map (lout [2, 3, 4, 5, 6, 7, 8, 9] (p2S p s e q)) (.ret ())) := by
  refine loop_vcH (o := fun _ => .ret ()) (stM := fun _ => pnM p s) Try.mixed (fun _ => rfl) (fun k => (vcP2_eq p s e q k).mpr ?_) k
  unfold vcP2
  have := hp.into
  simp
  exact fun hk => ⟨hk, k + 1, by omega, by rw [wrap_i64 (by omega) (by omega)]; omega⟩
theorem p3_loop (p : Plan) (s : Seen) (e q : Int) (hp : p.Ok) (k : Nat) : LoopOk Try.prog 4 17 (loopAt Try.prog 4 17) ⟨p3T p e q k, pnM p s, []⟩ (T.map (lout [2, 3, 4, 5, 6, 7, 8, 9] (p3S p s e q)) (.ret ())) := by
  refine loop_vcH (o := fun _ => .ret ()) (stM := fun _ => pnM p s) Try.mixed (fun _ => rfl) (fun k => (vcP3_eq p s e q k).mpr ?_) k
  unfold vcP3
  have := hp.nodes
  simp
  exact fun hk => ⟨hk, k + 1, by omega, by rw [wrap_i64 (by omega) (by omega)]; omega⟩
theorem pnext_c (p : Plan) (s : Seen) (q : Int) (hp : p.Ok) (hs : s.Ok) (h1 : p.into.length * 8 ≤ 140737488351232) (h2 : p.nodes.length * 8 ≤ 140737488351232) : (boolR true).Sat (ACall' Try.prog 4 [.agg (encPl true p), .agg (encSe true true s), .y (.int .i64 q)] []) := by
  have s1 : ∀ l : List Act, sameP l l = true := fun l => sameP_iff.2 rfl
  have a2 := fun e => p2_loop p s e q hp 0
  have a3 := fun e => p3_loop p s e q hp 0
  cases hi : isPlan p
  · refine ctr_vc (ht := pnH false p s q) Try.mixed rfl ?_
    rw [vcPn2_eq p s q]
    unfold vcPn2
    simp [hp, hs, hi, s1, a2, a3, askI, errI, stepsOf]
    refine ⟨by omega, by omega, ?_⟩
    grind
  · have a1 := p1_loop p s q hi 0
    have hlen := askL_len (s := s) hi
    refine ctr_vc (ht := pnH true p s q) Try.mixed rfl ?_
    rw [vcPn_eq p s q]
    unfold vcPn
    simp [hp, hs, hi, s1, a1, a2, a3, askI, errI, stepsOf]
    refine ⟨by omega, by omega, by omega, ⟨by rw [bump_zero], by rw [bump_zero]; exact contLe_refl _ _ _⟩, ?_⟩
    grind
end Go.Proofs.Ytghhkabankbkoaa
