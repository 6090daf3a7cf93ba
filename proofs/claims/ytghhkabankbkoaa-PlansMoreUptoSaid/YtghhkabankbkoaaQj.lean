import Derived.Test.YtghhkabankbkoaaQi
set_option linter.unusedVariables false
set_option linter.unusedSimpArgs false
/-! Plans: Next, the program's: proofs. -/
namespace Go.Proofs.Ytghhkabankbkoaa
open Go.Ax
set_option maxRecDepth 1000000
theorem tagA (x : Act) (j : Nat) (hj : j < 6) : tagT (get (encA x) j) = true := by
  match j, hj with
  | 0, _ => rfl
  | 1, _ => rfl
  | 2, _ => rfl
  | 3, _ => rfl
  | 4, _ => rfl
  | 5, _ => rfl
theorem tagAs (l : List Act) (k : Nat) (_ : k < l.length) (j : Nat) (hj : j < 6) : tagT (cellsOf' encA l k j) = true := tagA _ j hj
theorem le_plan {b c d : Bool} {p : Plan} {s : Seen} {k t : Int} (hk : p.kind = k) (ht : p.step = t) : leL [.agg (encPl b p), .agg (encSe c d s)] [.agg (encPq b (cI k) (cI t) p), .agg (encSe c d s)] := by
  simp [leL, AV.le, encPl, encPq, encSe, cI, encUs, encIs, encSs, hk, ht]
structure IsP (p : Plan) : Prop where
  nodes : p.nodes.length ≤ 7
  lo : 0 ≤ p.step
  hi : p.step < stepsOf p.kind
  many : (p.into.length : Int) = manyOf p.kind
theorem isP {p : Plan} (h : isPlan p = true) : IsP p := by
  simp [isPlan] at h
  exact ⟨okNs_len h.1, h.2.1.1.1, h.2.1.1.2, h.2.2⟩
theorem many_le (k : Int) : manyOf k ≤ 2 := by unfold manyOf; grind
theorem isP_A {b c : Bool} {p : Plan} {s : Seen} (hs : s.Ok) (h : IsP p) : (xA b c p s).Ok := ⟨hs.made, by have := h.many; have := many_le p.kind; show p.into.length ≤ 2; omega, h.nodes⟩
theorem olds_le (p : Plan) : (olds p).length ≤ 2 := by unfold olds; split <;> simp
theorem isP_B {b c : Bool} {p : Plan} {s : Seen} (hs : s.Ok) (h : IsP p) : (xB b c p s).Ok := ⟨hs.gone, olds_le p, h.nodes⟩
theorem next0_c (b c d : Bool) (p : Plan) (s : Seen) (hp : p.Ok) (hi : isPlan p = false) : nextN.Sat (ACall' Try.prog 9 [.agg (encPl b p), .agg (encSe c d s)] []) := by
  refine ctr_vc (ht := nextH0 b p) Try.mixed rfl ?_
  rw [vcNext0_eq b c d p s]
  unfold vcNext0
  simp [hi, hp]
theorem next10_c (b c d : Bool) (p : Plan) (s : Seen) (hp : p.Ok) (hs : s.Ok) (hi : isPlan p = true) (hk : p.kind = 1) (ht : p.step = 0) : (nextY (frzL p s p.group)).Sat (ACall' Try.prog 9 [.agg (encPl b p), .agg (encSe c d s)] []) := by
  refine sat_le (le_plan hk ht) (ctr_vc (ht := nextH (c_fz1 b c d p s) b p) Try.mixed rfl ?_)
  rw [vcNext10_eq b c d p s]
  unfold vcNext10
  simp [hi, hk, ht, hp, hs] <;> exact tagAs _
theorem next11_c (b c d : Bool) (p : Plan) (s : Seen) (hp : p.Ok) (hs : s.Ok) (hi : isPlan p = true) (hk : p.kind = 1) (ht : p.step = 1) : (nextY (sitesL s.made 3 p p.into)).Sat (ACall' Try.prog 9 [.agg (encPl b p), .agg (encSe c d s)] []) := by
  refine sat_le (le_plan hk ht) (ctr_vc (ht := nextH (c_mk b c d p s) b p) Try.mixed rfl ?_)
  rw [vcNext11_eq b c d p s]
  unfold vcNext11
  simp [hi, hk, ht, hp, hs, isP_A (b := b) (c := c) hs (isP hi)] <;> exact tagAs _
theorem next12_c (b c d : Bool) (p : Plan) (s : Seen) (hp : p.Ok) (hs : s.Ok) (hi : isPlan p = true) (hk : p.kind = 1) (ht : p.step = 2) : (nextY ([stepA p])).Sat (ACall' Try.prog 9 [.agg (encPl b p), .agg (encSe c d s)] []) := by
  refine sat_le (le_plan hk ht) (ctr_vc (ht := nextH (c_once b c d p s) b p) Try.mixed rfl ?_)
  rw [vcNext12_eq b c d p s]
  unfold vcNext12
  simp [hi, hk, ht, hp, hs] <;> exact tagAs _
theorem next13_c (b c d : Bool) (p : Plan) (s : Seen) (hp : p.Ok) (hs : s.Ok) (hi : isPlan p = true) (hk : p.kind = 1) (ht : p.step = 3) : (nextY (sitesL s.gone 5 p (olds p))).Sat (ACall' Try.prog 9 [.agg (encPl b p), .agg (encSe c d s)] []) := by
  refine sat_le (le_plan hk ht) (ctr_vc (ht := nextH (c_gn b c d p s) b p) Try.mixed rfl ?_)
  rw [vcNext13_eq b c d p s]
  unfold vcNext13
  simp [hi, hk, ht, hp, hs, isP_B (b := b) (c := c) hs (isP hi)] <;> exact tagAs _
theorem next20_c (b c d : Bool) (p : Plan) (s : Seen) (hp : p.Ok) (hs : s.Ok) (hi : isPlan p = true) (hk : p.kind = 2) (ht : p.step = 0) : (nextY (frzL p s p.group)).Sat (ACall' Try.prog 9 [.agg (encPl b p), .agg (encSe c d s)] []) := by
  refine sat_le (le_plan hk ht) (ctr_vc (ht := nextH (c_fz1 b c d p s) b p) Try.mixed rfl ?_)
  rw [vcNext20_eq b c d p s]
  unfold vcNext20
  simp [hi, hk, ht, hp, hs] <;> exact tagAs _
theorem next21_c (b c d : Bool) (p : Plan) (s : Seen) (hp : p.Ok) (hs : s.Ok) (hi : isPlan p = true) (hk : p.kind = 2) (ht : p.step = 1) : (nextY (frzL p s p.other)).Sat (ACall' Try.prog 9 [.agg (encPl b p), .agg (encSe c d s)] []) := by
  refine sat_le (le_plan hk ht) (ctr_vc (ht := nextH (c_fz2 b c d p s) b p) Try.mixed rfl ?_)
  rw [vcNext21_eq b c d p s]
  unfold vcNext21
  simp [hi, hk, ht, hp, hs] <;> exact tagAs _
theorem next22_c (b c d : Bool) (p : Plan) (s : Seen) (hp : p.Ok) (hs : s.Ok) (hi : isPlan p = true) (hk : p.kind = 2) (ht : p.step = 2) : (nextY (sitesL s.made 3 p p.into)).Sat (ACall' Try.prog 9 [.agg (encPl b p), .agg (encSe c d s)] []) := by
  refine sat_le (le_plan hk ht) (ctr_vc (ht := nextH (c_mk b c d p s) b p) Try.mixed rfl ?_)
  rw [vcNext22_eq b c d p s]
  unfold vcNext22
  simp [hi, hk, ht, hp, hs, isP_A (b := b) (c := c) hs (isP hi)] <;> exact tagAs _
theorem next23_c (b c d : Bool) (p : Plan) (s : Seen) (hp : p.Ok) (hs : s.Ok) (hi : isPlan p = true) (hk : p.kind = 2) (ht : p.step = 3) : (nextY ([stepA p])).Sat (ACall' Try.prog 9 [.agg (encPl b p), .agg (encSe c d s)] []) := by
  refine sat_le (le_plan hk ht) (ctr_vc (ht := nextH (c_once b c d p s) b p) Try.mixed rfl ?_)
  rw [vcNext23_eq b c d p s]
  unfold vcNext23
  simp [hi, hk, ht, hp, hs] <;> exact tagAs _
theorem next24_c (b c d : Bool) (p : Plan) (s : Seen) (hp : p.Ok) (hs : s.Ok) (hi : isPlan p = true) (hk : p.kind = 2) (ht : p.step = 4) : (nextY (sitesL s.gone 5 p (olds p))).Sat (ACall' Try.prog 9 [.agg (encPl b p), .agg (encSe c d s)] []) := by
  refine sat_le (le_plan hk ht) (ctr_vc (ht := nextH (c_gn b c d p s) b p) Try.mixed rfl ?_)
  rw [vcNext24_eq b c d p s]
  unfold vcNext24
  simp [hi, hk, ht, hp, hs, isP_B (b := b) (c := c) hs (isP hi)] <;> exact tagAs _
theorem next30_c (b c d : Bool) (p : Plan) (s : Seen) (hp : p.Ok) (hs : s.Ok) (hi : isPlan p = true) (hk : p.kind = 3) (ht : p.step = 0) : (nextY (doneL p (learnB p s) (learnA p s))).Sat (ACall' Try.prog 9 [.agg (encPl b p), .agg (encSe c d s)] []) := by
  refine sat_le (le_plan hk ht) (ctr_vc (ht := nextH (c_learn b c d p s) b p) Try.mixed rfl ?_)
  rw [vcNext30_eq b c d p s]
  unfold vcNext30
  simp [hi, hk, ht, hp, hs] <;> exact tagAs _
theorem next31_c (b c d : Bool) (p : Plan) (s : Seen) (hp : p.Ok) (hs : s.Ok) (hi : isPlan p = true) (hk : p.kind = 3) (ht : p.step = 1) : (nextY (doneL p (inI s.voters p.dst) (promA p s))).Sat (ACall' Try.prog 9 [.agg (encPl b p), .agg (encSe c d s)] []) := by
  refine sat_le (le_plan hk ht) (ctr_vc (ht := nextH (c_prom b c d p s) b p) Try.mixed rfl ?_)
  rw [vcNext31_eq b c d p s]
  unfold vcNext31
  simp [hi, hk, ht, hp, hs] <;> exact tagAs _
theorem next32_c (b c d : Bool) (p : Plan) (s : Seen) (hp : p.Ok) (hs : s.Ok) (hi : isPlan p = true) (hk : p.kind = 3) (ht : p.step = 2) : (nextY (doneL p (remB p s) (remA p s))).Sat (ACall' Try.prog 9 [.agg (encPl b p), .agg (encSe c d s)] []) := by
  refine sat_le (le_plan hk ht) (ctr_vc (ht := nextH (c_rem b c d p s) b p) Try.mixed rfl ?_)
  rw [vcNext32_eq b c d p s]
  unfold vcNext32
  simp [hi, hk, ht, hp, hs] <;> exact tagAs _
theorem next33_c (b c d : Bool) (p : Plan) (s : Seen) (hp : p.Ok) (hs : s.Ok) (hi : isPlan p = true) (hk : p.kind = 3) (ht : p.step = 3) : (nextY ([stepA p])).Sat (ACall' Try.prog 9 [.agg (encPl b p), .agg (encSe c d s)] []) := by
  refine sat_le (le_plan hk ht) (ctr_vc (ht := nextH (c_once b c d p s) b p) Try.mixed rfl ?_)
  rw [vcNext33_eq b c d p s]
  unfold vcNext33
  simp [hi, hk, ht, hp, hs] <;> exact tagAs _
theorem next34_c (b c d : Bool) (p : Plan) (s : Seen) (hp : p.Ok) (hs : s.Ok) (hi : isPlan p = true) (hk : p.kind = 3) (ht : p.step = 4) : (nextY (leaveL p s)).Sat (ACall' Try.prog 9 [.agg (encPl b p), .agg (encSe c d s)] []) := by
  refine sat_le (le_plan hk ht) (ctr_vc (ht := nextH (c_leave b c d p s) b p) Try.mixed rfl ?_)
  rw [vcNext34_eq b c d p s]
  unfold vcNext34
  simp [hi, hk, ht, hp, hs] <;> exact tagAs _
theorem next_y (b c d : Bool) (p : Plan) (s : Seen) (hp : p.Ok) (hs : s.Ok) (hi : isPlan p = true) : (nextY (askL p s)).Sat (ACall' Try.prog 9 [.agg (encPl b p), .agg (encSe c d s)] []) := by
  have h := isP hi
  have h1 := h.lo
  have h2 := h.hi
  by_cases k1 : p.kind = 1
  · have e : stepsOf p.kind = 4 := by rw [k1]; rfl
    have : p.step = 0 ∨ p.step = 1 ∨ p.step = 2 ∨ p.step = 3 := by omega
    rcases this with t | t | t | t
    · have := next10_c b c d p s hp hs hi k1 t
      simpa [askL, k1, t, stepsOf] using this
    · have := next11_c b c d p s hp hs hi k1 t
      simpa [askL, k1, t, stepsOf] using this
    · have := next12_c b c d p s hp hs hi k1 t
      simpa [askL, k1, t, stepsOf] using this
    · have := next13_c b c d p s hp hs hi k1 t
      simpa [askL, k1, t, stepsOf] using this
  · by_cases k2 : p.kind = 2
    · have e : stepsOf p.kind = 5 := by rw [k2]; rfl
      have : p.step = 0 ∨ p.step = 1 ∨ p.step = 2 ∨ p.step = 3 ∨ p.step = 4 := by omega
      rcases this with t | t | t | t | t
      · have := next20_c b c d p s hp hs hi k2 t
        simpa [askL, k2, t, stepsOf] using this
      · have := next21_c b c d p s hp hs hi k2 t
        simpa [askL, k2, t, stepsOf] using this
      · have := next22_c b c d p s hp hs hi k2 t
        simpa [askL, k2, t, stepsOf] using this
      · have := next23_c b c d p s hp hs hi k2 t
        simpa [askL, k2, t, stepsOf] using this
      · have := next24_c b c d p s hp hs hi k2 t
        simpa [askL, k2, t, stepsOf] using this
    · by_cases k3 : p.kind = 3
      · have e : stepsOf p.kind = 5 := by rw [k3]; rfl
        have : p.step = 0 ∨ p.step = 1 ∨ p.step = 2 ∨ p.step = 3 ∨ p.step = 4 := by omega
        rcases this with t | t | t | t | t
        · have := next30_c b c d p s hp hs hi k3 t
          simpa [askL, k3, t, stepsOf] using this
        · have := next31_c b c d p s hp hs hi k3 t
          simpa [askL, k3, t, stepsOf] using this
        · have := next32_c b c d p s hp hs hi k3 t
          simpa [askL, k3, t, stepsOf] using this
        · have := next33_c b c d p s hp hs hi k3 t
          simpa [askL, k3, t, stepsOf] using this
        · have := next34_c b c d p s hp hs hi k3 t
          simpa [askL, k3, t, stepsOf] using this
      · have e : stepsOf p.kind = 0 := by simp [stepsOf, k1, k2, k3]
        omega
end Go.Proofs.Ytghhkabankbkoaa
