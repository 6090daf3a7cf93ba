import Derived.Test.YtghhkabankbkoaaAxO
set_option linter.unusedVariables false
set_option linter.unusedSimpArgs false
/-! Drawn regions, behind the kit's wpAny. -/
namespace Go.Ax
open Go

/-- one operation, wanted or not, from s on -/
def StepD (P : Program) (ops : Array Oper) (o : Oper) (d : DE) (s : St) : Prop :=
  ∀ H E w a (K : Act → World → Prop) (Q : Exit → Act → World → Prop), Conc H E w s.m → RelL s.t H E a.tmps.toList → a.defers = [] →
    (∀ v w' H' E', Rel d.r H' E' v → Conc H' E' w' (applyW d.wr (killM d.kl s.m)) → Evol d.kl H E w H' E' w' → K (a.put o.dst v) w') →
    if Region.wanted o (yielded ops a.tmps) then o.wp P a w K Q ∨ (o.asks P a w ∧ LetsOut Q) else K (a.put o.dst undef) w

/-- the edges that bind an operation to those ahead of it -/
def edgesOf (o : Oper) : List Nat := (o.after.toList.filter fun e => Region.binds .any e).map (·.on)
theorem edges_iff {o : Oper} {k : Nat} : k ∈ edgesOf o ↔ ∃ e ∈ o.after, Region.binds .any e = true ∧ e.on = k := by
  simp [edgesOf, and_assoc]

def below (q k : Nat) : Bool := Nat.blt k q
structure DOk (P : Program) (ops : Array Oper) (s0 : St) (n : Nat) (ds : List DE) : Prop where
  size : ds.length = n
  step : ∀ j d, j < n → ds[j]? = some d → ∃ o, ops[j]? = some o ∧ d.dst = o.dst ∧ (∀ k ∈ edgesOf o, k < j) ∧
    (∀ k, d.pm.testBit k = true → k < j ∧ (k ∈ edgesOf o ∨ ∃ e de, e ∈ edgesOf o ∧ ds[e]? = some de ∧ de.pm.testBit k = true)) ∧
    (∀ k dk, k < j → ds[k]? = some dk → d.pm.testBit k = true ∨ compat dk d = true) ∧
    (∀ s', alike d (foldX ds 0 (below j) s0) s' → StepD P ops o d s')

theorem DOk.pm {P : Program} {ops : Array Oper} {s0 : St} {n : Nat} {ds : List DE} (h : DOk P ops s0 n ds) {X : Nat → Bool} (hX : ∀ j d o, ds[j]? = some d → ops[j]? = some o → X j = true → ∀ k ∈ edgesOf o, X k = true) :
    ∀ (m j : Nat) (d : DE) (o : Oper), j < m → ds[j]? = some d → ops[j]? = some o → (∀ k ∈ edgesOf o, X k = true) → ∀ k, d.pm.testBit k = true → X k = true := by
  intro m
  induction m with
  | zero => intro j d o h0; omega
  | succ m ih =>
    intro j d o hj hd ho hk k hb
    have hjn : j < n := by rw [← h.size]; exact (List.getElem?_eq_some_iff.1 hd).1
    obtain ⟨o', ho', hdst, he, hpm, _⟩ := h.step j d hjn hd
    rw [ho] at ho'; cases ho'
    obtain ⟨_, hb'⟩ := hpm k hb
    rcases hb' with hb' | ⟨e, de, hme, hde, hbit⟩
    · exact hk k hb'
    · have hej := he e hme
      have hen : e < n := by omega
      obtain ⟨oe, hoe, _⟩ := h.step e de hen hde
      exact ih e de oe (by omega) hde hoe (hX e de oe hde hoe (hk e hme)) k hbit

/-- how many are not yet there -/
def left (X : Nat → Bool) : Nat → Nat
  | 0 => 0
  | n + 1 => left X n + (match X n with | true => 0 | false => 1)
theorem left_ins (X : Nat → Bool) (q : Nat) (hq : X q = false) : ∀ n, left (ins X q) n + (if q < n then 1 else 0) = left X n
  | 0 => by simp [left]
  | n + 1 => by
    have ih := left_ins X q hq n
    have h1 : ins X q n = if n = q then true else X n := rfl
    simp only [left]
    rw [h1]
    by_cases h : n = q
    · subst h
      rw [if_neg (Nat.lt_irrefl _)] at ih
      rw [if_pos (Nat.lt_succ_self _), if_pos rfl, hq]
      simp only
      omega
    · rw [if_neg h]
      by_cases h1 : q < n
      · rw [if_pos h1] at ih; rw [if_pos (by omega)]; omega
      · rw [if_neg h1] at ih; rw [if_neg (by omega)]; omega
theorem left_zero (X : Nat → Bool) : ∀ n, left X n = 0 → ∀ k, k < n → X k = true
  | 0, _, k, hk => by omega
  | n + 1, h, k, hk => by
    simp only [left] at h
    rcases Nat.lt_or_ge k n with h1 | h1
    · exact left_zero X n (by omega) k h1
    · have : k = n := by omega
      subst this
      cases hx : X k
      · rw [hx] at h; simp at h
      · rfl

theorem Conc.eqv {H : HH} {E : Env} {w : World} {M M' : List Blk} (h : Conc H E w M) (hm : ∀ i, getM M i = getM M' i) : Conc H E w M' :=
  ⟨h.imm, h.tf, fun i => by rw [← hm]; exact h.blk i, h.inj, h.sep⟩

theorem wpAny_draw {P : Program} {ops : Array Oper} {s0 : St} {ds : List DE} (h : DOk P ops s0 ops.size ds) (hreg : RegP s0 ds) {MV : List Nat} (hMV : ∀ d ∈ ds, ∀ i ∈ d.kl, i ∈ MV) {Q : Exit → Act → World → Prop} :
    ∀ (fuel : Nat) (listed : Array Bool) (H : HH) (E : Env) (w : World) (a : Act), listed.size = ops.size →
      left (fun k => listed.getD k false) ops.size ≤ fuel →
      (∀ j d o, ds[j]? = some d → ops[j]? = some o → listed.getD j false = true → ∀ k ∈ edgesOf o, listed.getD k false = true) →
      Conc H E w (foldX ds 0 (fun k => listed.getD k false) s0).m → RelL (foldX ds 0 (fun k => listed.getD k false) s0).t H E a.tmps.toList → a.defers = [] →
      (∀ a' w' H' E', a'.defers = [] → RelL (foldX ds 0 (fun _ => true) s0).t H' E' a'.tmps.toList → Conc H' E' w' (foldX ds 0 (fun _ => true) s0).m → Evol MV H E w H' E' w' → Q .normal a' w') →
      wpAny P .any ops Q fuel listed a w := by
  intro fuel
  have hdone : ∀ (listed : Array Bool), listed.size = ops.size → Region.ready .any ops listed = [] → ∀ k, k < ops.size → listed.getD k false = true := by
    intro listed hsz hr k
    induction k using Nat.strongRecOn with
    | ind k ih =>
      intro hk
      cases hl : listed.getD k false with
      | true => rfl
      | false =>
        exfalso
        have hdk : k < ds.length := by rw [h.size]; exact hk
        obtain ⟨o, ho, _, he, _⟩ := h.step k ds[k] hk (List.getElem?_eq_getElem hdk)
        have : k ∈ Region.ready .any ops listed := mem_ready.2 ⟨by
          have : k < listed.size := by omega
          simp [this] at hl ⊢; exact hl, o, ho, fun e hee hb => by
          have hk' := he e.on (edges_iff.2 ⟨e, hee, hb, rfl⟩)
          exact ih e.on hk' (by omega)⟩
        rw [hr] at this; cases this
  have hfin : ∀ (listed : Array Bool) H E w a, (∀ k, k < ops.size → listed.getD k false = true) → Conc H E w (foldX ds 0 (fun k => listed.getD k false) s0).m → RelL (foldX ds 0 (fun k => listed.getD k false) s0).t H E a.tmps.toList → a.defers = [] →
      (∀ a' w' H' E', a'.defers = [] → RelL (foldX ds 0 (fun _ => true) s0).t H' E' a'.tmps.toList → Conc H' E' w' (foldX ds 0 (fun _ => true) s0).m → Evol MV H E w H' E' w' → Q .normal a' w') → Q .normal a w := by
    intro listed H E w a hall hC hT hd hq
    rw [foldX_congr ds 0 (Y := fun _ => true) s0 fun k _ hk => hall k (by rw [← h.size]; omega)] at hC hT
    exact hq a w H E hd hT hC (Evol.refl _ _ _ _)
  induction fuel with
  | zero =>
    intro listed H E w a hsz hf hX hC hT hd hq
    have hall := left_zero _ _ (Nat.le_zero.1 hf)
    refine ⟨?_, hfin listed H E w a hall hC hT hd hq⟩
    cases hr : Region.ready .any ops listed with
    | nil => rfl
    | cons i r =>
      exfalso
      have hi : i ∈ Region.ready .any ops listed := by rw [hr]; simp
      obtain ⟨hun, o, ho, _⟩ := mem_ready.1 hi
      have hlt := (Array.getElem?_eq_some_iff.1 ho).1
      have := hall i hlt
      have hil : i < listed.size := by omega
      simp [hil] at hun this
      rw [hun] at this; cases this
  | succ fuel ih =>
    intro listed H E w a hsz hf hX hC hT hd hq
    refine ⟨fun hr => hfin listed H E w a (hdone listed hsz hr) hC hT hd hq, fun i hi => ?_⟩
    obtain ⟨hun, o, ho, hall⟩ := mem_ready.1 hi
    have hlt := (Array.getElem?_eq_some_iff.1 ho).1
    have hil : i < listed.size := by omega
    have hXi : listed.getD i false = false := by simp [hil] at hun ⊢; exact hun
    have hdl : i < ds.length := by rw [h.size]; exact hlt
    have hdi : ds[i]? = some ds[i] := List.getElem?_eq_getElem hdl
    generalize ds[i] = d at hdi
    obtain ⟨o', ho', hdst, hed, hpm, hcm, hstep⟩ := h.step i d hlt hdi
    rw [ho] at ho'; cases ho'
    have hpred : ∀ k ∈ edgesOf o, listed.getD k false = true := fun k hk => by
      obtain ⟨e, he, hb, rfl⟩ := edges_iff.1 hk
      exact hall e he hb
    have hpmX := h.pm (X := fun k => listed.getD k false) hX (i + 1) i d o (by omega) hdi ho hpred
    have hlt' : ∀ {k dk}, ds[k]? = some dk → k < ops.size := fun {k dk} hk => by rw [← h.size]; exact (List.getElem?_eq_some_iff.1 hk).1
    -- later ones that went by are not bound to i
    have hlater : ∀ k dk, ds[k]? = some dk → i < k → listed.getD k false = true → compat d dk = true ∧ pairB s0 ds d dk = true := by
      intro k dk hk hik hXk
      obtain ⟨ok, hok, _, _, _, hcm', _⟩ := h.step k dk (hlt' hk) hk
      have hno : ¬ dk.pm.testBit i = true := by
        intro hb
        have := h.pm (X := fun k => listed.getD k false) hX (k + 1) k dk ok (by omega) hk hok (hX k dk ok hk hok hXk) i hb
        rw [show listed.getD i false = true from this] at hXi; cases hXi
      exact ⟨(hcm' i d hik hdi).resolve_left hno, (hreg i k d dk hik hdi hk).resolve_left hno⟩
    have hearlier : ∀ k dk, ds[k]? = some dk → k < i → listed.getD k false = false → compat dk d = true ∧ pairB s0 ds dk d = true := by
      intro k dk hk hki hXk
      have hno : ¬ d.pm.testBit k = true := by
        intro hb
        have := hpmX k hb
        rw [show listed.getD k false = true from this] at hXk; cases hXk
      exact ⟨(hcm k dk hki hk).resolve_left hno, (hreg k i dk d hki hk hdi).resolve_left hno⟩
    have hmem : ∀ {k dk}, ds[k]? = some dk → dk ∈ ds := fun hk => List.mem_of_getElem? hk
    have hag : alike d (foldX ds 0 (below i) s0) (foldX ds 0 (fun k => listed.getD k false) s0) := by
      refine foldX_alike (Rch s0 ds) ds 0 _ _ d s0 s0 rch_app (rch_zero _ _) (rch_zero _ _) (alike.refl _ _) (fun _ _ _ _ _ => alike.refl _ _) ?_ ?_
      · intro k dk hk hz hy
        simp only [Nat.zero_add, below, Nat.blt_eq] at hz hy
        obtain ⟨hc, hp⟩ := hearlier k dk hk hz hy
        refine ⟨(pair_aw (hmem hk) (hmem hdi) hp).1, (compat_sees hc).1, fun j dj hkj hj hYj _ => ?_⟩
        simp only [Nat.zero_add] at hYj
        obtain ⟨oj, hoj, _, _, _, hcm', _⟩ := h.step j dj (hlt' hj) hj
        have hno : ¬ dj.pm.testBit k = true := by
          intro hb
          have := h.pm (X := fun k => listed.getD k false) hX (j + 1) j dj oj (by omega) hj hoj (hX j dj oj hj hoj hYj) k hb
          rw [show listed.getD k false = true from this] at hy; cases hy
        exact ⟨(pair_aw (hmem hk) (hmem hj) ((hreg k j dk dj hkj hk hj).resolve_left hno)).1, (compat_sees ((hcm' k dk hkj hk).resolve_left hno)).1⟩
      · intro k dk hk hz hy
        simp only [Nat.zero_add, below] at hz hy
        have hz' : ¬ k < i := by rw [← Nat.blt_eq, hz]; simp
        have hne : k ≠ i := fun e => by subst e; rw [hXi] at hy; cases hy
        obtain ⟨hc, hp⟩ := hlater k dk hk (by omega) hy
        refine ⟨(pair_aw (hmem hdi) (hmem hk) hp).2, (compat_sees hc).2, fun j dj hkj hj _ hZj => ?_⟩
        simp only [Nat.zero_add, below, Nat.blt_eq] at hZj
        omega
    have hins : (foldX ds 0 (fun k => (listed.setIfInBounds i true).getD k false) s0).eqv (d.app (foldX ds 0 (fun k => listed.getD k false) s0)) := by
      have e : (fun k => (listed.setIfInBounds i true).getD k false) = ins (fun k => listed.getD k false) i := by
        funext k
        simp only [ins]
        by_cases hk : k = i
        · subst hk; simp [hil]
        · rw [if_neg hk]; exact getD_set_ne false (Ne.symm hk)
      rw [e]
      exact foldX_ins ds 0 _ i d s0 (Nat.zero_le _) (by simpa using hdi) hXi fun k dk hk hik hXk => by
        simp only [Nat.zero_add] at hik hXk
        exact compat_comm (hlater k dk hk hik hXk).1
    have hst := hstep _ hag
    unfold wpOp
    simp only [ho]
    refine hst H E w a _ Q hC hT hd fun v w' H' E' hr hC' hE' => ?_
    have hT' : RelL (d.app (foldX ds 0 (fun k => listed.getD k false) s0)).t H' E' (a.put o.dst v).tmps.toList := by
      show RelL (putT (killL d.kl _) d.dst d.r) H' E' _
      rw [hdst]
      exact relL_put (hE'.relL hT) hr
    refine ih (listed.setIfInBounds i true) H' E' w' _ (by simp [hsz]) ?_ ?_ ?_ ?_ (by rw [put_defers]; exact hd) ?_
    · have hl := left_ins (fun k => listed.getD k false) i hXi ops.size
      rw [if_pos hlt] at hl
      have e : (fun k => (listed.setIfInBounds i true).getD k false) = ins (fun k => listed.getD k false) i := by
        funext k
        simp only [ins]
        by_cases hk : k = i
        · subst hk; simp [hil]
        · rw [if_neg hk]; exact getD_set_ne false (Ne.symm hk)
      rw [e]; omega
    · intro j dj oj hj hoj hXj k hk
      by_cases hji : j = i
      · subst hji
        rw [ho] at hoj; cases hoj
        exact getD_set_true (hpred k hk)
      · rw [getD_set_ne false (Ne.symm hji)] at hXj
        exact getD_set_true (hX j dj oj hj hoj hXj k hk)
    · exact hC'.eqv fun k => (hins.2 k).symm
    · rw [hins.1]; exact hT'
    · intro a2 w2 H2 E2 h1 h2 h3 h4
      exact hq a2 w2 H2 E2 h1 h2 h3 (hE'.trans h4 (hMV d (List.mem_of_getElem? hdi)))

theorem drew_conc {H : HH} {E : Env} {w : World} {M : List Blk} (h : Conc H E w M) (n : Nat) : Conc H E { w with drawn := n } M := by
  refine ⟨h.imm, h.tf, fun i => ?_, h.inj, h.sep⟩
  have := (h.blk i).move (f := some) (E' := E) (H' := H) (w' := { w with drawn := n }) (i' := i) (HH.le_refl _) (fun a c hc hl => by cases hc; exact ⟨hl, rfl, rfl, rfl⟩) rfl rfl rfl rfl fun _ _ _ => rfl
  rwa [renB_some] at this

theorem foldX_mem : ∀ (l : List DE) (p : Nat) (s : St), (∀ i ∈ s.mv, i ∈ (foldX l p (fun _ => true) s).mv) ∧ ∀ d ∈ l, ∀ i ∈ d.kl, i ∈ (foldX l p (fun _ => true) s).mv
  | [], _, s => ⟨fun _ h => h, fun d hd => by cases hd⟩
  | e :: r, p, s => by
    obtain ⟨h1, h2⟩ := foldX_mem r (p + 1) (e.app s)
    refine ⟨fun i hi => h1 i (mem_app i hi), fun d hd i hi => ?_⟩
    rcases List.mem_cons.1 hd with rfl | hd
    · exact h1 i (by simp [DE.app, St.app, DE.stp, hi])
    · exact h2 d hd i hi

theorem ACode.drawn {P : Program} {ops : Array Oper} {id : Nat} {s0 : St} {ds : List DE} (hm : P.follows .mixedOrders = true) (h : DOk P ops s0 ops.size ds) (hreg : RegP s0 ds) :
    ACode P (.region id ops true) s0 .normal (foldX ds 0 (fun _ => true) s0) := by
  obtain ⟨h1, h2⟩ := foldX_mem ds 0 s0
  refine ⟨h1, fun H E w a hC hT hd => wp_region_any hm ?_⟩
  have e : (fun k => (Array.replicate ops.size false).getD k false) = fun _ => false := by
    funext k
    simp only [Array.getD_eq_getD_getElem?, Array.getElem?_replicate]
    split <;> rfl
  have hn : foldX ds 0 (fun k => (Array.replicate ops.size false).getD k false) s0 = s0 := by
    rw [e]; exact foldX_none ds 0 s0 fun _ _ => rfl
  refine wpAny_draw h hreg h2 ops.size _ H E { w with drawn := w.drawn + 1 } a (by simp) ?_ ?_ (by rw [hn]; exact drew_conc hC _) (by rw [hn]; exact hT) hd ?_
  · have : ∀ (X : Nat → Bool) n, left X n ≤ n := by
      intro X n
      induction n with
      | zero => simp [left]
      | succ n ih => simp only [left]; cases X n <;> simp <;> omega
    exact this _ _
  · intro j d o _ _ hj
    rw [show (Array.replicate ops.size false).getD j false = false from congrFun e j] at hj; cases hj
  · intro a' w' H' E' hd' hT' hC' hE'
    refine ⟨H', E', rfl, hd', hT', hC', ?_⟩
    exact ⟨hE'.os, hE'.tape, hE'.output, hE'.size, hE'.keep, hE'.own, hE'.hh, hE'.new, hE'.ids⟩
end Go.Ax
