import Derived.Test.YtghhkabankbkoaaAxP
set_option linter.unusedVariables false
set_option linter.unusedSimpArgs false
/-! The reckoning of regions. -/
namespace Go.Ax
open Go

def refOf : AV → List Nat
  | .ptr i _ _ _ => [i]
  | .own i _ _ _ => [i]
  | _ => []
/-- the own blocks that an operation looks into -/
def opRd (t : Nat → AV) (op : Op) : List Nat :=
  match op with
  | .load _ a => refOf (ev t a)
  | .store _ a _ => refOf (ev t a)
  | .call { callee := .builtin .append, args, .. } => args.toList.flatMap fun x => refOf (ev t x)
  | _ => []

theorem rdPtr_congr {h : Option Hint} {rd rd' : Nat → Blk} {a : AV} {n : Nat} (hr : ∀ i ∈ refOf a, rd i = rd' i) : rdPtr h rd a n = rdPtr h rd' a n := by
  cases a <;> first | rfl | skip
  rename_i i k sz o
  simp only [rdPtr, hr i (by simp [refOf])]
theorem aLoad_congr {P : Program} {h : Option Hint} {rd rd' : Nat → Blk} {t : TypeId} {a : AV} (hr : ∀ i ∈ refOf a, rd i = rd' i) : aLoad P h rd t a = aLoad P h rd' t a := by
  unfold aLoad
  have e : ∀ n, rdPtr h rd a n = rdPtr h rd' a n := fun n => rdPtr_congr hr
  rw [e 1]
  split
  · split
    · rw [e]
    · rfl
  · rfl
theorem aStore_congr {P : Program} {h : Option Hint} {rd rd' : Nat → Blk} {t : TypeId} {a x : AV} (hr : ∀ i ∈ refOf a, rd i = rd' i) : aStore P h rd t a x = aStore P h rd' t a x := by
  cases a with
  | ptr i k sz o =>
    have e := hr i (by simp [refOf])
    cases hc : cellsOf x <;> cases hn : sizeT P t <;> simp [aStore, hc, hn, e]
  | _ => rfl
theorem srcOf_congr {rd rd' : Nat → Blk} {sz : Nat} {x : AV} (hr : ∀ i ∈ refOf x, rd i = rd' i) : srcOf rd sz x = srcOf rd' sz x := by
  cases x with
  | own i sz' lo n =>
    have e := hr i (by simp [refOf])
    simp [srcOf, e]
  | s v =>
    cases v with
    | slice a m c => cases a <;> cases m <;> cases c <;> rfl
    | _ => rfl
  | _ => rfl
theorem aAppend_congr {P : Program} {h : Option Hint} {rd rd' : Nat → Blk} {nid : Nat} {t : TypeId} {s x : AV} (hs : ∀ i ∈ refOf s, rd i = rd' i) (hx : ∀ i ∈ refOf x, rd i = rd' i) : aAppend P h rd nid t s x = aAppend P h rd' nid t s x := by
  unfold aAppend
  have e : ∀ sz, srcOf rd sz x = srcOf rd' sz x := fun sz => srcOf_congr hx
  cases s with
  | own i sz' lo n =>
    have e2 := hs i (by simp [refOf])
    cases hu : P.underlying t with
    | none => rfl
    | some d => cases d <;> cases lo <;> simp [e, e2]
  | s v =>
    cases v with
    | slice a m c => cases a <;> cases m <;> cases c <;> simp [e]
    | _ => simp [e]
  | _ => simp [e]
theorem aop_rd {P : Program} {h : Option Hint} {rd rd' : Nat → Blk} {nid : Nat} {t : Nat → AV} {op : Op} (hr : ∀ i ∈ opRd t op, rd i = rd' i) : aop P h rd nid t op = aop P h rd' nid t op := by
  cases op with
  | load ty a =>
    simp only [opRd] at hr
    simp only [aop, aLoad_congr hr]
  | store ty a x =>
    simp only [opRd] at hr
    simp only [aop, aStore_congr hr]
  | call c =>
    obtain ⟨callee, args, argTypes⟩ := c
    cases callee with
    | value f => rfl
    | invoke r m => rfl
    | builtin b =>
      cases b with
      | append =>
        simp only [opRd] at hr
        simp only [aop]
        split
        · rename_i t1 t2 s x h1 h2
          rw [h2] at hr
          rw [aAppend_congr (fun i hi => hr i (by simp [hi])) (fun i hi => hr i (by simp [hi]))]
        · rfl
      | _ => rfl
  | unOp u _ _ => cases u <;> rfl
  | _ => rfl

theorem aMove_nid {h : Option Hint} {nid nid' : Nat} {r : AV} {e : Eff} (h1 : aMove h nid r = some e) (hn : nid ∉ ids e.wr) : aMove h nid' r = some e := by
  have key : (∃ ty sz, h = some (.row ty sz) ∧ r = .s (.slice none 0 0)) ∨ (∀ n, aMove h n r = pur r) := by
    unfold aMove
    split
    · exact .inl ⟨_, _, rfl, rfl⟩
    · exact .inr fun _ => rfl
  rcases key with ⟨ty, sz, rfl, rfl⟩ | k
  · simp only [aMove] at h1
    cases h1; simp [ids] at hn
  · rw [k] at h1 ⊢; exact h1
theorem aBuildSlice_nid {P : Program} {nid nid' : Nat} {t : TypeId} {n : Nat} {pa : List (Nat × AV)} {e : Eff} (h1 : aBuildSlice P nid t n pa = some e) (hn : nid ∉ ids e.wr) : aBuildSlice P nid' t n pa = some e := by
  unfold aBuildSlice at h1
  repeat' split at h1
  all_goals first | cases h1; simp [ids] at hn | cases h1
theorem aAppend_nid {P : Program} {h : Option Hint} {rd : Nat → Blk} {nid nid' : Nat} {t : TypeId} {s x : AV} {e : Eff} (h1 : aAppend P h rd nid t s x = some e) (hn : nid ∉ ids e.wr) : aAppend P h rd nid' t s x = some e := by
  have key : (∃ i sz lo n, s = .own i sz lo n) ∨ (∀ i sz lo n, s ≠ .own i sz lo n) := by
    cases s with
    | own i sz lo n => exact .inl ⟨i, sz, lo, n, rfl⟩
    | _ => exact .inr fun _ _ _ _ h => by cases h
  rcases key with ⟨i, sz, lo, n, rfl⟩ | hs
  · cases lo <;> exact h1
  · exfalso
    unfold aAppend at h1
    repeat' split at h1
    all_goals first | (cases h1; done) | (cases h1; simp [ids] at hn; done) | exact absurd rfl (hs _ _ _ _)
theorem aop_nid {P : Program} {h : Option Hint} {rd : Nat → Blk} {nid nid' : Nat} {t : Nat → AV} {op : Op} {e : Eff} (h1 : aop P h rd nid t op = some e) (hn : nid ∉ ids e.wr) : aop P h rd nid' t op = some e := by
  cases op with
  | move x => exact aMove_nid h1 hn
  | assign x => exact aMove_nid h1 hn
  | alloc ty =>
    simp only [aop] at h1
    split at h1
    · cases h1; simp [ids] at hn
    · cases h1
  | box ty x =>
    simp only [aop] at h1
    split at h1
    · cases h1; simp [ids] at hn
    · cases h1
  | buildSlice ty n pa => exact aBuildSlice_nid h1 hn
  | call c =>
    obtain ⟨callee, args, argTypes⟩ := c
    cases callee with
    | value f => exact h1
    | invoke r m => exact h1
    | builtin b =>
      cases b with
      | append =>
        simp only [aop] at h1 ⊢
        split at h1
        · split at h1
          · rename_i hq
            rw [if_pos hq]
            exact aAppend_nid h1 hn
          · cases h1
        · cases h1
      | _ => exact h1
  | unOp u _ _ => cases u <;> exact h1
  | _ => exact h1

/-- what an operation does, without its place -/
structure CE where
  r : AV
  rd : List Nat
  wr : List (Nat × Blk)
  kl : List Nat
  ob : List Prop
def CE.stp (e : CE) (m : List Blk) : Stp := ⟨e.r, applyW e.wr (killM e.kl m), e.kl, e.ob⟩
def StepT (P : Program) (o : Oper) (t : Nat → AV) (M : List Blk) (e : CE) : Prop :=
  ∀ H E w a (K : Act → World → Prop) (Q : Exit → Act → World → Prop), Conc H E w M → RelT t H E a → a.defers = [] →
    (∀ v w' H' E', Rel e.r H' E' v → Conc H' E' w' (applyW e.wr (killM e.kl M)) → Evol e.kl H E w H' E' w' → K (a.put o.dst v) w') → o.wp P a w K Q
def killW (kl : List Nat) : List (Nat × Blk) → List (Nat × Blk)
  | [] => []
  | p :: r => (p.1, match kl with | [] => p.2 | _ => renB (keepOf kl) p.2) :: killW kl r
theorem ids_killW (kl : List Nat) : ∀ l, ids (killW kl l) = ids l
  | [] => rfl
  | p :: r => by simp [killW, ids, ids_killW kl r]
theorem lastW_killW (kl : List Nat) (j : Nat) : ∀ l, lastW (killW kl l) j = (lastW l j).map (renB (keepOf kl))
  | [] => rfl
  | (i, B) :: r => by
    have hb : (match kl with | [] => B | _ => renB (keepOf kl) B) = renB (keepOf kl) B := by
      cases kl with
      | nil => rw [keepOf_nil, renB_some]
      | cons _ _ => rfl
    simp only [killW, lastW, lastW_killW kl j r, hb]
    cases lastW r j with
    | some b => rfl
    | none => simp only [Option.map_none]; split <;> rfl
theorem killW_eqv (kl : List Nat) (wr : List (Nat × Blk)) (M : List Blk) (j : Nat) : getM (killM kl (applyW wr M)) j = getM (applyW (killW kl wr) (killM kl M)) j := by
  rw [getM_kill, getM_applyW, getM_applyW, lastW_killW, getM_kill]
  cases lastW wr j <;> rfl
/-- how calls are reckoned: next free id, place, operation, slots, own blocks -/
def CF := Nat → Nat → Oper → (Nat → AV) → (Nat → Blk) → Option CE
def CfOk (P : Program) (cf : CF) : Prop :=
  ∀ nid p o t rd e, cf nid p o t rd = some e → Hold e.ob → (∀ k, nid ≤ k → rd k = .dead) → ∀ M, (∀ i ∈ e.rd, getM M i = rd i) → StepT P o t M e

/-- one operation -/
def eop (P : Program) (hh : Nat → Option Hint) (cf : CF) (nid p : Nat) (o : Oper) (t : Nat → AV) (rd : Nat → Blk) : Option CE :=
  match o.op with
  | .call { callee := .value _, .. } => cf nid p o t rd
  | .call { callee := .invoke .., .. } => cf nid p o t rd
  | op => (match aop P (hh p) rd nid t op with
    | some e => some ⟨e.r, opRd t op ++ ids e.wr, killW e.kl e.wr, e.kl, e.ob.map (· = true)⟩
    | none => cf nid p o t rd)
theorem aop_step {P : Program} {hh : Option Hint} {nid : Nat} {o : Oper} {t : Nat → AV} {rd : Nat → Blk} {e : Eff} (h : aop P hh rd nid t o.op = some e) (ho : Hold (e.ob.map (· = true))) (hd : ∀ k, nid ≤ k → rd k = .dead) {M : List Blk}
    (hM : ∀ i ∈ opRd t o.op ++ ids e.wr, getM M i = rd i) : StepT P o t M ⟨e.r, opRd t o.op ++ ids e.wr, killW e.kl e.wr, e.kl, e.ob.map (· = true)⟩ := by
  intro H E w a K Q hC hT hdf hk
  obtain ⟨nid', hd', h'⟩ : ∃ nid', getM M nid' = .dead ∧ aop P hh (getM M) nid' t o.op = some e := by
    rw [aop_rd (rd' := getM M) fun i hi => (hM i (by simp [hi])).symm] at h
    by_cases hn : nid ∈ ids e.wr
    · exact ⟨nid, (hM nid (by simp [hn])).trans (hd nid (Nat.le_refl _)), h⟩
    · exact ⟨len M, getM_len _ _ (Nat.le_refl _), aop_nid h hn⟩
  obtain ⟨n, v, w', E', hrun, hn, hr, hc, hev⟩ := aop_good (a := a) hC hd' hT h' fun b hb => ho (b = true) (by simp; exact hb)
  have hc := hc.eqv (killW_eqv e.kl e.wr M)
  unfold Oper.wp
  rw [hrun]
  rcases hn with rfl | ⟨rfl, rfl⟩
  · exact hk v w' H E' hr hc hev
  · exact hk undef w' H E' hr hc hev
theorem eop_ok {P : Program} {hh : Nat → Option Hint} {cf : CF} (hcf : CfOk P cf) {nid p : Nat} {o : Oper} {t : Nat → AV} {rd : Nat → Blk} {e : CE} (h : eop P hh cf nid p o t rd = some e) (ho : Hold e.ob) (hd : ∀ k, nid ≤ k → rd k = .dead)
    {M : List Blk} (hM : ∀ i ∈ e.rd, getM M i = rd i) : StepT P o t M e := by
  unfold eop at h
  split at h
  · exact hcf _ _ _ _ _ _ h ho hd M hM
  · exact hcf _ _ _ _ _ _ h ho hd M hM
  · split at h
    · rename_i ef hef
      cases h
      exact aop_step hef ho hd hM
    · exact hcf _ _ _ _ _ _ h ho hd M hM

/-- the operations of a region, in the order of the text -/
def ops1 (P : Program) (hh : Nat → Option Hint) (cf : CF) (all : Array Oper) : List Oper → Nat → St → Option (St × List Prop)
  | [], _, st => some (st, [])
  | o :: r, p, st =>
    match guardA all (get st.t) o with
    | some true =>
      (match eop P hh cf (len st.m) p o (get st.t) (getM st.m) with
       | some e => (match ops1 P hh cf all r (p + 1) (st.app o.dst (e.stp st.m)) with
          | some (st', ob) => some (st', e.ob ++ ob)
          | none => none)
       | none => none)
    | some false => ops1 P hh cf all r (p + 1) ⟨putT st.t o.dst .junk, st.m, st.mv⟩
    | none => none

theorem ops1_ok {P : Program} {hh : Nat → Option Hint} {cf : CF} {all : Array Oper} (hcf : CfOk P cf) :
    ∀ {l : List Oper} {p : Nat} {st st' : St} {ob : List Prop}, (∀ j, l[j]? = all[p + j]?) → ops1 P hh cf all l p st = some (st', ob) → Hold ob →
      (∀ i ∈ st.mv, i ∈ st'.mv) ∧ ∀ H E w a (Q : Exit → Act → World → Prop), Conc H E w st.m → RelL st.t H E a.tmps.toList → a.defers = [] →
        (∀ a' w' H' E', a'.defers = [] → RelL st'.t H' E' a'.tmps.toList → Conc H' E' w' st'.m → Evol st'.mv H E w H' E' w' → Q .normal a' w') → wpOps P all Q (List.range' p l.length) a w
  | [], p, st, st', ob, _, h, _ => by
    simp only [ops1] at h
    cases h
    exact ⟨fun _ h => h, fun H E w a Q hC hT hd hq => hq a w H E hd hT hC (Evol.refl _ _ _ _)⟩
  | o :: r, p, st, st', ob, hl, h, ho => by
    have hp : all[p]? = some o := by have := hl 0; simpa using this.symm
    have hr : ∀ j, r[j]? = all[p + 1 + j]? := fun j => by have := hl (j + 1); simp at this; rw [this]; congr 1; omega
    simp only [ops1] at h
    split at h
    · rename_i hg
      split at h
      case h_2 => cases h
      rename_i e he
      split at h
      case h_2 => cases h
      rename_i st2 ob2 h2
      cases h
      obtain ⟨ho1, ho2⟩ := ho.append
      have hstep := eop_ok hcf he ho1 (fun k hk => getM_len _ _ hk) (M := st.m) fun _ _ => rfl
      obtain ⟨hmv, hrest⟩ := ops1_ok hcf hr h2 ho2
      refine ⟨fun i hi => hmv i (mem_app i hi), fun H E w a Q hC hT hd hq => ?_⟩
      simp only [List.length_cons, List.range'_succ, wpOps, hp]
      rw [guardA_ok (relT_of hT) hg]
      simp only [if_true]
      refine .inl (hstep H E w a _ Q hC (relT_of hT) hd fun v w' H' E' hr' hC' hE' => ?_)
      refine hrest H' E' w' _ Q hC' (relL_put (hE'.relL hT) hr') (by rw [put_defers]; exact hd) fun a2 w2 H2 E2 hd2 hT2 hC2 hE2 => ?_
      exact hq a2 w2 H2 E2 hd2 hT2 hC2 (hE'.trans hE2 fun i hi => hmv i (by simp [St.app, CE.stp, hi]))
    · rename_i hg
      obtain ⟨hmv, hrest⟩ := ops1_ok hcf hr h ho
      refine ⟨hmv, fun H E w a Q hC hT hd hq => ?_⟩
      simp only [List.length_cons, List.range'_succ, wpOps, hp]
      rw [guardA_ok (relT_of hT) hg]
      simp only [Bool.false_eq_true, if_false]
      exact hrest H E w _ Q hC (relL_put hT trivial) (by rw [put_defers]; exact hd) hq
    · cases h
theorem ACode.straight {P : Program} {hh : Nat → Option Hint} {cf : CF} {id : Nat} {ops : Array Oper} {st st' : St} {ob : List Prop} (hcf : CfOk P cf)
    (h : ops1 P hh cf ops ops.toList 0 st = some (st', ob)) (ho : Hold ob) : ACode P (.region id ops false) st .normal st' := by
  obtain ⟨hmv, hrun⟩ := ops1_ok hcf (fun j => by simp) h ho
  refine ⟨hmv, fun H E w a hC hT hd => wp_region ?_⟩
  rw [List.range_eq_range']
  have := hrun H E w a (fun x' a' w' => ∃ H' E', x' = Exit.normal ∧ a'.defers = [] ∧ RelL st'.t H' E' a'.tmps.toList ∧ Conc H' E' w' st'.m ∧ Evol st'.mv H E w H' E' w') hC hT hd fun a' w' H' E' h1 h2 h3 h4 => ⟨H', E', rfl, h1, h2, h3, h4⟩
  simpa using this
end Go.Ax
