import Derived.Test.YtghhkabankbkoaaAxQ
set_option linter.unusedVariables false
set_option linter.unusedSimpArgs false
/-! Drawn regions and calls, reckoned; a function's code. -/
namespace Go.Ax
open Go

def restr (l : List Nat) (t : Nat → AV) (i : Nat) : AV := match mem l i with | true => t i | false => .junk
theorem relT_restr {l : List Nat} {t : Nat → AV} {H : HH} {E : Env} {a : Act} (h : RelT t H E a) : RelT (restr l t) H E a := fun i => by
  unfold restr
  split
  · exact h i
  · trivial
def pmAt : List DE → Nat → Nat
  | [], _ => 0
  | d :: _, 0 => d.pm
  | _ :: l, n + 1 => pmAt l n
theorem pmAt_eq : ∀ (l : List DE) (n : Nat), pmAt l n = match l[n]? with | some d => d.pm | none => 0
  | [], n => by simp [pmAt]
  | d :: _, 0 => rfl
  | _ :: l, n + 1 => by simp only [pmAt, List.getElem?_cons_succ]; exact pmAt_eq l n
def pmOf (ds : List DE) : List Nat → Nat
  | [] => 0
  | e :: r => (2 ^ e ||| pmAt ds e) ||| pmOf ds r
theorem pmOf_bit {ds : List DE} : ∀ {es : List Nat} {k : Nat}, (pmOf ds es).testBit k = true → ∃ e ∈ es, e = k ∨ (pmAt ds e).testBit k = true
  | [], k, h => by simp [pmOf] at h
  | e :: r, k, h => by
    simp only [pmOf, Nat.testBit_or, Bool.or_eq_true] at h
    rcases h with (h | h) | h
    · rw [Nat.testBit_two_pow] at h
      exact ⟨e, by simp, .inl (by simpa using h)⟩
    · exact ⟨e, by simp, .inr h⟩
    · obtain ⟨x, hx, h⟩ := pmOf_bit h
      exact ⟨x, by simp [hx], h⟩
def allLt : List Nat → Nat → Bool
  | [], _ => true
  | e :: r, p => Nat.blt e p && allLt r p
theorem allLt_ok : ∀ {l : List Nat} {p : Nat}, allLt l p = true → ∀ k ∈ l, k < p
  | [], _, _, k, hk => by cases hk
  | e :: r, p, h, k, hk => by
    simp only [allLt, Bool.and_eq_true, Nat.blt_eq] at h
    rcases List.mem_cons.1 hk with rfl | hk
    · exact h.1
    · exact allLt_ok h.2 k hk
def dstep (P : Program) (hh : Nat → Option Hint) (cf : CF) (all : Array Oper) (p : Nat) (ds : List DE) (o : Oper) (st : St) : Option DE :=
  match allLt (edgesOf o) p with
  | false => none
  | true => (match guardA all (restr (o.looksAt all) (get st.t)) o with
    | some true => (match eop P hh cf (len st.m) p o (restr (o.looksAt all) (get st.t)) (getM st.m) with
      | some e => some ⟨pmOf ds (edgesOf o), o.dst, o.looksAt all, e.rd, e.r, e.wr, e.kl, e.ob⟩
      | none => none)
    | some false => some ⟨pmOf ds (edgesOf o), o.dst, o.looksAt all, [], .junk, [], [], []⟩
    | none => none)
def compatAll : List DE → Nat → DE → Bool
  | [], _, _ => true
  | e :: r, k, d => (d.pm.testBit k || compat e d) && compatAll r (k + 1) d
theorem compatAll_ok : ∀ {l : List DE} {p : Nat} {d : DE}, compatAll l p d = true → ∀ k dk, l[k]? = some dk → d.pm.testBit (p + k) = true ∨ compat dk d = true
  | [], _, _, _, k, dk, hk => by simp at hk
  | e :: r, p, d, h, k, dk, hk => by
    simp only [compatAll, Bool.and_eq_true, Bool.or_eq_true] at h
    cases k with
    | zero => simp at hk; subst hk; exact h.1
    | succ k => rw [show p + (k + 1) = p + 1 + k by omega]; exact compatAll_ok h.2 k dk (by simpa using hk)
def edraw (P : Program) (hh : Nat → Option Hint) (cf : CF) (all : Array Oper) : List Oper → Nat → List DE → St → Option (List DE × St)
  | [], _, ds, st => some (ds, st)
  | o :: r, p, ds, st =>
    match dstep P hh cf all p ds o st with
    | some d => (match compatAll ds 0 d with
      | true => edraw P hh cf all r (p + 1) (ds ++ [d]) (d.app st)
      | false => none)
    | none => none
def obsOf : List DE → List Prop
  | [] => []
  | d :: r => d.ob ++ obsOf r
theorem obsOf_mem : ∀ {l : List DE}, Hold (obsOf l) → ∀ d ∈ l, Hold d.ob
  | [], _, d, hd => by cases hd
  | e :: r, h, d, hd => by
    obtain ⟨h1, h2⟩ := h.append
    rcases List.mem_cons.1 hd with rfl | hd
    · exact h1
    · exact obsOf_mem h2 d hd
theorem edraw_sub {P : Program} {hh : Nat → Option Hint} {cf : CF} {all : Array Oper} : ∀ {l : List Oper} {p : Nat} {ds ds' : List DE} {st st' : St}, edraw P hh cf all l p ds st = some (ds', st') → ∀ d ∈ ds, d ∈ ds'
  | [], _, _, _, _, _, h, d, hd => by simp only [edraw] at h; cases h; exact hd
  | o :: r, p, ds, ds', st, st', h, d, hd => by
    simp only [edraw] at h
    split at h
    · split at h
      · exact edraw_sub h d (by simp [hd])
      · cases h
    · cases h

theorem dstep_ok {P : Program} {hh : Nat → Option Hint} {cf : CF} {all : Array Oper} (hcf : CfOk P cf) {p : Nat} {ds : List DE} {o : Oper} {st : St} {d : DE} (h : dstep P hh cf all p ds o st = some d) (ho : Hold d.ob) :
    d.dst = o.dst ∧ (∀ k ∈ edgesOf o, k < p) ∧ d.pm = pmOf ds (edgesOf o) ∧ ∀ s', alike d st s' → StepD P all o d s' := by
  unfold dstep at h
  split at h
  · cases h
  rename_i hlt
  split at h
  · rename_i hg
    split at h
    case h_2 => cases h
    rename_i e he
    cases h
    refine ⟨rfl, allLt_ok hlt, rfl, fun s' hs H E w a K Q hC hT hd hk => ?_⟩
    have et : restr (o.looksAt all) (get s'.t) = restr (o.looksAt all) (get st.t) := by
      funext i
      unfold restr
      split
      · rename_i hm
        exact (hs.2.1 i (mem_iff.1 hm)).symm
      · rfl
    have hT' : RelT (restr (o.looksAt all) (get st.t)) H E a := by rw [← et]; exact relT_restr (relT_of hT)
    rw [guardA_ok hT' hg]
    simp only [if_true]
    exact .inl (eop_ok hcf he ho (fun k hk => getM_len _ _ hk) (M := s'.m) (fun i hi => (hs.2.2 i hi).symm) H E w a K Q hC hT' hd hk)
  · rename_i hg
    cases h
    refine ⟨rfl, allLt_ok hlt, rfl, fun s' hs H E w a K Q hC hT hd hk => ?_⟩
    have et : restr (o.looksAt all) (get s'.t) = restr (o.looksAt all) (get st.t) := by
      funext i
      unfold restr
      split
      · rename_i hm
        exact (hs.2.1 i (mem_iff.1 hm)).symm
      · rfl
    have hT' : RelT (restr (o.looksAt all) (get st.t)) H E a := by rw [← et]; exact relT_restr (relT_of hT)
    rw [guardA_ok hT' hg]
    simp only [Bool.false_eq_true, if_false]
    exact hk undef w H E trivial hC (Evol.refl _ _ _ _)
  · cases h

theorem edraw_ok {P : Program} {hh : Nat → Option Hint} {cf : CF} {all : Array Oper} (hcf : CfOk P cf) {s0 : St} : ∀ {l : List Oper} {p : Nat} {ds ds' : List DE} {st st' : St}, (∀ j, l[j]? = all[p + j]?) →
    edraw P hh cf all l p ds st = some (ds', st') → (∀ d ∈ ds', Hold d.ob) → DOk P all s0 p ds → st = foldX ds 0 (fun _ => true) s0 → DOk P all s0 (p + l.length) ds' ∧ st' = foldX ds' 0 (fun _ => true) s0
  | [], p, ds, ds', st, st', _, h, _, hk, hs => by
    simp only [edraw] at h
    cases h
    exact ⟨hk, hs⟩
  | o :: r, p, ds, ds', st, st', hl, h, ho, hk, hs => by
    simp only [edraw] at h
    split at h
    case h_2 => cases h
    rename_i d hd
    split at h
    case h_2 => cases h
    rename_i hc
    have hp : all[p]? = some o := by have := hl 0; simpa using this.symm
    have hr : ∀ j, r[j]? = all[p + 1 + j]? := fun j => by have := hl (j + 1); simp at this; rw [this]; congr 1; omega
    obtain ⟨h1, h2, h3, h4⟩ := dstep_ok hcf hd (ho d (edraw_sub h d (by simp)))
    have hlen := hk.size
    have e := edraw_ok hcf (s0 := s0) hr h ho (by
      refine ⟨by simp [hlen], fun j dj hj hdj => ?_⟩
      rcases Nat.lt_or_ge j p with hjp | hjp
      · have hdj' : ds[j]? = some dj := by
          rw [List.getElem?_append_left (by omega)] at hdj; exact hdj
        obtain ⟨oj, g1, g2, g3, g4, g5, g6⟩ := hk.step j dj hjp hdj'
        refine ⟨oj, g1, g2, g3, fun k hb => ?_, fun k dk hkj hdk => ?_, ?_⟩
        · obtain ⟨a, b⟩ := g4 k hb
          refine ⟨a, b.imp id ?_⟩
          rintro ⟨e, de, x, y, z⟩
          exact ⟨e, de, x, by rw [List.getElem?_append_left (by have := (List.getElem?_eq_some_iff.1 y).1; omega)]; exact y, z⟩
        · rw [List.getElem?_append_left (by omega)] at hdk
          exact g5 k dk hkj hdk
        · have e : foldX (ds ++ [d]) 0 (below j) s0 = foldX ds 0 (below j) s0 := by
            rw [foldX_append]
            exact foldX_none [d] _ _ fun k hk => by
              simp only [below]
              cases hb : Nat.blt k j with
              | false => rfl
              | true => rw [Nat.blt_eq] at hb; omega
          rw [e]; exact g6
      · have hjp : j = p := by omega
        subst hjp
        have hdj : dj = d := by
          rw [List.getElem?_append_right (by omega)] at hdj
          simp [hlen] at hdj
          exact hdj.symm
        subst hdj
        refine ⟨o, hp, h1, h2, fun k hb => ?_, fun k dk hkj hdk => ?_, ?_⟩
        · rw [h3] at hb
          obtain ⟨e, he, hb⟩ := pmOf_bit hb
          rcases hb with rfl | hb
          · exact ⟨h2 e he, .inl he⟩
          · rw [pmAt_eq] at hb
            cases hde : ds[e]? with
            | none => rw [hde] at hb; simp at hb
            | some de =>
              rw [hde] at hb
              have hep := h2 e he
              obtain ⟨oe, _, _, _, g4, _⟩ := hk.step e de hep hde
              obtain ⟨a, _⟩ := g4 k hb
              exact ⟨by omega, .inr ⟨e, de, he, by rw [List.getElem?_append_left (by omega)]; exact hde, hb⟩⟩
        · rw [List.getElem?_append_left (by omega)] at hdk
          have := compatAll_ok hc k dk hdk
          simpa using this
        · have e : foldX (ds ++ [dj]) 0 (below j) s0 = st := by
            rw [foldX_append, hs]
            have e1 : foldX ds 0 (below j) s0 = foldX ds 0 (fun _ => true) s0 := foldX_congr ds 0 _ fun k _ hk => by
              simp only [below, Nat.blt_eq]; omega
            rw [e1]
            exact foldX_none [dj] _ _ fun k hk => by
              simp only [below]
              cases hb : Nat.blt k j with
              | false => rfl
              | true => rw [Nat.blt_eq] at hb; omega
          rw [e]; exact h4) (by
      rw [foldX_append, ← hs]; rfl)
    rw [show p + (o :: r).length = p + 1 + r.length by simp; omega]
    exact e
theorem ACode.draw {P : Program} {hh : Nat → Option Hint} {cf : CF} {id : Nat} {ops : Array Oper} {st st' : St} {ds : List DE} (hm : P.follows .mixedOrders = true) (hcf : CfOk P cf)
    (h : edraw P hh cf ops ops.toList 0 [] st = some (ds, st')) (hreg : regOk st ds = true) (ho : Hold (obsOf ds)) : ACode P (.region id ops true) st .normal st' := by
  obtain ⟨h1, rfl⟩ := edraw_ok hcf (s0 := st) (fun j => by simp) h (obsOf_mem ho) ⟨rfl, fun j d hj => by omega⟩ rfl
  exact ACode.drawn hm (by simpa using h1) (regOk_ok hreg)
end Go.Ax
