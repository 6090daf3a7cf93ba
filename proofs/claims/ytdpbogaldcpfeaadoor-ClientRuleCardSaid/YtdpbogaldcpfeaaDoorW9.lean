/- PROVED: ClientRule -/
import Derived.Test.YtdpbogaldcpfeaaDoorW7
import Derived.Test.YtdpbogaldcpfeaaDoorW8
set_option linter.unusedVariables false
set_option linter.unusedSimpArgs false
set_option linter.unusedSectionVars false
/-! A client's numbers: what a step does. -/
namespace Go.Proofs.YtdpbogaldcpfeaaDoor.C
open Go.Ax
structure Sm (c d : Clt) : Prop where
  p : d.prod = c.prod
  s : d.seq = c.seq
  k : d.call = c.call
  b : d.busy = c.busy
theorem Sm.refl (c : Clt) : Sm c c := ⟨rfl, rfl, rfl, rfl⟩
structure Ru (c : Clt) (y : Nod) : Prop where
  p : y.c.prod = c.prod
  s : y.c.seq = c.seq
  n : y.o.done = false → y.c.busy = c.busy ∧ y.c.call = c.call
  d : y.o.done = true → y.c.busy = false
  k1 : y.o.send = true → y.o.req.kind = 1 → c.call.kind = 1 ∧ y.o.req.part.seq = c.seq ∧ y.o.req.part.prod = c.prod ∧ y.o.req.part.key = c.call.key ∧ y.o.req.part.val = c.call.val
  k3 : y.o.send = true → y.o.req.kind = 3 → c.call.kind = 3 ∧ y.o.req.part.seq = c.seq ∧ y.o.req.part.prod = c.prod ∧ y.o.req.part.name = c.call.name ∧ y.o.req.part.off = c.call.off
  k5 : y.o.send = true → y.o.req.kind = 5 → c.call.kind = 5 ∧ y.o.req.adm.seq = c.seq ∧ y.o.req.adm.prod = c.prod
  kq : y.o.send = true → y.o.req.kind = c.call.kind ∨ y.o.req.kind = 6
theorem ru_quiet {c : Clt} {y : Nod} (h : Sm c y.c) (ho : y.o = default) : Ru c y := by
  have h1 : y.o.send = false := by rw [ho]; rfl
  have h2 : y.o.done = false := by rw [ho]; rfl
  exact ⟨h.p, h.s, fun _ => ⟨h.b, h.k⟩, (fun h => by rw [h2] at h; cases h), (fun h => by rw [h1] at h; cases h), (fun h => by rw [h1] at h; cases h), (fun h => by rw [h1] at h; cases h), (fun h => by rw [h1] at h; cases h)⟩
theorem ru_end {c : Clt} {z : Nod} {r : Rep} (h : Sm c z.c) : Ru c (endN z r) :=
  ⟨h.p, h.s, (fun h => by cases h), fun _ => rfl, (fun h => by cases h), (fun h => by cases h), (fun h => by cases h), (fun h => by cases h)⟩
theorem ru_later {c : Clt} {z : Nod} (h : Sm c z.c) (ho : z.o = default) : Ru c (laterN z) := ru_quiet (y := laterN z) ⟨h.p, h.s, h.k, h.b⟩ ho
theorem cmd1 {x : Nod} {e : Int} (h : x.c.call.kind = 1) : cmdQ x e = ⟨1, e, x.c.prod, x.c.seq, x.c.call.key, x.c.call.val, 0, 0, ByteArray.empty, 0⟩ := by
  unfold cmdQ
  rw [if_pos h]
theorem cmd3 {x : Nod} {e : Int} (h : x.c.call.kind = 3) : cmdQ x e = ⟨3, e, x.c.prod, x.c.seq, ByteArray.empty, [], x.c.call.off, 0, x.c.call.name, 0⟩ := by
  unfold cmdQ
  rw [if_neg (by omega), if_neg (by omega), if_pos h]
theorem ru_send {c : Clt} {z : Nod} (h : Sm c z.c) : Ru c (sendN z) := by
  unfold sendN
  split
  · exact ru_end h
  · split
    · rename_i k5
      have k5 : z.c.call.kind = 5 := k5
      refine ⟨h.p, h.s, fun _ => ⟨h.b, h.k⟩, (fun h => by cases h), fun _ q => ?_, fun _ q => ?_, fun _ _ => ⟨?_, ?_, ?_⟩, fun _ => .inl (congrArg Cal.kind h.k)⟩
      · have q : z.c.call.kind = 1 := q
        omega
      · have q : z.c.call.kind = 3 := q
        omega
      · rw [← h.k]; exact k5
      · exact h.s
      · exact h.p
    · rename_i k5
      have k5 : ¬ z.c.call.kind = 5 := k5
      split
      · refine ⟨h.p, h.s, fun _ => ⟨h.b, h.k⟩, (fun h => by cases h), fun _ q => ?_, fun _ q => ?_, fun _ q => ?_, fun _ => .inr rfl⟩
        · have q : (6 : Int) = 1 := q
          omega
        · have q : (6 : Int) = 3 := q
          omega
        · have q : (6 : Int) = 5 := q
          omega
      · refine ⟨h.p, h.s, fun _ => ⟨h.b, h.k⟩, (fun h => by cases h), fun _ q => ?_, fun _ q => ?_, fun _ q => ?_, fun _ => .inl (congrArg Cal.kind h.k)⟩
        · have q : z.c.call.kind = 1 := q
          show _ ∧ (cmdQ z (shdS z).epoch).seq = _ ∧ (cmdQ z (shdS z).epoch).prod = _ ∧ (cmdQ z (shdS z).epoch).key = _ ∧ (cmdQ z (shdS z).epoch).val = _
          rw [cmd1 q, ← h.k]
          exact ⟨q, h.s, h.p, rfl, rfl⟩
        · have q : z.c.call.kind = 3 := q
          show _ ∧ (cmdQ z (shdS z).epoch).seq = _ ∧ (cmdQ z (shdS z).epoch).prod = _ ∧ (cmdQ z (shdS z).epoch).name = _ ∧ (cmdQ z (shdS z).epoch).off = _
          rw [cmd3 q, ← h.k]
          exact ⟨q, h.s, h.p, rfl, rfl⟩
        · exact absurd q k5
theorem sm_finL (x : Nod) (r : Rep) : Sm x.c (finL x r).c ∧ (finL x r).o = x.o := by
  unfold finL
  split <;> exact ⟨⟨rfl, rfl, rfl, rfl⟩, rfl⟩
theorem sm_taken (x : Nod) : Sm x.c (taken x).c ∧ (taken x).o = x.o := by
  unfold taken
  split <;> exact ⟨⟨rfl, rfl, rfl, rfl⟩, rfl⟩
theorem sm_turn {c : Clt} {x : Nod} (h : Sm c x.c) : Sm c (turnN x).c := ⟨h.p, h.s, h.k, h.b⟩
theorem ru_gone (c : Clt) : Ru c (goneN ⟨c, default⟩) := by
  obtain ⟨h1, h2⟩ := sm_taken ⟨c, default⟩
  exact ru_later (sm_turn h1) h2
theorem ru_fin (c : Clt) (r : Rep) : Ru c (finN ⟨c, default⟩ r) := by
  obtain ⟨h1, h2⟩ := sm_finL ⟨c, default⟩ r
  unfold finN
  split
  · exact ru_end h1
  · split
    · exact ru_send h1
    · exact ru_later (z := nxtN (finL ⟨c, default⟩ r)) ⟨h1.p, h1.s, h1.k, h1.b⟩ h2
theorem ru_ans (c : Clt) (r : Rep) : Ru c (ansN ⟨c, default⟩ r) := by
  have h0 : Sm c (⟨c, default⟩ : Nod).c := Sm.refl c
  unfold ansN
  split
  · exact ru_fin c r
  · split
    · split
      · exact ru_send (z := ledN ⟨c, default⟩ r.leader) ⟨rfl, rfl, rfl, rfl⟩
      · exact ru_later (sm_turn h0) rfl
    · split
      · split
        · exact ru_end h0
        · exact ru_gone c
      · split
        · exact ru_gone c
        · split
          · split
            · exact ru_end h0
            · exact ru_later h0 rfl
          · exact ru_end h0
theorem ru_tic (c : Clt) : Ru c (ticN ⟨c, default⟩) := by
  have h0 : Sm c (⟨c, default⟩ : Nod).c := Sm.refl c
  have h1 : Sm c (wt1 ⟨c, default⟩).c := ⟨rfl, rfl, rfl, rfl⟩
  unfold ticN
  split
  · exact ru_quiet h0 rfl
  · split
    · exact ru_send h0
    · split
      · exact ru_quiet h1 rfl
      · split
        · exact ru_end (sm_turn h1)
        · exact ru_send (sm_turn h1)
/-- a step that takes no call -/
theorem ru_other {c : Clt} {i : Inp} (h : ¬ (i.kind = 1 ∧ stepE c i = 0)) : Ru c (stepN c i) := by
  have h0 : Sm c (⟨c, default⟩ : Nod).c := Sm.refl c
  unfold stepN
  split
  · rename_i k1
    have hn : ¬ begE ⟨c, default⟩ i.call = 0 := fun e => h ⟨k1, by unfold stepE; rw [if_pos k1]; exact e⟩
    unfold begQ
    rw [if_neg hn]
    exact ru_quiet h0 rfl
  · split
    · unfold herN
      split
      · exact ru_ans c _
      · exact ru_quiet h0 rfl
    · split
      · exact ru_tic c
      · exact ru_quiet h0 rfl
theorem beg_busy {c : Clt} {k : Cal} (h : begE ⟨c, default⟩ k = 0) : c.busy = false := by
  cases hb : c.busy
  · rfl
  · unfold begE at h
    rw [show (⟨c, default⟩ : Nod).c.busy = true from hb] at h
    simp at h
theorem beg_kind {x : Nod} {k : Cal} (h : begE x k = 0) : 1 ≤ k.kind ∧ k.kind ≤ 6 := by
  unfold begE at h
  split at h
  · omega
  · split at h
    · omega
    · rename_i hn
      omega
theorem ru_call {c : Clt} {i : Inp} (hk : i.kind = 1) (he : stepE c i = 0) : (c.busy = false ∧ (1 ≤ i.call.kind ∧ i.call.kind ≤ 6)) ∧ Ru (beg1 ⟨c, default⟩ i.call).c (stepN c i) := by
  have he' : begE ⟨c, default⟩ i.call = 0 := by
    unfold stepE at he
    rwa [if_pos hk] at he
  refine ⟨⟨beg_busy he', beg_kind he'⟩, ?_⟩
  unfold stepN
  rw [if_pos hk]
  unfold begQ
  rw [if_pos he']
  exact ru_send (Sm.refl _)
theorem chg_iff {k : Int} : chg k = true ↔ (k = 1 ∨ k = 3 ∨ k = 5) := by
  unfold chg
  simp
/-! a round -/
def acc (c : Clt) (i : Inp) : Bool := i.kind == 1 && stepE c i == 0
def ruW (s : RuS) (i : Inp) : Cal := if acc s.c i = true then i.call else s.now
def ruU (s : RuS) (i : Inp) : Bool := if acc s.c i = true then chg i.call.kind else s.u
def ruQ (s : RuS) (i : Inp) : Int := if (acc s.c i && chg i.call.kind) = true then IntKind.u64.wrap (s.q + 1) else s.q
def ruN (s : RuS) (i : Inp) : RuS := ⟨(stepN s.c i).c, ruW s i, if (stepN s.c i).o.done = true then false else ruU s i, ruQ s i⟩
structure RuC (s : RuS) (i : Inp) (y : Nod) (e : Int) : Prop where
  a : i.kind = 1 → e = 0 → s.c.busy = false
  p1 : y.o.send = true → y.o.req.kind = 1 → ruU s i = true ∧ y.o.req.part.seq = ruQ s i ∧ y.o.req.part.prod = 9 ∧ y.o.req.part.key = (ruW s i).key ∧ y.o.req.part.val = (ruW s i).val
  p3 : y.o.send = true → y.o.req.kind = 3 → ruU s i = true ∧ y.o.req.part.seq = ruQ s i ∧ y.o.req.part.prod = 9 ∧ y.o.req.part.name = (ruW s i).name ∧ y.o.req.part.off = (ruW s i).off
  p5 : y.o.send = true → y.o.req.kind = 5 → ruU s i = true ∧ y.o.req.adm.seq = ruQ s i ∧ y.o.req.adm.prod = 9
  sq : y.c.seq = ruQ s i
  kq : y.o.send = true → 1 ≤ y.o.req.kind ∧ y.o.req.kind ≤ 6
/-- what holds of the client as it is when the call was taken -/
theorem ru_round {m : Nat} {s : RuS} {i : Inp} {c : Clt} {y : Nod} {e : Int} (hv : Inv (m + 1) y.c) (ha : i.kind = 1 → e = 0 → s.c.busy = false) (hr : Ru c y) (hp : c.prod = 9) (hs : c.seq = ruQ s i) (hb : c.busy = true → ruW s i = c.call ∧ ruU s i = chg c.call.kind) (hn : c.busy = false → ruU s i = false) (hd : y.o.send = true → c.busy = true) (hkr : c.busy = true → 1 ≤ c.call.kind ∧ c.call.kind ≤ 6) :
    RuC s i y e ∧ RuI (m + 1) ⟨y.c, ruW s i, if y.o.done = true then false else ruU s i, ruQ s i⟩ := by
  refine ⟨⟨ha, fun h1 h2 => ?_, fun h1 h2 => ?_, fun h1 h2 => ?_, hr.s.trans hs, fun h1 => ?_⟩, ⟨hv, hr.p.trans hp, hr.s.trans hs, fun h => ?_, fun h => ?_, fun h => ?_⟩⟩
  · obtain ⟨q1, q2, q3, q4, q5⟩ := hr.k1 h1 h2
    obtain ⟨b1, b2⟩ := hb (hd h1)
    rw [b1, b2, q1]
    exact ⟨rfl, q2.trans hs, q3.trans hp, q4, q5⟩
  · obtain ⟨q1, q2, q3, q4, q5⟩ := hr.k3 h1 h2
    obtain ⟨b1, b2⟩ := hb (hd h1)
    rw [b1, b2, q1]
    exact ⟨rfl, q2.trans hs, q3.trans hp, q4, q5⟩
  · obtain ⟨q1, q2, q3⟩ := hr.k5 h1 h2
    obtain ⟨b1, b2⟩ := hb (hd h1)
    rw [b2, q1]
    exact ⟨rfl, q2.trans hs, q3.trans hp⟩
  · have hk := hkr (hd h1)
    rcases hr.kq h1 with q | q
    · rw [q]; exact hk
    · rw [q]; decide
  · have h : y.c.busy = true := h
    have hdn : y.o.done = false := by
      cases hdn : y.o.done
      · rfl
      · rw [hr.d hdn] at h; cases h
    obtain ⟨n1, n2⟩ := hr.n hdn
    obtain ⟨b1, b2⟩ := hb (n1.symm.trans h)
    show ruW s i = y.c.call ∧ (if y.o.done = true then false else ruU s i) = chg y.c.call.kind
    rw [n2, hdn]
    exact ⟨b1, b2⟩
  · have h : y.c.busy = false := h
    show (if y.o.done = true then false else ruU s i) = false
    cases hdn : y.o.done
    · obtain ⟨n1, _⟩ := hr.n hdn
      exact hn (n1.symm.trans h)
    · rfl
  · have h : y.c.busy = true := h
    have hdn : y.o.done = false := by
      cases hdn : y.o.done
      · rfl
      · rw [hr.d hdn] at h; cases h
    obtain ⟨n1, n2⟩ := hr.n hdn
    show 1 ≤ y.c.call.kind ∧ y.c.call.kind ≤ 6
    rw [n2]
    exact hkr (n1.symm.trans h)
theorem idle_send {c : Clt} {i : Inp} (hb : c.busy = false) (h : ¬ (i.kind = 1 ∧ stepE c i = 0)) : (stepN c i).o.send = false := by
  unfold stepN
  split
  · rename_i k1
    have hn : ¬ begE ⟨c, default⟩ i.call = 0 := fun e => h ⟨k1, by unfold stepE; rw [if_pos k1]; exact e⟩
    unfold begQ
    rw [if_neg hn]
    rfl
  · split
    · have hh : heaB ⟨c, default⟩ i.rep = false := by unfold heaB; rw [show (⟨c, default⟩ : Nod).c.busy = false from hb]; rfl
      unfold herN
      rw [hh]
      rfl
    · split
      · unfold ticN
        rw [if_pos (show (⟨c, default⟩ : Nod).c.busy = false from hb)]
        rfl
      · rfl
theorem ru_next {m : Nat} {s : RuS} {i : Inp} (h : RuI m s) (hi : InpOk i) : RuC s i (stepN s.c i) (stepE s.c i) ∧ RuI (m + 1) (ruN s i) := by
  have hv := inv_step h.iv hi
  by_cases ha : i.kind = 1 ∧ stepE s.c i = 0
  · obtain ⟨k1, k2⟩ := ha
    obtain ⟨⟨hb, hkk⟩, hr⟩ := ru_call k1 k2
    have hacc : acc s.c i = true := by unfold acc; simp [k1, k2]
    have w1 : ruW s i = i.call := by unfold ruW; rw [if_pos hacc]
    have w2 : ruU s i = chg i.call.kind := by unfold ruU; rw [if_pos hacc]
    have w3 : (beg1 ⟨s.c, default⟩ i.call).c.seq = ruQ s i := by
      show (if i.call.kind = 1 ∨ i.call.kind = 3 ∨ i.call.kind = 5 then IntKind.u64.wrap (s.c.seq + 1) else s.c.seq) = _
      unfold ruQ
      rw [hacc, Bool.true_and, h.sq]
      by_cases hc : chg i.call.kind = true
      · rw [if_pos (chg_iff.1 hc), if_pos hc]
      · rw [if_neg (fun e => hc (chg_iff.2 e)), if_neg hc]
    exact ru_round hv (fun _ _ => hb) hr h.pr w3 (fun _ => ⟨w1, w2⟩) (fun hn => by cases hn) (fun _ => rfl) (fun _ => hkk)
  · have hacc : acc s.c i = false := by
      unfold acc
      cases h1 : (i.kind == 1)
      · rfl
      · cases h2 : (stepE s.c i == 0)
        · rfl
        · exact absurd ⟨by simpa using h1, by simpa using h2⟩ ha
    have w1 : ruW s i = s.now := by unfold ruW; rw [hacc]; rfl
    have w2 : ruU s i = s.u := by unfold ruU; rw [hacc]; rfl
    have w3 : ruQ s i = s.q := by unfold ruQ; rw [hacc]; rfl
    refine ru_round hv (fun h1 h2 => absurd ⟨h1, h2⟩ ha) (ru_other ha) h.pr (by rw [w3]; exact h.sq) (fun hb => by rw [w1, w2]; exact h.bu hb) (fun hb => by rw [w2]; exact h.nb hb) (fun hs => ?_) h.kr
    cases hb : s.c.busy
    · rw [idle_send hb ha] at hs
      cases hs
    · rfl
end Go.Proofs.YtdpbogaldcpfeaaDoor.C

/-! A client's numbers: the code. -/
--fold
namespace Go.Proofs.YtdpbogaldcpfeaaDoor.C
open Go.Ax
set_option maxRecDepth 1000000
theorem tagTp4 (l : List Tpc) : ∀ (k : Nat), k < l.length → ∀ (j : Nat), j < 2 → tagT (cellsOf' encTp l k j) = true := by
  intro k _ j hj
  match j, hj with
  | 0, _ => exact rfl
  | 1, _ => exact rfl
theorem tagSi4 (l : List Sit) : ∀ (k : Nat), k < l.length → ∀ (j : Nat), j < 2 → tagT (cellsOf' encSi l k j) = true := by
  intro k _ j hj
  match j, hj with
  | 0, _ => exact rfl
  | 1, _ => exact rfl
@[simp] theorem fdC1_refl (a : Clt) : fdC1 a a := by
  unfold fdC1
  simp
@[simp] theorem fdCl_refl (a : Cal) : fdCl a a := by
  unfold fdCl
  simp
@[simp] theorem fdIn_refl (a : Inp) : fdIn a a := by
  unfold fdIn
  simp
@[simp] theorem fdCf_refl (a : Clt) : fdCf a a := by
  unfold fdCf
  simp
/-- what is known of a round -/
structure Rnd (l : List Inp) (i : Inp) (y : Nod) (e : Int) (q q' : RI l) : Prop where
  kk : q.k < l.length
  c : CalOk i.call
  ac : acc q.s.c i = true ↔ (i.kind = 1 ∧ e = 0)
  st : StG q.s.c i y e
  r : RuC q.s i y e
  k1 : q'.k = q.k + 1
  k2 : q'.s.c = y.c
  k3 : q'.s.now = ruW q.s i
  k4 : q'.s.u = if y.o.done = true then false else ruU q.s i
  k5 : q'.s.q = ruQ q.s i
theorem ru0_c {l : List Inp} {y : Nod} {e : Int} {q q' : RI l} (hl : l.length ≤ 9223372036854775806) (h : Rnd l (l.getD q.k default) y e q q') (hs : y.o.send = false) : vcRu0 l y e q y.o.req.kind := by
  unfold vcRu0 vcRu0_q4 vcRu0_q3 vcRu0_q2 vcRu0_q1 vcRu0_q5
  obtain ⟨hk, hc, ha, hst, hr, k1, k2, k3, k4, k5⟩ := h
  have hz : decide ((q.k : Int) < l.length) = true := by simp; omega
  have hw : IntKind.i64.wrap ((q.k : Int) + 1) = ((q.k + 1 : Nat) : Int) := by rw [wrap_i64 (by omega) (by omega)]; omega
  rw [Int.toNat_natCast]
  simp only [hz, hw]
  generalize l.getD q.k default = i at *
  have hK : StK q.s.c i y e false y.o.req.kind := ⟨hst, hs, rfl⟩
  have hsq := hr.sq
  have hac := hr.a
  clear hr hst
  by_cases hx : i.kind = 1 ∧ e = 0
  · obtain ⟨ik, rfl⟩ := hx
    have hA : acc q.s.c i = true := ha.2 ⟨ik, rfl⟩
    have hb := hac ik rfl
    clear ha hac
    simp only [ruW, ruU, ruQ, hA, if_true, Bool.true_and] at k3 k4 k5 hsq
    cases hg : chg i.call.kind
    · have hg' : ¬ (i.call.kind = 1 ∨ i.call.kind = 3 ∨ i.call.kind = 5) := fun x => by rw [chg_iff.2 x] at hg; cases hg
      have g1 : ¬ i.call.kind = 1 := fun x => hg' (.inl x)
      have g3 : ¬ i.call.kind = 3 := fun x => hg' (.inr (.inl x))
      have g5 : ¬ i.call.kind = 5 := fun x => hg' (.inr (.inr x))
      simp only [hg, Bool.false_eq_true, if_false] at k4 k5 hsq
      cases hd : y.o.done
      · have k4' : q'.s.u = false := by rw [k4, hd]; rfl
        simp [hk, hK, hd, hsq, hc, ik, hb, g1, g3, g5]
        refine ⟨tagTp4 _, tagSi4 _, q', by omega, ?_⟩
        simp [k1, k2, k3, k4', k5, ik, hb, g1, g3, g5]
      · have k4' : q'.s.u = false := by rw [k4, hd]; rfl
        simp [hk, hK, hd, hsq, hc, ik, hb, g1, g3, g5]
        refine ⟨tagTp4 _, tagSi4 _, q', by omega, ?_⟩
        simp [k1, k2, k3, k4', k5, ik, hb, g1, g3, g5]
    · simp only [hg, if_true] at k4 k5 hsq
      rcases chg_iff.1 hg with g | g | g
      · cases hd : y.o.done
        · have k4' : q'.s.u = true := by rw [k4, hd]; rfl
          simp [hk, hK, hd, hsq, hc, ik, hb, g]
          refine ⟨tagTp4 _, tagSi4 _, q', by omega, ?_⟩
          simp [k1, k2, k3, k4', k5, ik, hb, g]
        · have k4' : q'.s.u = false := by rw [k4, hd]; rfl
          simp [hk, hK, hd, hsq, hc, ik, hb, g]
          refine ⟨tagTp4 _, tagSi4 _, q', by omega, ?_⟩
          simp [k1, k2, k3, k4', k5, ik, hb, g]
      · cases hd : y.o.done
        · have k4' : q'.s.u = true := by rw [k4, hd]; rfl
          simp [hk, hK, hd, hsq, hc, ik, hb, g]
          refine ⟨tagTp4 _, tagSi4 _, q', by omega, ?_⟩
          simp [k1, k2, k3, k4', k5, ik, hb, g]
        · have k4' : q'.s.u = false := by rw [k4, hd]; rfl
          simp [hk, hK, hd, hsq, hc, ik, hb, g]
          refine ⟨tagTp4 _, tagSi4 _, q', by omega, ?_⟩
          simp [k1, k2, k3, k4', k5, ik, hb, g]
      · cases hd : y.o.done
        · have k4' : q'.s.u = true := by rw [k4, hd]; rfl
          simp [hk, hK, hd, hsq, hc, ik, hb, g]
          refine ⟨tagTp4 _, tagSi4 _, q', by omega, ?_⟩
          simp [k1, k2, k3, k4', k5, ik, hb, g]
        · have k4' : q'.s.u = false := by rw [k4, hd]; rfl
          simp [hk, hK, hd, hsq, hc, ik, hb, g]
          refine ⟨tagTp4 _, tagSi4 _, q', by omega, ?_⟩
          simp [k1, k2, k3, k4', k5, ik, hb, g]
  · have hA : acc q.s.c i = false := by
      cases hA : acc q.s.c i
      · rfl
      · exact absurd (ha.1 hA) hx
    clear ha hac
    simp only [ruW, ruU, ruQ, hA, Bool.false_eq_true, if_false, Bool.false_and] at k3 k4 k5 hsq
    by_cases ik : i.kind = 1
    · have ie : ¬ e = 0 := fun x => hx ⟨ik, x⟩
      cases hd : y.o.done
      · have k4' : q'.s.u = q.s.u := by rw [k4, hd]; rfl
        simp [hk, hK, hd, hsq, hc, ik, ie]
        refine ⟨tagTp4 _, tagSi4 _, q', by omega, ?_⟩
        simp [k1, k2, k3, k4', k5, ik, ie]
      · have k4' : q'.s.u = false := by rw [k4, hd]; rfl
        simp [hk, hK, hd, hsq, hc, ik, ie]
        refine ⟨tagTp4 _, tagSi4 _, q', by omega, ?_⟩
        simp [k1, k2, k3, k4', k5, ik, ie]
    · cases hd : y.o.done
      · have k4' : q'.s.u = q.s.u := by rw [k4, hd]; rfl
        simp [hk, hK, hd, hsq, hc, ik]
        refine ⟨tagTp4 _, tagSi4 _, q', by omega, ?_⟩
        simp [k1, k2, k3, k4', k5, ik]
      · have k4' : q'.s.u = false := by rw [k4, hd]; rfl
        simp [hk, hK, hd, hsq, hc, ik]
        refine ⟨tagTp4 _, tagSi4 _, q', by omega, ?_⟩
        simp [k1, k2, k3, k4', k5, ik]
theorem ru1_c {l : List Inp} {y : Nod} {e : Int} {q q' : RI l} (hl : l.length ≤ 9223372036854775806) (h : Rnd l (l.getD q.k default) y e q q') (hs : y.o.send = true) (hkd : y.o.req.kind = 1) : vcRu1 l y e q := by
  unfold vcRu1 vcRu1_q4 vcRu1_q3 vcRu1_q2 vcRu1_q1 vcRu1_q5
  obtain ⟨hk, hc, ha, hst, hr, k1, k2, k3, k4, k5⟩ := h
  have hz : decide ((q.k : Int) < l.length) = true := by simp; omega
  have hw : IntKind.i64.wrap ((q.k : Int) + 1) = ((q.k + 1 : Nat) : Int) := by rw [wrap_i64 (by omega) (by omega)]; omega
  rw [Int.toNat_natCast]
  simp only [hz, hw]
  generalize l.getD q.k default = i at *
  have hK : StK q.s.c i y e true 1 := ⟨hst, hs, hkd⟩
  have hsq := hr.sq
  have hac := hr.a
  obtain ⟨pu, p1, p2, p3, p4⟩ := hr.p1 hs hkd
  clear hr hst
  by_cases hx : i.kind = 1 ∧ e = 0
  · obtain ⟨ik, rfl⟩ := hx
    have hA : acc q.s.c i = true := ha.2 ⟨ik, rfl⟩
    have hb := hac ik rfl
    clear ha hac
    simp only [ruW, ruU, ruQ, hA, if_true, Bool.true_and] at k3 k4 k5 hsq pu p1 p3 p4
    cases hg : chg i.call.kind
    · rw [hg] at pu
      cases pu
    · simp only [hg, if_true] at k4 k5 hsq p1 p3 p4
      rcases chg_iff.1 hg with g | g | g
      · cases hd : y.o.done
        · have k4' : q'.s.u = true := by rw [k4, hd]; rfl
          simp [hk, hK, hd, hsq, hc, p1, p2, p3, p4, ik, hb, g]
          refine ⟨tagTp4 _, tagSi4 _, q', by omega, ?_⟩
          simp [k1, k2, k3, k4', k5, ik, hb, g]
        · have k4' : q'.s.u = false := by rw [k4, hd]; rfl
          simp [hk, hK, hd, hsq, hc, p1, p2, p3, p4, ik, hb, g]
          refine ⟨tagTp4 _, tagSi4 _, q', by omega, ?_⟩
          simp [k1, k2, k3, k4', k5, ik, hb, g]
      · cases hd : y.o.done
        · have k4' : q'.s.u = true := by rw [k4, hd]; rfl
          simp [hk, hK, hd, hsq, hc, p1, p2, p3, p4, ik, hb, g]
          refine ⟨tagTp4 _, tagSi4 _, q', by omega, ?_⟩
          simp [k1, k2, k3, k4', k5, ik, hb, g]
        · have k4' : q'.s.u = false := by rw [k4, hd]; rfl
          simp [hk, hK, hd, hsq, hc, p1, p2, p3, p4, ik, hb, g]
          refine ⟨tagTp4 _, tagSi4 _, q', by omega, ?_⟩
          simp [k1, k2, k3, k4', k5, ik, hb, g]
      · cases hd : y.o.done
        · have k4' : q'.s.u = true := by rw [k4, hd]; rfl
          simp [hk, hK, hd, hsq, hc, p1, p2, p3, p4, ik, hb, g]
          refine ⟨tagTp4 _, tagSi4 _, q', by omega, ?_⟩
          simp [k1, k2, k3, k4', k5, ik, hb, g]
        · have k4' : q'.s.u = false := by rw [k4, hd]; rfl
          simp [hk, hK, hd, hsq, hc, p1, p2, p3, p4, ik, hb, g]
          refine ⟨tagTp4 _, tagSi4 _, q', by omega, ?_⟩
          simp [k1, k2, k3, k4', k5, ik, hb, g]
  · have hA : acc q.s.c i = false := by
      cases hA : acc q.s.c i
      · rfl
      · exact absurd (ha.1 hA) hx
    clear ha hac
    simp only [ruW, ruU, ruQ, hA, Bool.false_eq_true, if_false, Bool.false_and] at k3 k4 k5 hsq pu p1 p3 p4
    by_cases ik : i.kind = 1
    · have ie : ¬ e = 0 := fun x => hx ⟨ik, x⟩
      cases hd : y.o.done
      · have k4' : q'.s.u = q.s.u := by rw [k4, hd]; rfl
        simp [hk, hK, hd, hsq, hc, p1, p2, p3, p4, pu, ik, ie]
        refine ⟨tagTp4 _, tagSi4 _, q', by omega, ?_⟩
        simp [k1, k2, k3, k4', k5, pu, ik, ie]
      · have k4' : q'.s.u = false := by rw [k4, hd]; rfl
        simp [hk, hK, hd, hsq, hc, p1, p2, p3, p4, pu, ik, ie]
        refine ⟨tagTp4 _, tagSi4 _, q', by omega, ?_⟩
        simp [k1, k2, k3, k4', k5, pu, ik, ie]
    · cases hd : y.o.done
      · have k4' : q'.s.u = q.s.u := by rw [k4, hd]; rfl
        simp [hk, hK, hd, hsq, hc, p1, p2, p3, p4, pu, ik]
        refine ⟨tagTp4 _, tagSi4 _, q', by omega, ?_⟩
        simp [k1, k2, k3, k4', k5, pu, ik]
      · have k4' : q'.s.u = false := by rw [k4, hd]; rfl
        simp [hk, hK, hd, hsq, hc, p1, p2, p3, p4, pu, ik]
        refine ⟨tagTp4 _, tagSi4 _, q', by omega, ?_⟩
        simp [k1, k2, k3, k4', k5, pu, ik]
theorem ru2_c {l : List Inp} {y : Nod} {e : Int} {q q' : RI l} (hl : l.length ≤ 9223372036854775806) (h : Rnd l (l.getD q.k default) y e q q') (hs : y.o.send = true) (hkd : y.o.req.kind = 2) : vcRu2 l y e q := by
  unfold vcRu2 vcRu2_q4 vcRu2_q3 vcRu2_q2 vcRu2_q1 vcRu2_q5
  obtain ⟨hk, hc, ha, hst, hr, k1, k2, k3, k4, k5⟩ := h
  have hz : decide ((q.k : Int) < l.length) = true := by simp; omega
  have hw : IntKind.i64.wrap ((q.k : Int) + 1) = ((q.k + 1 : Nat) : Int) := by rw [wrap_i64 (by omega) (by omega)]; omega
  rw [Int.toNat_natCast]
  simp only [hz, hw]
  generalize l.getD q.k default = i at *
  have hK : StK q.s.c i y e true 2 := ⟨hst, hs, hkd⟩
  have hsq := hr.sq
  have hac := hr.a
  clear hr hst
  by_cases hx : i.kind = 1 ∧ e = 0
  · obtain ⟨ik, rfl⟩ := hx
    have hA : acc q.s.c i = true := ha.2 ⟨ik, rfl⟩
    have hb := hac ik rfl
    clear ha hac
    simp only [ruW, ruU, ruQ, hA, if_true, Bool.true_and] at k3 k4 k5 hsq
    cases hg : chg i.call.kind
    · have hg' : ¬ (i.call.kind = 1 ∨ i.call.kind = 3 ∨ i.call.kind = 5) := fun x => by rw [chg_iff.2 x] at hg; cases hg
      have g1 : ¬ i.call.kind = 1 := fun x => hg' (.inl x)
      have g3 : ¬ i.call.kind = 3 := fun x => hg' (.inr (.inl x))
      have g5 : ¬ i.call.kind = 5 := fun x => hg' (.inr (.inr x))
      simp only [hg, Bool.false_eq_true, if_false] at k4 k5 hsq
      cases hd : y.o.done
      · have k4' : q'.s.u = false := by rw [k4, hd]; rfl
        simp [hk, hK, hd, hsq, hc, ik, hb, g1, g3, g5]
        refine ⟨tagTp4 _, tagSi4 _, q', by omega, ?_⟩
        simp [k1, k2, k3, k4', k5, ik, hb, g1, g3, g5]
      · have k4' : q'.s.u = false := by rw [k4, hd]; rfl
        simp [hk, hK, hd, hsq, hc, ik, hb, g1, g3, g5]
        refine ⟨tagTp4 _, tagSi4 _, q', by omega, ?_⟩
        simp [k1, k2, k3, k4', k5, ik, hb, g1, g3, g5]
    · simp only [hg, if_true] at k4 k5 hsq
      rcases chg_iff.1 hg with g | g | g
      · cases hd : y.o.done
        · have k4' : q'.s.u = true := by rw [k4, hd]; rfl
          simp [hk, hK, hd, hsq, hc, ik, hb, g]
          refine ⟨tagTp4 _, tagSi4 _, q', by omega, ?_⟩
          simp [k1, k2, k3, k4', k5, ik, hb, g]
        · have k4' : q'.s.u = false := by rw [k4, hd]; rfl
          simp [hk, hK, hd, hsq, hc, ik, hb, g]
          refine ⟨tagTp4 _, tagSi4 _, q', by omega, ?_⟩
          simp [k1, k2, k3, k4', k5, ik, hb, g]
      · cases hd : y.o.done
        · have k4' : q'.s.u = true := by rw [k4, hd]; rfl
          simp [hk, hK, hd, hsq, hc, ik, hb, g]
          refine ⟨tagTp4 _, tagSi4 _, q', by omega, ?_⟩
          simp [k1, k2, k3, k4', k5, ik, hb, g]
        · have k4' : q'.s.u = false := by rw [k4, hd]; rfl
          simp [hk, hK, hd, hsq, hc, ik, hb, g]
          refine ⟨tagTp4 _, tagSi4 _, q', by omega, ?_⟩
          simp [k1, k2, k3, k4', k5, ik, hb, g]
      · cases hd : y.o.done
        · have k4' : q'.s.u = true := by rw [k4, hd]; rfl
          simp [hk, hK, hd, hsq, hc, ik, hb, g]
          refine ⟨tagTp4 _, tagSi4 _, q', by omega, ?_⟩
          simp [k1, k2, k3, k4', k5, ik, hb, g]
        · have k4' : q'.s.u = false := by rw [k4, hd]; rfl
          simp [hk, hK, hd, hsq, hc, ik, hb, g]
          refine ⟨tagTp4 _, tagSi4 _, q', by omega, ?_⟩
          simp [k1, k2, k3, k4', k5, ik, hb, g]
  · have hA : acc q.s.c i = false := by
      cases hA : acc q.s.c i
      · rfl
      · exact absurd (ha.1 hA) hx
    clear ha hac
    simp only [ruW, ruU, ruQ, hA, Bool.false_eq_true, if_false, Bool.false_and] at k3 k4 k5 hsq
    by_cases ik : i.kind = 1
    · have ie : ¬ e = 0 := fun x => hx ⟨ik, x⟩
      cases hd : y.o.done
      · have k4' : q'.s.u = q.s.u := by rw [k4, hd]; rfl
        simp [hk, hK, hd, hsq, hc, ik, ie]
        refine ⟨tagTp4 _, tagSi4 _, q', by omega, ?_⟩
        simp [k1, k2, k3, k4', k5, ik, ie]
      · have k4' : q'.s.u = false := by rw [k4, hd]; rfl
        simp [hk, hK, hd, hsq, hc, ik, ie]
        refine ⟨tagTp4 _, tagSi4 _, q', by omega, ?_⟩
        simp [k1, k2, k3, k4', k5, ik, ie]
    · cases hd : y.o.done
      · have k4' : q'.s.u = q.s.u := by rw [k4, hd]; rfl
        simp [hk, hK, hd, hsq, hc, ik]
        refine ⟨tagTp4 _, tagSi4 _, q', by omega, ?_⟩
        simp [k1, k2, k3, k4', k5, ik]
      · have k4' : q'.s.u = false := by rw [k4, hd]; rfl
        simp [hk, hK, hd, hsq, hc, ik]
        refine ⟨tagTp4 _, tagSi4 _, q', by omega, ?_⟩
        simp [k1, k2, k3, k4', k5, ik]
theorem ru3_c {l : List Inp} {y : Nod} {e : Int} {q q' : RI l} (hl : l.length ≤ 9223372036854775806) (h : Rnd l (l.getD q.k default) y e q q') (hs : y.o.send = true) (hkd : y.o.req.kind = 3) : vcRu3 l y e q := by
  unfold vcRu3 vcRu3_q2 vcRu3_q1 vcRu3_q3 vcRu3_q4
  obtain ⟨hk, hc, ha, hst, hr, k1, k2, k3, k4, k5⟩ := h
  have hz : decide ((q.k : Int) < l.length) = true := by simp; omega
  have hw : IntKind.i64.wrap ((q.k : Int) + 1) = ((q.k + 1 : Nat) : Int) := by rw [wrap_i64 (by omega) (by omega)]; omega
  rw [Int.toNat_natCast]
  simp only [hz, hw]
  generalize l.getD q.k default = i at *
  have hK : StK q.s.c i y e true 3 := ⟨hst, hs, hkd⟩
  have hsq := hr.sq
  have hac := hr.a
  obtain ⟨pu, p1, p2, p3, p4⟩ := hr.p3 hs hkd
  clear hr hst
  by_cases hx : i.kind = 1 ∧ e = 0
  · obtain ⟨ik, rfl⟩ := hx
    have hA : acc q.s.c i = true := ha.2 ⟨ik, rfl⟩
    have hb := hac ik rfl
    clear ha hac
    simp only [ruW, ruU, ruQ, hA, if_true, Bool.true_and] at k3 k4 k5 hsq pu p1 p3 p4
    cases hg : chg i.call.kind
    · rw [hg] at pu
      cases pu
    · simp only [hg, if_true] at k4 k5 hsq p1 p3 p4
      rcases chg_iff.1 hg with g | g | g
      · cases hd : y.o.done
        · have k4' : q'.s.u = true := by rw [k4, hd]; rfl
          simp [hk, hK, hd, hsq, hc, p1, p2, p3, p4, ik, hb, g]
          refine ⟨tagTp4 _, tagSi4 _, q', by omega, ?_⟩
          simp [k1, k2, k3, k4', k5, ik, hb, g]
        · have k4' : q'.s.u = false := by rw [k4, hd]; rfl
          simp [hk, hK, hd, hsq, hc, p1, p2, p3, p4, ik, hb, g]
          refine ⟨tagTp4 _, tagSi4 _, q', by omega, ?_⟩
          simp [k1, k2, k3, k4', k5, ik, hb, g]
      · cases hd : y.o.done
        · have k4' : q'.s.u = true := by rw [k4, hd]; rfl
          simp [hk, hK, hd, hsq, hc, p1, p2, p3, p4, ik, hb, g]
          refine ⟨tagTp4 _, tagSi4 _, q', by omega, ?_⟩
          simp [k1, k2, k3, k4', k5, ik, hb, g]
        · have k4' : q'.s.u = false := by rw [k4, hd]; rfl
          simp [hk, hK, hd, hsq, hc, p1, p2, p3, p4, ik, hb, g]
          refine ⟨tagTp4 _, tagSi4 _, q', by omega, ?_⟩
          simp [k1, k2, k3, k4', k5, ik, hb, g]
      · cases hd : y.o.done
        · have k4' : q'.s.u = true := by rw [k4, hd]; rfl
          simp [hk, hK, hd, hsq, hc, p1, p2, p3, p4, ik, hb, g]
          refine ⟨tagTp4 _, tagSi4 _, q', by omega, ?_⟩
          simp [k1, k2, k3, k4', k5, ik, hb, g]
        · have k4' : q'.s.u = false := by rw [k4, hd]; rfl
          simp [hk, hK, hd, hsq, hc, p1, p2, p3, p4, ik, hb, g]
          refine ⟨tagTp4 _, tagSi4 _, q', by omega, ?_⟩
          simp [k1, k2, k3, k4', k5, ik, hb, g]
  · have hA : acc q.s.c i = false := by
      cases hA : acc q.s.c i
      · rfl
      · exact absurd (ha.1 hA) hx
    clear ha hac
    simp only [ruW, ruU, ruQ, hA, Bool.false_eq_true, if_false, Bool.false_and] at k3 k4 k5 hsq pu p1 p3 p4
    by_cases ik : i.kind = 1
    · have ie : ¬ e = 0 := fun x => hx ⟨ik, x⟩
      cases hd : y.o.done
      · have k4' : q'.s.u = q.s.u := by rw [k4, hd]; rfl
        simp [hk, hK, hd, hsq, hc, p1, p2, p3, p4, pu, ik, ie]
        refine ⟨tagTp4 _, tagSi4 _, q', by omega, ?_⟩
        simp [k1, k2, k3, k4', k5, pu, ik, ie]
      · have k4' : q'.s.u = false := by rw [k4, hd]; rfl
        simp [hk, hK, hd, hsq, hc, p1, p2, p3, p4, pu, ik, ie]
        refine ⟨tagTp4 _, tagSi4 _, q', by omega, ?_⟩
        simp [k1, k2, k3, k4', k5, pu, ik, ie]
    · cases hd : y.o.done
      · have k4' : q'.s.u = q.s.u := by rw [k4, hd]; rfl
        simp [hk, hK, hd, hsq, hc, p1, p2, p3, p4, pu, ik]
        refine ⟨tagTp4 _, tagSi4 _, q', by omega, ?_⟩
        simp [k1, k2, k3, k4', k5, pu, ik]
      · have k4' : q'.s.u = false := by rw [k4, hd]; rfl
        simp [hk, hK, hd, hsq, hc, p1, p2, p3, p4, pu, ik]
        refine ⟨tagTp4 _, tagSi4 _, q', by omega, ?_⟩
        simp [k1, k2, k3, k4', k5, pu, ik]
theorem ru4_c {l : List Inp} {y : Nod} {e : Int} {q q' : RI l} (hl : l.length ≤ 9223372036854775806) (h : Rnd l (l.getD q.k default) y e q q') (hs : y.o.send = true) (hkd : y.o.req.kind = 4) : vcRu4 l y e q := by
  unfold vcRu4 vcRu4_q4 vcRu4_q3 vcRu4_q2 vcRu4_q1 vcRu4_q5
  obtain ⟨hk, hc, ha, hst, hr, k1, k2, k3, k4, k5⟩ := h
  have hz : decide ((q.k : Int) < l.length) = true := by simp; omega
  have hw : IntKind.i64.wrap ((q.k : Int) + 1) = ((q.k + 1 : Nat) : Int) := by rw [wrap_i64 (by omega) (by omega)]; omega
  rw [Int.toNat_natCast]
  simp only [hz, hw]
  generalize l.getD q.k default = i at *
  have hK : StK q.s.c i y e true 4 := ⟨hst, hs, hkd⟩
  have hsq := hr.sq
  have hac := hr.a
  clear hr hst
  by_cases hx : i.kind = 1 ∧ e = 0
  · obtain ⟨ik, rfl⟩ := hx
    have hA : acc q.s.c i = true := ha.2 ⟨ik, rfl⟩
    have hb := hac ik rfl
    clear ha hac
    simp only [ruW, ruU, ruQ, hA, if_true, Bool.true_and] at k3 k4 k5 hsq
    cases hg : chg i.call.kind
    · have hg' : ¬ (i.call.kind = 1 ∨ i.call.kind = 3 ∨ i.call.kind = 5) := fun x => by rw [chg_iff.2 x] at hg; cases hg
      have g1 : ¬ i.call.kind = 1 := fun x => hg' (.inl x)
      have g3 : ¬ i.call.kind = 3 := fun x => hg' (.inr (.inl x))
      have g5 : ¬ i.call.kind = 5 := fun x => hg' (.inr (.inr x))
      simp only [hg, Bool.false_eq_true, if_false] at k4 k5 hsq
      cases hd : y.o.done
      · have k4' : q'.s.u = false := by rw [k4, hd]; rfl
        simp [hk, hK, hd, hsq, hc, ik, hb, g1, g3, g5]
        refine ⟨tagTp4 _, tagSi4 _, q', by omega, ?_⟩
        simp [k1, k2, k3, k4', k5, ik, hb, g1, g3, g5]
      · have k4' : q'.s.u = false := by rw [k4, hd]; rfl
        simp [hk, hK, hd, hsq, hc, ik, hb, g1, g3, g5]
        refine ⟨tagTp4 _, tagSi4 _, q', by omega, ?_⟩
        simp [k1, k2, k3, k4', k5, ik, hb, g1, g3, g5]
    · simp only [hg, if_true] at k4 k5 hsq
      rcases chg_iff.1 hg with g | g | g
      · cases hd : y.o.done
        · have k4' : q'.s.u = true := by rw [k4, hd]; rfl
          simp [hk, hK, hd, hsq, hc, ik, hb, g]
          refine ⟨tagTp4 _, tagSi4 _, q', by omega, ?_⟩
          simp [k1, k2, k3, k4', k5, ik, hb, g]
        · have k4' : q'.s.u = false := by rw [k4, hd]; rfl
          simp [hk, hK, hd, hsq, hc, ik, hb, g]
          refine ⟨tagTp4 _, tagSi4 _, q', by omega, ?_⟩
          simp [k1, k2, k3, k4', k5, ik, hb, g]
      · cases hd : y.o.done
        · have k4' : q'.s.u = true := by rw [k4, hd]; rfl
          simp [hk, hK, hd, hsq, hc, ik, hb, g]
          refine ⟨tagTp4 _, tagSi4 _, q', by omega, ?_⟩
          simp [k1, k2, k3, k4', k5, ik, hb, g]
        · have k4' : q'.s.u = false := by rw [k4, hd]; rfl
          simp [hk, hK, hd, hsq, hc, ik, hb, g]
          refine ⟨tagTp4 _, tagSi4 _, q', by omega, ?_⟩
          simp [k1, k2, k3, k4', k5, ik, hb, g]
      · cases hd : y.o.done
        · have k4' : q'.s.u = true := by rw [k4, hd]; rfl
          simp [hk, hK, hd, hsq, hc, ik, hb, g]
          refine ⟨tagTp4 _, tagSi4 _, q', by omega, ?_⟩
          simp [k1, k2, k3, k4', k5, ik, hb, g]
        · have k4' : q'.s.u = false := by rw [k4, hd]; rfl
          simp [hk, hK, hd, hsq, hc, ik, hb, g]
          refine ⟨tagTp4 _, tagSi4 _, q', by omega, ?_⟩
          simp [k1, k2, k3, k4', k5, ik, hb, g]
  · have hA : acc q.s.c i = false := by
      cases hA : acc q.s.c i
      · rfl
      · exact absurd (ha.1 hA) hx
    clear ha hac
    simp only [ruW, ruU, ruQ, hA, Bool.false_eq_true, if_false, Bool.false_and] at k3 k4 k5 hsq
    by_cases ik : i.kind = 1
    · have ie : ¬ e = 0 := fun x => hx ⟨ik, x⟩
      cases hd : y.o.done
      · have k4' : q'.s.u = q.s.u := by rw [k4, hd]; rfl
        simp [hk, hK, hd, hsq, hc, ik, ie]
        refine ⟨tagTp4 _, tagSi4 _, q', by omega, ?_⟩
        simp [k1, k2, k3, k4', k5, ik, ie]
      · have k4' : q'.s.u = false := by rw [k4, hd]; rfl
        simp [hk, hK, hd, hsq, hc, ik, ie]
        refine ⟨tagTp4 _, tagSi4 _, q', by omega, ?_⟩
        simp [k1, k2, k3, k4', k5, ik, ie]
    · cases hd : y.o.done
      · have k4' : q'.s.u = q.s.u := by rw [k4, hd]; rfl
        simp [hk, hK, hd, hsq, hc, ik]
        refine ⟨tagTp4 _, tagSi4 _, q', by omega, ?_⟩
        simp [k1, k2, k3, k4', k5, ik]
      · have k4' : q'.s.u = false := by rw [k4, hd]; rfl
        simp [hk, hK, hd, hsq, hc, ik]
        refine ⟨tagTp4 _, tagSi4 _, q', by omega, ?_⟩
        simp [k1, k2, k3, k4', k5, ik]
theorem ru5_c {l : List Inp} {y : Nod} {e : Int} {q q' : RI l} (hl : l.length ≤ 9223372036854775806) (h : Rnd l (l.getD q.k default) y e q q') (hs : y.o.send = true) (hkd : y.o.req.kind = 5) : vcRu5 l y e q := by
  unfold vcRu5 vcRu5_q2 vcRu5_q1 vcRu5_q3 vcRu5_q4
  obtain ⟨hk, hc, ha, hst, hr, k1, k2, k3, k4, k5⟩ := h
  have hz : decide ((q.k : Int) < l.length) = true := by simp; omega
  have hw : IntKind.i64.wrap ((q.k : Int) + 1) = ((q.k + 1 : Nat) : Int) := by rw [wrap_i64 (by omega) (by omega)]; omega
  rw [Int.toNat_natCast]
  simp only [hz, hw]
  generalize l.getD q.k default = i at *
  have hK : StK q.s.c i y e true 5 := ⟨hst, hs, hkd⟩
  have hsq := hr.sq
  have hac := hr.a
  obtain ⟨pu, p1, p2⟩ := hr.p5 hs hkd
  clear hr hst
  by_cases hx : i.kind = 1 ∧ e = 0
  · obtain ⟨ik, rfl⟩ := hx
    have hA : acc q.s.c i = true := ha.2 ⟨ik, rfl⟩
    have hb := hac ik rfl
    clear ha hac
    simp only [ruW, ruU, ruQ, hA, if_true, Bool.true_and] at k3 k4 k5 hsq pu p1
    cases hg : chg i.call.kind
    · rw [hg] at pu
      cases pu
    · simp only [hg, if_true] at k4 k5 hsq p1
      rcases chg_iff.1 hg with g | g | g
      · cases hd : y.o.done
        · have k4' : q'.s.u = true := by rw [k4, hd]; rfl
          simp [hk, hK, hd, hsq, hc, p1, p2, ik, hb, g]
          refine ⟨tagTp4 _, tagSi4 _, q', by omega, ?_⟩
          simp [k1, k2, k3, k4', k5, ik, hb, g]
        · have k4' : q'.s.u = false := by rw [k4, hd]; rfl
          simp [hk, hK, hd, hsq, hc, p1, p2, ik, hb, g]
          refine ⟨tagTp4 _, tagSi4 _, q', by omega, ?_⟩
          simp [k1, k2, k3, k4', k5, ik, hb, g]
      · cases hd : y.o.done
        · have k4' : q'.s.u = true := by rw [k4, hd]; rfl
          simp [hk, hK, hd, hsq, hc, p1, p2, ik, hb, g]
          refine ⟨tagTp4 _, tagSi4 _, q', by omega, ?_⟩
          simp [k1, k2, k3, k4', k5, ik, hb, g]
        · have k4' : q'.s.u = false := by rw [k4, hd]; rfl
          simp [hk, hK, hd, hsq, hc, p1, p2, ik, hb, g]
          refine ⟨tagTp4 _, tagSi4 _, q', by omega, ?_⟩
          simp [k1, k2, k3, k4', k5, ik, hb, g]
      · cases hd : y.o.done
        · have k4' : q'.s.u = true := by rw [k4, hd]; rfl
          simp [hk, hK, hd, hsq, hc, p1, p2, ik, hb, g]
          refine ⟨tagTp4 _, tagSi4 _, q', by omega, ?_⟩
          simp [k1, k2, k3, k4', k5, ik, hb, g]
        · have k4' : q'.s.u = false := by rw [k4, hd]; rfl
          simp [hk, hK, hd, hsq, hc, p1, p2, ik, hb, g]
          refine ⟨tagTp4 _, tagSi4 _, q', by omega, ?_⟩
          simp [k1, k2, k3, k4', k5, ik, hb, g]
  · have hA : acc q.s.c i = false := by
      cases hA : acc q.s.c i
      · rfl
      · exact absurd (ha.1 hA) hx
    clear ha hac
    simp only [ruW, ruU, ruQ, hA, Bool.false_eq_true, if_false, Bool.false_and] at k3 k4 k5 hsq pu p1
    by_cases ik : i.kind = 1
    · have ie : ¬ e = 0 := fun x => hx ⟨ik, x⟩
      cases hd : y.o.done
      · have k4' : q'.s.u = q.s.u := by rw [k4, hd]; rfl
        simp [hk, hK, hd, hsq, hc, p1, p2, pu, ik, ie]
        refine ⟨tagTp4 _, tagSi4 _, q', by omega, ?_⟩
        simp [k1, k2, k3, k4', k5, pu, ik, ie]
      · have k4' : q'.s.u = false := by rw [k4, hd]; rfl
        simp [hk, hK, hd, hsq, hc, p1, p2, pu, ik, ie]
        refine ⟨tagTp4 _, tagSi4 _, q', by omega, ?_⟩
        simp [k1, k2, k3, k4', k5, pu, ik, ie]
    · cases hd : y.o.done
      · have k4' : q'.s.u = q.s.u := by rw [k4, hd]; rfl
        simp [hk, hK, hd, hsq, hc, p1, p2, pu, ik]
        refine ⟨tagTp4 _, tagSi4 _, q', by omega, ?_⟩
        simp [k1, k2, k3, k4', k5, pu, ik]
      · have k4' : q'.s.u = false := by rw [k4, hd]; rfl
        simp [hk, hK, hd, hsq, hc, p1, p2, pu, ik]
        refine ⟨tagTp4 _, tagSi4 _, q', by omega, ?_⟩
        simp [k1, k2, k3, k4', k5, pu, ik]
theorem ru6_c {l : List Inp} {y : Nod} {e : Int} {q q' : RI l} (hl : l.length ≤ 9223372036854775806) (h : Rnd l (l.getD q.k default) y e q q') (hs : y.o.send = true) (hkd : y.o.req.kind = 6) : vcRu6 l y e q := by
  unfold vcRu6 vcRu6_q4 vcRu6_q3 vcRu6_q2 vcRu6_q1 vcRu6_q5
  obtain ⟨hk, hc, ha, hst, hr, k1, k2, k3, k4, k5⟩ := h
  have hz : decide ((q.k : Int) < l.length) = true := by simp; omega
  have hw : IntKind.i64.wrap ((q.k : Int) + 1) = ((q.k + 1 : Nat) : Int) := by rw [wrap_i64 (by omega) (by omega)]; omega
  rw [Int.toNat_natCast]
  simp only [hz, hw]
  generalize l.getD q.k default = i at *
  have hK : StK q.s.c i y e true 6 := ⟨hst, hs, hkd⟩
  have hsq := hr.sq
  have hac := hr.a
  clear hr hst
  by_cases hx : i.kind = 1 ∧ e = 0
  · obtain ⟨ik, rfl⟩ := hx
    have hA : acc q.s.c i = true := ha.2 ⟨ik, rfl⟩
    have hb := hac ik rfl
    clear ha hac
    simp only [ruW, ruU, ruQ, hA, if_true, Bool.true_and] at k3 k4 k5 hsq
    cases hg : chg i.call.kind
    · have hg' : ¬ (i.call.kind = 1 ∨ i.call.kind = 3 ∨ i.call.kind = 5) := fun x => by rw [chg_iff.2 x] at hg; cases hg
      have g1 : ¬ i.call.kind = 1 := fun x => hg' (.inl x)
      have g3 : ¬ i.call.kind = 3 := fun x => hg' (.inr (.inl x))
      have g5 : ¬ i.call.kind = 5 := fun x => hg' (.inr (.inr x))
      simp only [hg, Bool.false_eq_true, if_false] at k4 k5 hsq
      cases hd : y.o.done
      · have k4' : q'.s.u = false := by rw [k4, hd]; rfl
        simp [hk, hK, hd, hsq, hc, ik, hb, g1, g3, g5]
        refine ⟨tagTp4 _, tagSi4 _, q', by omega, ?_⟩
        simp [k1, k2, k3, k4', k5, ik, hb, g1, g3, g5]
      · have k4' : q'.s.u = false := by rw [k4, hd]; rfl
        simp [hk, hK, hd, hsq, hc, ik, hb, g1, g3, g5]
        refine ⟨tagTp4 _, tagSi4 _, q', by omega, ?_⟩
        simp [k1, k2, k3, k4', k5, ik, hb, g1, g3, g5]
    · simp only [hg, if_true] at k4 k5 hsq
      rcases chg_iff.1 hg with g | g | g
      · cases hd : y.o.done
        · have k4' : q'.s.u = true := by rw [k4, hd]; rfl
          simp [hk, hK, hd, hsq, hc, ik, hb, g]
          refine ⟨tagTp4 _, tagSi4 _, q', by omega, ?_⟩
          simp [k1, k2, k3, k4', k5, ik, hb, g]
        · have k4' : q'.s.u = false := by rw [k4, hd]; rfl
          simp [hk, hK, hd, hsq, hc, ik, hb, g]
          refine ⟨tagTp4 _, tagSi4 _, q', by omega, ?_⟩
          simp [k1, k2, k3, k4', k5, ik, hb, g]
      · cases hd : y.o.done
        · have k4' : q'.s.u = true := by rw [k4, hd]; rfl
          simp [hk, hK, hd, hsq, hc, ik, hb, g]
          refine ⟨tagTp4 _, tagSi4 _, q', by omega, ?_⟩
          simp [k1, k2, k3, k4', k5, ik, hb, g]
        · have k4' : q'.s.u = false := by rw [k4, hd]; rfl
          simp [hk, hK, hd, hsq, hc, ik, hb, g]
          refine ⟨tagTp4 _, tagSi4 _, q', by omega, ?_⟩
          simp [k1, k2, k3, k4', k5, ik, hb, g]
      · cases hd : y.o.done
        · have k4' : q'.s.u = true := by rw [k4, hd]; rfl
          simp [hk, hK, hd, hsq, hc, ik, hb, g]
          refine ⟨tagTp4 _, tagSi4 _, q', by omega, ?_⟩
          simp [k1, k2, k3, k4', k5, ik, hb, g]
        · have k4' : q'.s.u = false := by rw [k4, hd]; rfl
          simp [hk, hK, hd, hsq, hc, ik, hb, g]
          refine ⟨tagTp4 _, tagSi4 _, q', by omega, ?_⟩
          simp [k1, k2, k3, k4', k5, ik, hb, g]
  · have hA : acc q.s.c i = false := by
      cases hA : acc q.s.c i
      · rfl
      · exact absurd (ha.1 hA) hx
    clear ha hac
    simp only [ruW, ruU, ruQ, hA, Bool.false_eq_true, if_false, Bool.false_and] at k3 k4 k5 hsq
    by_cases ik : i.kind = 1
    · have ie : ¬ e = 0 := fun x => hx ⟨ik, x⟩
      cases hd : y.o.done
      · have k4' : q'.s.u = q.s.u := by rw [k4, hd]; rfl
        simp [hk, hK, hd, hsq, hc, ik, ie]
        refine ⟨tagTp4 _, tagSi4 _, q', by omega, ?_⟩
        simp [k1, k2, k3, k4', k5, ik, ie]
      · have k4' : q'.s.u = false := by rw [k4, hd]; rfl
        simp [hk, hK, hd, hsq, hc, ik, ie]
        refine ⟨tagTp4 _, tagSi4 _, q', by omega, ?_⟩
        simp [k1, k2, k3, k4', k5, ik, ie]
    · cases hd : y.o.done
      · have k4' : q'.s.u = q.s.u := by rw [k4, hd]; rfl
        simp [hk, hK, hd, hsq, hc, ik]
        refine ⟨tagTp4 _, tagSi4 _, q', by omega, ?_⟩
        simp [k1, k2, k3, k4', k5, ik]
      · have k4' : q'.s.u = false := by rw [k4, hd]; rfl
        simp [hk, hK, hd, hsq, hc, ik]
        refine ⟨tagTp4 _, tagSi4 _, q', by omega, ?_⟩
        simp [k1, k2, k3, k4', k5, ik]
end Go.Proofs.YtdpbogaldcpfeaaDoor.C

/-! A client's numbers: the law. -/
--fold
namespace Go.Proofs.YtdpbogaldcpfeaaDoor.C
open Go.Ax
set_option maxRecDepth 1000000
noncomputable def ruHt (l : List Inp) (q : RI l) : HintsT Tryd.prog := if q.k < l.length then ruH q.s.c (l.getD q.k default) (stepN q.s.c (l.getD q.k default)) (stepE q.s.c (l.getD q.k default)) (stepN q.s.c (l.getD q.k default)).o.send (stepN q.s.c (l.getD q.k default)).o.req.kind else ruH q.s.c (l.getD q.k default) default 0 false 0
theorem ru_end_c {l : List Inp} {q : RI l} (h : ¬ q.k < l.length) : vcRu0 l default 0 q 0 := by
  unfold vcRu0 vcRu0_q4 vcRu0_q3 vcRu0_q2 vcRu0_q1 vcRu0_q5
  have hz : decide ((q.k : Int) < l.length) = false := by simp; omega
  simp only [hz]
  simp
theorem ru_rnd {l : List Inp} {q : RI l} {i : Inp} (hi : i = l.getD q.k default) (hk : q.k < l.length) (hx : InpOk i) (hst : StG q.s.c i (stepN q.s.c i) (stepE q.s.c i)) : ∃ q' : RI l, Rnd l i (stepN q.s.c i) (stepE q.s.c i) q q' := by
  obtain ⟨n1, n2⟩ := ru_next q.e hx
  exact ⟨⟨q.k + 1, ruN q.s i, hk, n2⟩, ⟨hk, hx.c, by unfold acc; simp, hst, n1, rfl, rfl, rfl, rfl, rfl⟩⟩
theorem six {k : Int} (h1 : 1 ≤ k) (h2 : k ≤ 6) (n1 : ¬ k = 1) (n2 : ¬ k = 2) (n3 : ¬ k = 3) (n4 : ¬ k = 4) (n5 : ¬ k = 5) : k = 6 := by omega
structure RuGoal (l : List Inp) (q : RI l) (y : Nod) (e : Int) (s : Bool) (kd : Int) : Prop where
  g : loopVC Tryd.prog (ruH q.s.c (l.getD q.k default) y e s kd) 4 9 (fun q => l.length - q.k) (ruT l) (fun q => ruM q.s) [0, 1, 2, 3, 4, 5, 6, 7, 8, 9, 10, 11, 12] (fun _ => .ret ()) ruS q
theorem ru0_g {l : List Inp} {y : Nod} {e : Int} {q q' : RI l} (hl : l.length ≤ 9223372036854775806) (h : Rnd l (l.getD q.k default) y e q q') (hs : y.o.send = false) : RuGoal l q y e y.o.send y.o.req.kind := by
  rw [hs]
  exact ⟨(vcRu0_eq l y e q y.o.req.kind).mpr (ru0_c hl h hs)⟩
theorem ru1_g {l : List Inp} {y : Nod} {e : Int} {q q' : RI l} (hl : l.length ≤ 9223372036854775806) (h : Rnd l (l.getD q.k default) y e q q') (hs : y.o.send = true) (hd : y.o.req.kind = 1) : RuGoal l q y e y.o.send y.o.req.kind := by
  rw [hs, hd]
  exact ⟨(vcRu1_eq l y e q).mpr (ru1_c hl h hs hd)⟩
theorem ru2_g {l : List Inp} {y : Nod} {e : Int} {q q' : RI l} (hl : l.length ≤ 9223372036854775806) (h : Rnd l (l.getD q.k default) y e q q') (hs : y.o.send = true) (hd : y.o.req.kind = 2) : RuGoal l q y e y.o.send y.o.req.kind := by
  rw [hs, hd]
  exact ⟨(vcRu2_eq l y e q).mpr (ru2_c hl h hs hd)⟩
theorem ru3_g {l : List Inp} {y : Nod} {e : Int} {q q' : RI l} (hl : l.length ≤ 9223372036854775806) (h : Rnd l (l.getD q.k default) y e q q') (hs : y.o.send = true) (hd : y.o.req.kind = 3) : RuGoal l q y e y.o.send y.o.req.kind := by
  rw [hs, hd]
  exact ⟨(vcRu3_eq l y e q).mpr (ru3_c hl h hs hd)⟩
theorem ru4_g {l : List Inp} {y : Nod} {e : Int} {q q' : RI l} (hl : l.length ≤ 9223372036854775806) (h : Rnd l (l.getD q.k default) y e q q') (hs : y.o.send = true) (hd : y.o.req.kind = 4) : RuGoal l q y e y.o.send y.o.req.kind := by
  rw [hs, hd]
  exact ⟨(vcRu4_eq l y e q).mpr (ru4_c hl h hs hd)⟩
theorem ru5_g {l : List Inp} {y : Nod} {e : Int} {q q' : RI l} (hl : l.length ≤ 9223372036854775806) (h : Rnd l (l.getD q.k default) y e q q') (hs : y.o.send = true) (hd : y.o.req.kind = 5) : RuGoal l q y e y.o.send y.o.req.kind := by
  rw [hs, hd]
  exact ⟨(vcRu5_eq l y e q).mpr (ru5_c hl h hs hd)⟩
theorem ru6_g {l : List Inp} {y : Nod} {e : Int} {q q' : RI l} (hl : l.length ≤ 9223372036854775806) (h : Rnd l (l.getD q.k default) y e q q') (hs : y.o.send = true) (hd : y.o.req.kind = 6) : RuGoal l q y e y.o.send y.o.req.kind := by
  rw [hs, hd]
  exact ⟨(vcRu6_eq l y e q).mpr (ru6_c hl h hs hd)⟩
theorem ru_g {l : List Inp} {y : Nod} {e : Int} {q q' : RI l} (hl : l.length ≤ 9223372036854775806) (h : Rnd l (l.getD q.k default) y e q q') : RuGoal l q y e y.o.send y.o.req.kind := by
  by_cases hs : y.o.send = true
  · by_cases h1 : y.o.req.kind = 1
    · exact ru1_g hl h hs h1
    · by_cases h2 : y.o.req.kind = 2
      · exact ru2_g hl h hs h2
      · by_cases h3 : y.o.req.kind = 3
        · exact ru3_g hl h hs h3
        · by_cases h4 : y.o.req.kind = 4
          · exact ru4_g hl h hs h4
          · by_cases h5 : y.o.req.kind = 5
            · exact ru5_g hl h hs h5
            · exact ru6_g hl h hs (six (h.r.kq hs).1 (h.r.kq hs).2 h1 h2 h3 h4 h5)
  · exact ru0_g hl h (Bool.eq_false_iff.2 hs)
theorem ru_loop (l : List Inp) (hl : (l.length + 3) * 40 ≤ 140737488355328) (h : ∀ x ∈ l, InpOk x) (q : RI l) : LoopOk Tryd.prog 4 9 (loopAt Tryd.prog 4 9) ⟨ruT l q, ruM q.s, []⟩ (T.map (lout [0, 1, 2, 3, 4, 5, 6, 7, 8, 9, 10, 11, 12] ruS) (.ret ())) := by
  have hll : l.length ≤ 9223372036854775806 := by omega
  refine loop_vcH (P := Tryd.prog) (f := 4) (k := 9) (ι := RI l) (μ := fun q => l.length - q.k) (ht := ruHt l) (stT := ruT l) (stM := fun q => ruM q.s) (X := [0, 1, 2, 3, 4, 5, 6, 7, 8, 9, 10, 11, 12]) (o := fun _ => .ret ()) (S := ruS) Tryd.mixed (fun _ => rfl) (fun q => ?_) q
  by_cases hk : q.k < l.length
  · have e1 : ruHt l q = ruH q.s.c (l.getD q.k default) (stepN q.s.c (l.getD q.k default)) (stepE q.s.c (l.getD q.k default)) (stepN q.s.c (l.getD q.k default)).o.send (stepN q.s.c (l.getD q.k default)).o.req.kind := if_pos hk
    rw [e1]
    have hx := h (l.getD q.k default) (by simp [hk])
    have b1 : (q.k + 2) * 40 ≤ 140737488355328 := Nat.le_trans (Nat.mul_le_mul_right 40 (Nat.add_le_add (Nat.le_of_lt hk) (by decide))) hl
    have hst := stg_of q.e.iv hx b1
    obtain ⟨q', hR⟩ := ru_rnd rfl hk hx hst
    exact (ru_g hll hR).g
  · have e1 : ruHt l q = ruH q.s.c (l.getD q.k default) default 0 false 0 := if_neg hk
    rw [e1, vcRu0_eq l default 0 q 0]
    exact ru_end_c hk
noncomputable def rlH (id : Int) (s : List Int) (l : List Inp) (c : Clt) (e : Int) (p : RI l) : HintsT Tryd.prog := hh _ (lp1 4 9 (jobOf (ruT l) (fun q => ruM q.s) [0, 1, 2, 3, 4, 5, 6, 7, 8, 9, 10, 11, 12] (fun _ => .ret ()) ruS p) noLp) (cs1 4 1 0 hdC (cs1 4 2 2 (nwG id true s 9 c e) noCs)) noOp
def vcRl (id : Int) (s : List Int) (l : List Inp) (c : Clt) (e : Int) (p : RI l) : Prop :=
  True ∧ True ∧ (id = id ∧ (true = true ∧ List.length s = List.length s ∧ contLe (List.length s) (1 : Nat) (cellsOf' encI s) (cellsOf' encI s)) ∧ (9 : Int) = (9 : Int) ∧ True) ∧ True ∧ NewQ id s (9 : Int) c e ∧ (false = true → true = true ∧ True) ∧ (false = false → ((e != (0 : Int)) = true → true = true ∧ True) ∧ ((e != (0 : Int)) = false → (((true = true ∧ List.length l = List.length l ∧ contLe (List.length l) (32 : Nat) (cellsOf' encIn l) (cellsOf' encIn l)) ∧ ((0 : Nat) = (0 : Nat) ∧ (0 : Nat) = (0 : Nat)) ∧ (0 : Int) = p.s.q ∧ false = p.s.u ∧ ((0 : Nat) = (0 : Nat) ∧ (0 : Nat) = (0 : Nat)) ∧ (0 : Int) = (↑p.k : Int) ∧ True) ∧ ((fdC1 c p.s.c) ∧ ((0 : Int) = p.s.now.kind ∧ { data := #[] : ByteArray } = p.s.now.topic ∧ { data := #[] : ByteArray } = p.s.now.key ∧ List.length p.s.now.val = (0 : Nat) ∧ (0 : Int) = p.s.now.off ∧ (0 : Int) = p.s.now.most ∧ { data := #[] : ByteArray } = p.s.now.name ∧ (0 : Int) = p.s.now.adm.kind ∧ (0 : Int) = p.s.now.adm.prod ∧ (0 : Int) = p.s.now.adm.seq ∧ { data := #[] : ByteArray } = p.s.now.adm.topic ∧ List.length p.s.now.adm.nodes = (0 : Nat) ∧ (0 : Int) = p.s.now.adm.group ∧ (0 : Int) = p.s.now.adm.other ∧ { data := #[] : ByteArray } = p.s.now.adm.key ∧ (0 : Int) = p.s.now.adm.fr ∧ (0 : Int) = p.s.now.adm.to ∧ (0 : Int) = p.s.now.adm.plan ∧ (0 : Int) = p.s.now.adm.step ∧ True) ∧ True) ∧ true = true) ∧ LoopOk Tryd.prog (4 : Nat) (9 : Nat) (loopAt Tryd.prog (4 : Nat) (9 : Nat)) { t := ruT l p, m := ruM p.s, mv := [] : St } (T.map (lout [(0 : Nat), (1 : Nat), (2 : Nat), (3 : Nat), (4 : Nat), (5 : Nat), (6 : Nat), (7 : Nat), (8 : Nat), (9 : Nat), (10 : Nat), (11 : Nat), (12 : Nat)] ruS) ((fun (x : RI l) => T.ret ()) p)) ∧ true = true ∧ True))
set_option maxRecDepth 1000000 in
theorem vcRl_eq (id : Int) (s : List Int) (l : List Inp) (c : Clt) (e : Int) (p : RI l) : (ctrVC Tryd.prog (rlH id s l c e p) 4 [.y (.int .i64 id), encIs true s, encInsR l] [] (boolR true)) = vcRl id s l c e p := by kernel_rfl
structure RlOk (s : List Int) (l : List Inp) : Prop where
  sn : s.length * 8 ≤ 140737488355328
  ln : (l.length + 3) * 40 ≤ 140737488355328
  hi : ∀ x ∈ l, InpOk x
theorem newK_g {id p : Int} {l : List Int} (h : newE id l p = 0) : newK id l p = newQ id l p := by
  unfold newE at h
  unfold newK
  cases hb : newB id l p
  · simp [hb] at h
  · rfl
theorem ru_first {c : Clt} (hi : Inv 0 c) (hp : c.prod = 9) (hs : c.seq = 0) (hb : c.busy = false) : RuI 0 ⟨c, default, false, 0⟩ :=
  ⟨hi, hp, hs, (fun h => by rw [show (⟨c, default, false, 0⟩ : RuS).c.busy = false from hb] at h; cases h), fun _ => rfl, (fun h => by rw [show (⟨c, default, false, 0⟩ : RuS).c.busy = false from hb] at h; cases h)⟩
def ruCl : Clt := { (default : Clt) with servers := [1], prod := 9 }
def ru00 (l : List Inp) : RI l := ⟨0, ⟨ruCl, default, false, 0⟩, Nat.zero_le _, ru_first ⟨by decide, by decide, by decide, by decide, by decide, calOk_default, fun x hx => by cases hx⟩ rfl rfl rfl⟩
theorem rl_c (id : Int) (s : List Int) (l : List Inp) (h : RlOk s l) : (boolR true).Sat (ACall' Tryd.prog 4 [.y (.int .i64 id), encIs true s, encInsR l] []) := by
  have q : NewQ id s 9 (newK id s 9) (newE id s 9) := ⟨rfl, rfl, h.sn⟩
  by_cases he : newE id s 9 = 0
  · have hi := inv_new (p := 9) h.sn he
    have hf := newK_g (p := 9) he
    have hb : (newK id s 9).busy = false := by rw [hf]; rfl
    have hp : (newK id s 9).prod = 9 := by rw [hf]; rfl
    have hq : (newK id s 9).seq = 0 := by rw [hf]; rfl
    rw [he] at q
    generalize newK id s 9 = c at *
    have hr := ru_first hi hp hq hb
    have lp := ru_loop l h.ln h.hi ⟨0, ⟨c, default, false, 0⟩, Nat.zero_le _, hr⟩
    refine ctr_vc (ht := rlH id s l c 0 ⟨0, ⟨c, default, false, 0⟩, Nat.zero_le _, hr⟩) Tryd.mixed rfl ?_
    rw [vcRl_eq id s l c 0 ⟨0, ⟨c, default, false, 0⟩, Nat.zero_le _, hr⟩]
    unfold vcRl
    generalize hpp : (⟨0, ⟨c, default, false, 0⟩, Nat.zero_le _, hr⟩ : RI l) = p at *
    have k1 : p.k = 0 := by rw [← hpp]
    have k2 : p.s = ⟨c, default, false, 0⟩ := by rw [← hpp]
    have k3 : p.s.c = c := by rw [k2]
    have k4 : p.s.now = default := by rw [k2]
    have k5 : p.s.u = false := by rw [k2]
    have k6 : p.s.q = 0 := by rw [k2]
    simp [q, lp, he, k1, k3, k4, k5, k6]
    repeat' apply And.intro
    all_goals rfl
  · refine ctr_vc (ht := rlH id s l (newK id s 9) (newE id s 9) (ru00 l)) Tryd.mixed rfl ?_
    rw [vcRl_eq id s l (newK id s 9) (newE id s 9) (ru00 l)]
    unfold vcRl
    generalize ru00 l = p at *
    generalize newK id s 9 = c at *
    simp [q, he]
end Go.Proofs.YtdpbogaldcpfeaaDoor.C

/-! A client's numbers: from the statement to the law. -/
namespace Go.Proofs.YtdpbogaldcpfeaaDoor.C
open Go.Ax Go.Shelf Go.RowKit Go.ChangeShapes Go.WideShapes Go.ChangeAt
set_option maxRecDepth 1000000
theorem rule_ok {s : List Int} {l : List Inp} (hs : s.length * 8 ≤ 140737488351232) (hl : l.length * 360 ≤ 140737488351232 ∧ ∀ x ∈ l, InpOk x) : RlOk s l := ⟨by omega, by have := hl.1; omega, hl.2⟩
def clientRule_laidL : List (String × DataW Unit) := Rows.clientRuleRow.laid
noncomputable def clientRule_layW (os : Os) : World := World.laidAll Tryd.prog os clientRule_laidL
theorem clientRule_lay_met (os : Os) (args : Array Value) : laidMetH Tryd.prog clientRule_laidL ((clientRule_layW os).forCall (fun _ _ => 0) ⟨#[], args, []⟩).memory := by
  have e : ∀ w, laidMetH Tryd.prog clientRule_laidL w = laidMet Tryd.prog clientRule_laidL w := fun w => by kernel_rfl
  rw [e]
  exact laidMet_laidAll args (by kernel_rfl) (by kernel_rfl)
theorem clientRule_lifted (os : Os) (started : os.Started) (K : Type) (enc : TypeId × Value → K) :
    ReturnsInHanded {} Tryd.checked os 4 .any (fun w args => (Rows.clientRuleSpec.pre enc Tryd.prog Tryd.f4 [] false w args ∧ laidMetH Tryd.prog clientRule_laidL w) ∧ sizedMet enc Tryd.prog Tryd.f4 (OpenSpec.ofChange Rows.clientRuleSpec) false w args)
      (Rows.clientRuleSpec.post enc Tryd.prog Tryd.f4 false true false false) := by
  refine returnsInHanded_of_change_and (C := Tryd.checked) (X := fun w _ => laidMetH Tryd.prog clientRule_laidL w) (fun _ _ _ hh h => h.of_heap hh) Tryd.own started (by kernel_rfl) Tryd.func4
    (ChangeSpec.witness_at (enc := enc) (C := Tryd.checked) (os := os) (X := fun w _ => laidMetH Tryd.prog clientRule_laidL w) false (clientRule_layW os) #[.int .i64 0, .slice Option.none 0 0, .slice Option.none 0 0] 8 rfl (by kernel_rfl) (by kernel_rfl) (by kernel_rfl) (by kernel_rfl) (by kernel_rfl) (clientRule_lay_met os _)) ?_
  intro W base args ds gs before hval0 hW hcnd hsz hL _
  have hps : Tryd.f4.params.toList = [3, 22, 41] := by kernel_rfl
  obtain ⟨p, q, hA, hV, hbef, hfz, hnd⟩ := id hW
  rw [hps] at hA hsz
  have ⟨hr, hwf⟩ := lift_all [.int .i64, .sl (.int .i64), .sl shInp] (by kernel_rfl) hA
  obtain ⟨v1, v2, v3, d1, d2, d3, _, _, _, e1, rfl, _, _, _, _⟩ := trodAll_three hA
  obtain ⟨_, _, g1, w1, _, _, g2, w2, _, _, g3, w3, _⟩ := hwf
  obtain ⟨rfl, q1⟩ := List.cons.inj g1
  subst q1
  obtain ⟨rfl, q2⟩ := List.cons.inj g2
  subst q2
  obtain ⟨rfl, _⟩ := List.cons.inj g3
  subst e1
  obtain ⟨h1, hs1⟩ := weights_cons (P := Tryd.prog) (t := 3) (d := d1) hsz
  obtain ⟨h2, hs2⟩ := weights_cons (P := Tryd.prog) (t := 22) (d := d2) hs1
  obtain ⟨h3, hs3⟩ := weights_cons (P := Tryd.prog) (t := 41) (d := d3) hs2
  have r1 := hr.1
  rw [encI_ok w1] at r1
  obtain ⟨n1, rfl⟩ := okWide_int (show Tryd.prog.underlying 3 = some (.int .i64) by kernel_rfl) (hval0 0 _ _ (by kernel_rfl) rfl)
  obtain ⟨_, _, er, r1, _⟩ := r1
  cases er
  have r2 := hr.2.1
  rw [slAV_eq] at r2
  obtain ⟨s2, n2, c2, rfl⟩ := okWide_slice undIs (hval0 1 _ _ (by kernel_rfl) rfl)
  obtain ⟨_, _, er, r2, _⟩ := r2
  cases er
  have r2 := relIs w2 r2
  have r3 := hr.2.2.1
  rw [slAV_eq] at r3
  obtain ⟨s3, n3, c3, rfl⟩ := okWide_slice undInps (hval0 2 _ _ (by kernel_rfl) rfl)
  obtain ⟨_, _, er, r3, _⟩ := r3
  cases er
  have r3 := relInps w3 r3
  refine open_calls (call_of (rl_c _ _ _ (rule_ok (is_sized h2) (inps_sized w3 h3)))) (t := 4) (ds := [d1, d2, d3]) ⟨_, _, rfl, r1, _, _, rfl, r2, _, _, rfl, r3, rfl⟩ (by kernel_rfl) underBool rfl rfl Tryd.laidOut Tryd.mapsRowed Tryd.slicesOk (by rw [hps]; intro t ht; simp only [List.mem_cons, List.not_mem_nil, or_false] at ht; rcases ht with rfl | rfl | rfl <;> exact of_decide_eq_true (by kernel_rfl)) hW
theorem clientRule_holds : Rows.ClientRuleSaid :=
  OpenClaim.holds_of_wide 4 Tryd.f4 rfl rfl rfl rfl rfl rfl rfl ⟨rfl, rfl, rfl, rfl, rfl⟩ rfl rfl rfl rfl rfl (by kernel_rfl) Tryd.func4 (by kernel_rfl)
    (of_decide_eq_true (by kernel_rfl)) (by unfold Func.isWrapper; first | (rw [if_pos (by decide +kernel)]; kernel_rfl) | (rw [if_neg (by decide +kernel)]; exact ⟨rfl, rfl⟩))
    (fun os started H enc _ => clientRule_lifted os started H enc)
theorem clientRule_said : Rows.ClientRuleCardSaid :=
  Claim7.holds_tied_plain_at .later [] [.data, .pinned] true (true, "d686f48c37c53b8b17edd79b07371d72aa1eab26c4c3d22259758825fe5fa4ef") false
    clientRule_holds (fun _ h => by cases h) (by kernel_rfl) (fun _ h => by cases h) clientRule_row_tie rfl ⟨rfl, rfl⟩ (by kernel_rfl) rfl
    (fun f fn hf hfn => by
      obtain rfl : f = 4 := Option.some.inj ((show Tryd.prog.funcNamed "gazette/gazettelaw21.ClientRule" = some 4 by kernel_rfl).symm.trans hf) |>.symm
      obtain rfl : fn = Tryd.f4 := (Option.some.inj (Tryd.func4.symm.trans hfn)).symm
      exact ⟨by kernel_rfl, fun j t ht => by
        rw [show Tryd.f4.params = #[3, 22, 41] by kernel_rfl] at ht
        have h3 : t = 3 ∨ t = 22 ∨ t = 41 := by
          rcases j with _ | _ | _ | j
          · exact Or.inl (by simpa using ht.symm)
          · exact Or.inr (Or.inl (by simpa using ht.symm))
          · exact Or.inr (Or.inr ((by simpa using ht.symm)))
          · simp at ht
        rcases h3 with rfl | rfl | rfl
        · exact (show Tryd.prog.wantsStandIn 3 = false by kernel_rfl)
        · exact (show Tryd.prog.wantsStandIn 22 = false by kernel_rfl)
        · exact (show Tryd.prog.wantsStandIn 41 = false by kernel_rfl)⟩)
    (by kernel_rfl)
end Go.Proofs.YtdpbogaldcpfeaaDoor.C
namespace Go.Proofs.YtdpbogaldcpfeaaDoor
theorem rule_said : Rows.ClientRuleCardSaid := C.clientRule_said
end Go.Proofs.YtdpbogaldcpfeaaDoor
