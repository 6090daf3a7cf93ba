/- PROVED: ClientEnds -/
import Derived.Test.YtdpbogaldcpfeaaDoorW7
set_option linter.unusedVariables false
set_option linter.unusedSimpArgs false
set_option linter.unusedSectionVars false
/-! A call ends: what a step does to it. -/
namespace Go.Proofs.YtdpbogaldcpfeaaDoor.C
open Go.Ax
structure Way (c : Clt) : Prop where
  b : c.busy = true
  t1 : 1 ≤ c.tries
  t2 : c.tries ≤ 24
  w0 : 0 ≤ c.waited
  w1 : c.waited ≤ 11
def sn (y : Nod) : Int := if y.o.send = true then 1 else 0
def Nx (c : Clt) (d : Int) (y : Nod) : Prop :=
  (y.o.done = true ∧ y.c.busy = false ∧ y.o.send = false) ∨
  (y.o.done = false ∧ y.c.busy = true ∧ y.c.tries = c.tries + sn y ∧ y.c.tries ≤ 24 ∧ 0 ≤ y.c.waited ∧ y.c.waited ≤ 11 ∧ phi y.c + d ≤ phi c)
theorem nx_end {c : Clt} {d : Int} {z : Nod} {r : Rep} : Nx c d (endN z r) := .inl ⟨rfl, rfl, rfl⟩
theorem phi_lo {c : Clt} (h : Way c) : (24 - c.tries) * 13 + 1 ≤ phi c := by
  have := h.w1
  unfold phi
  split <;> omega
theorem nx_send {c : Clt} {z : Nod} (h : Way c) (ht : z.c.tries = c.tries) (hb : z.c.busy = true) : Nx c 1 (sendN z) := by
  have h1 := h.t1
  have h2 := h.t2
  have hp := phi_lo h
  have key : ∀ y : Nod, ¬ 24 ≤ z.c.tries → y.o.done = false → y.o.send = true → y.c.busy = true → y.c.tries = IntKind.i64.wrap (z.c.tries + 1) → y.c.waited = 0 → y.c.again = false → Nx c 1 y := by
    intro y c0 q1 q2 q3 q4 q5 q6
    rw [wrap_i64 (by omega) (by omega), ht] at q4
    have e : sn y = 1 := by unfold sn; rw [if_pos q2]
    refine .inr ⟨q1, q3, by rw [q4, e], by omega, by omega, by omega, ?_⟩
    unfold phi
    rw [q6, q5, q4]
    simp only [Bool.false_eq_true, if_false]
    unfold phi at hp
    omega
  unfold sendN
  split
  · exact nx_end
  · rename_i c0
    split
    · exact key _ c0 rfl rfl hb rfl rfl rfl
    · split
      · exact key _ c0 rfl rfl hb rfl rfl rfl
      · exact key _ c0 rfl rfl hb rfl rfl rfl
theorem Nx.down {c : Clt} {y : Nod} (h : Nx c 1 y) : Nx c 0 y := by
  rcases h with h | ⟨h1, h2, h3, h4, h5, h6, h7⟩
  · exact .inl h
  · exact .inr ⟨h1, h2, h3, h4, h5, h6, by omega⟩
theorem nx_later {c : Clt} {z : Nod} (h : Way c) (ht : z.c.tries = c.tries) (hb : z.c.busy = true) (ho : z.o = default) : Nx c 0 (laterN z) := by
  have h2 := h.t2
  have hp := phi_lo h
  refine .inr ⟨by show z.o.done = false; rw [ho]; rfl, hb, ?_, by show z.c.tries ≤ 24; omega, Int.le_refl 0, by show (0 : Int) ≤ 11; omega, ?_⟩
  · have : sn (laterN z) = 0 := by
      unfold sn
      rw [if_neg]
      show ¬ z.o.send = true
      rw [ho]
      exact Bool.false_ne_true
    rw [this]
    show z.c.tries = _
    omega
  · have : phi (laterN z).c = (24 - z.c.tries) * 13 + 1 := by
      unfold phi laterN
      simp
    rw [this, ht]
    omega
theorem nx_same {c : Clt} (h : Way c) : Nx c 0 ⟨c, default⟩ := by
  refine .inr ⟨rfl, h.b, ?_, h.t2, h.w0, h.w1, by show phi c + 0 ≤ phi c; omega⟩
  have : sn ⟨c, default⟩ = 0 := rfl
  rw [this]
  show c.tries = _
  omega
theorem finL_f (x : Nod) (r : Rep) : (finL x r).c.tries = x.c.tries ∧ (finL x r).c.busy = x.c.busy ∧ (finL x r).o = x.o := by
  unfold finL
  split <;> exact ⟨rfl, rfl, rfl⟩
theorem taken_f (x : Nod) : (taken x).c.tries = x.c.tries ∧ (taken x).c.busy = x.c.busy ∧ (taken x).o = x.o := by
  unfold taken
  split <;> exact ⟨rfl, rfl, rfl⟩
theorem nx_gone {c : Clt} (h : Way c) : Nx c 0 (goneN ⟨c, default⟩) := by
  obtain ⟨h1, h2, h3⟩ := taken_f ⟨c, default⟩
  exact nx_later h h1 (h2.trans h.b) h3
theorem nx_fin {c : Clt} (h : Way c) (r : Rep) : Nx c 0 (finN ⟨c, default⟩ r) := by
  obtain ⟨h1, h2, h3⟩ := finL_f ⟨c, default⟩ r
  unfold finN
  split
  · exact nx_end
  · split
    · exact (nx_send h h1 (h2.trans h.b)).down
    · exact nx_later h h1 (h2.trans h.b) h3
theorem nx_ans {c : Clt} (h : Way c) (r : Rep) : Nx c 0 (ansN ⟨c, default⟩ r) := by
  unfold ansN
  split
  · exact nx_fin h r
  · split
    · split
      · exact (nx_send h rfl h.b).down
      · exact nx_later h rfl h.b rfl
    · split
      · split
        · exact nx_end
        · exact nx_gone h
      · split
        · exact nx_gone h
        · split
          · split
            · exact nx_end
            · exact nx_later h rfl h.b rfl
          · exact nx_end
theorem nx_rep {c : Clt} (h : Way c) (r : Rep) : Nx c 0 (stepN c ⟨2, default, r⟩) := by
  have e : stepN c ⟨2, default, r⟩ = herN ⟨c, default⟩ r := by simp [stepN]
  rw [e]
  unfold herN
  split
  · exact nx_ans h r
  · exact nx_same h
theorem nx_tick {c : Clt} (h : Way c) : Nx c 1 (stepN c ⟨3, default, default⟩) := by
  have e : stepN c ⟨3, default, default⟩ = ticN ⟨c, default⟩ := by simp [stepN]
  rw [e]
  have hb := h.b
  have h1 := h.w0
  have h2 := h.w1
  unfold ticN
  split
  · rename_i hn
    have hn : c.busy = false := hn
    rw [hb] at hn
    cases hn
  · split
    · exact nx_send h rfl hb
    · rename_i hag
      have hag : ¬ c.again = true := hag
      split
      · rename_i hw
        have hw : IntKind.i64.wrap (c.waited + 1) < 12 := hw
        have hw2 : IntKind.i64.wrap (c.waited + 1) = c.waited + 1 := wrap_i64 (by omega) (by omega)
        have e0 : sn (wt1 ⟨c, default⟩) = 0 := rfl
        have e1 : (wt1 ⟨c, default⟩).c.tries = c.tries := rfl
        have e2 : (wt1 ⟨c, default⟩).c.waited = c.waited + 1 := hw2
        refine .inr ⟨rfl, hb, by rw [e0, e1]; omega, h.t2, by rw [e2]; omega, by rw [e2]; omega, ?_⟩
        unfold phi
        rw [e1, e2]
        have e3 : (wt1 ⟨c, default⟩).c.again = c.again := rfl
        rw [e3]
        simp only [if_neg hag]
        omega
      · split
        · exact nx_end
        · exact nx_send h rfl hb
/-! a round -/
def cnt (n : Int) (y : Nod) : Int := if y.o.send = true then IntKind.i64.wrap (n + 1) else n
theorem EndI.way {m i : Nat} {s : Run} (h : EndI m i s) : Way s.c := ⟨h.b, h.t1, h.t2, h.w0, h.w1⟩
structure EndF (s : Run) : Prop where
  n : s.n ≤ 24
  b : s.c.busy = false
theorem nx_next {m i j : Nat} {d : Int} {s : Run} {y : Nod} (h : EndI m i s) (hy : Nx s.c d y) (hv : Inv (m + 1) y.c) (hd : d = (j : Int) - i) : (y.o.done = true ∧ EndF ⟨y.c, y.o, cnt s.n y⟩) ∨ (y.o.done = false ∧ EndI (m + 1) j ⟨y.c, y.o, cnt s.n y⟩) := by
  have h1 := h.t1
  have h2 := h.t2
  have h3 := h.n
  have h4 := h.p
  rcases hy with ⟨q1, q2, q3⟩ | ⟨q1, q2, q3, q4, q5, q6, q7⟩
  · have e : cnt s.n y = s.n := by unfold cnt; rw [q3]; rfl
    exact .inl ⟨q1, by show cnt s.n y ≤ 24; rw [e]; omega, q2⟩
  · have e : cnt s.n y = s.c.tries + sn y := by
      unfold cnt sn
      split
      · rw [wrap_i64 (by omega) (by omega)]; omega
      · omega
    have hs : 0 ≤ sn y := by unfold sn; split <;> omega
    exact .inr ⟨q1, hv, q2, by show cnt s.n y = y.c.tries; rw [e]; exact q3.symm, by show 1 ≤ y.c.tries; omega, q4, q5, q6, by show phi y.c + (j : Int) ≤ 312; omega⟩
def rplOf (l : List Rep) (i k : Nat) (c : Clt) : Rep := { l.getD ((i + k) % l.length) default with id := c.number }
def repY (l : List Rep) (i k : Nat) (s : Run) : Nod := stepN s.c ⟨2, default, rplOf l i k s.c⟩
def repR (l : List Rep) (i k : Nat) (s : Run) : Run := ⟨(repY l i k s).c, (repY l i k s).o, cnt s.n (repY l i k s)⟩
def innR (l : List Rep) (i : Nat) : Nat → Nat → Run → Bool × Run
  | 0, _, s => (false, s)
  | f + 1, k, s => if k < l.length then (if (repY l i k s).o.done = true then (true, repR l i k s) else innR l i f (k + 1) (repR l i k s)) else (false, s)
structure RepsOk (l : List Rep) : Prop where
  n : ∀ r ∈ l, r.shards.length * 104 ≤ 281474976710656
  s : ∀ r ∈ l, ∀ x ∈ r.shards, ShOk x
theorem rpl_ok {l : List Rep} (h : RepsOk l) {i k : Nat} (hk : k < l.length) (c : Clt) : InpOk ⟨2, default, rplOf l i k c⟩ := by
  have hm : (i + k) % l.length < l.length := Nat.mod_lt _ (by omega)
  have hin : l.getD ((i + k) % l.length) default ∈ l := by simp [hm]
  refine ⟨calOk_default, ?_, ?_⟩
  · show (l.getD ((i + k) % l.length) default).shards.length * 104 ≤ _
    exact h.n _ hin
  · show ∀ x ∈ (l.getD ((i + k) % l.length) default).shards, ShOk x
    exact h.s _ hin
theorem rep_next {l : List Rep} (h : RepsOk l) {m i k : Nat} {s : Run} (he : EndI m i s) (hk : k < l.length) : ((repY l i k s).o.done = true ∧ EndF (repR l i k s)) ∨ ((repY l i k s).o.done = false ∧ EndI (m + 1) i (repR l i k s)) :=
  nx_next he (nx_rep he.way _) (inv_step he.iv (rpl_ok h hk s.c)) (by omega)
theorem EndI.mono {m m' i : Nat} {s : Run} (h : EndI m i s) (hm : m ≤ m') : EndI m' i s := ⟨h.iv.mono hm, h.b, h.n, h.t1, h.t2, h.w0, h.w1, h.p⟩
theorem inn_next {l : List Rep} (h : RepsOk l) {i : Nat} : ∀ (f k m : Nat) (s : Run), EndI m i s → (innR l i f k s).1 = false → EndI (m + f) i (innR l i f k s).2
  | 0, _, _, _, he, _ => he
  | f + 1, k, m, s, he, hf => by
    unfold innR at hf ⊢
    by_cases hk : k < l.length
    · rw [if_pos hk] at hf ⊢
      rcases rep_next h he hk with ⟨h1, _⟩ | ⟨h1, h2⟩
      · rw [if_pos h1] at hf
        cases hf
      · rw [if_neg (by rw [h1]; exact Bool.false_ne_true)] at hf ⊢
        have := inn_next h f (k + 1) (m + 1) _ h2 hf
        rwa [show m + 1 + f = m + (f + 1) by omega] at this
    · rw [if_neg hk] at hf ⊢
      exact he.mono (by omega)
def tickY (s : Run) : Nod := stepN s.c ⟨3, default, default⟩
def tickR (s : Run) : Run := ⟨(tickY s).c, (tickY s).o, cnt s.n (tickY s)⟩
theorem inpOk_tick : InpOk ⟨3, default, default⟩ := ⟨calOk_default, by decide, fun x hx => by cases hx⟩
theorem tick_next {m i : Nat} {s : Run} (he : EndI m i s) : ((tickY s).o.done = true ∧ EndF (tickR s)) ∨ ((tickY s).o.done = false ∧ EndI (m + 1) (i + 1) (tickR s)) :=
  nx_next he (nx_tick he.way) (inv_step he.iv inpOk_tick) (by omega)
end Go.Proofs.YtdpbogaldcpfeaaDoor.C

/-! A call ends: the code. -/
--fold
namespace Go.Proofs.YtdpbogaldcpfeaaDoor.C
open Go.Ax
set_option maxRecDepth 1000000
theorem tagTp2 (l : List Tpc) : ∀ (k : Nat), k < l.length → ∀ (j : Nat), j < 2 → tagT (cellsOf' encTp l k j) = true := by
  intro k _ j hj
  match j, hj with
  | 0, _ => exact rfl
  | 1, _ => exact rfl
theorem tagSi2 (l : List Sit) : ∀ (k : Nat), k < l.length → ∀ (j : Nat), j < 2 → tagT (cellsOf' encSi l k j) = true := by
  intro k _ j hj
  match j, hj with
  | 0, _ => exact rfl
  | 1, _ => exact rfl
def eiB (l : List Rep) (i : Nat) (q : EI l i) : Bool := (innR l i (5 - q.k) q.k q.s).1
def eiR (l : List Rep) (i : Nat) (q : EI l i) : Run := (innR l i (5 - q.k) q.k q.s).2
theorem ei_done {l : List Rep} {i : Nat} {q : EI l i} (hk : q.k < l.length) (h5 : q.k < 5) (hd : (repY l i q.k q.s).o.done = true) : eiB l i q = true ∧ eiR l i q = repR l i q.k q.s := by
  have hf : 5 - q.k = (4 - q.k) + 1 := by omega
  unfold eiB eiR
  rw [hf]
  unfold innR
  rw [if_pos hk, if_pos hd]
  exact ⟨rfl, rfl⟩
theorem ei_more {l : List Rep} {i : Nat} {q q' : EI l i} (hk : q.k < l.length) (h5 : q.k < 5) (hd : (repY l i q.k q.s).o.done = false) (h1 : q'.k = q.k + 1) (h2 : q'.s = repR l i q.k q.s) : eiB l i q = eiB l i q' ∧ eiR l i q = eiR l i q' := by
  have hf : 5 - q.k = (4 - q.k) + 1 := by omega
  have hf2 : 5 - (q.k + 1) = 4 - q.k := by omega
  unfold eiB eiR
  rw [hf, h1, h2, hf2]
  rw [innR, if_pos hk, if_neg (by rw [hd]; exact Bool.false_ne_true)]
  exact ⟨rfl, rfl⟩
theorem ei_end {l : List Rep} {i : Nat} {q : EI l i} (hk : ¬ (q.k < l.length ∧ q.k < 5)) : eiB l i q = false ∧ eiR l i q = q.s := by
  unfold eiB eiR
  by_cases h5 : q.k < 5
  · have hk : ¬ q.k < l.length := fun h => hk ⟨h, h5⟩
    have hf : 5 - q.k = (4 - q.k) + 1 := by omega
    rw [hf, innR, if_neg hk]
    exact ⟨rfl, rfl⟩
  · have hf : 5 - q.k = 0 := by omega
    rw [hf, innR]
    exact ⟨rfl, rfl⟩
theorem stg_rep {m : Nat} {c : Clt} {r : Rep} (h : Inv m c) (hi : InpOk ⟨2, default, r⟩) (hN : (m + 2) * 40 ≤ 140737488355328) : StG c ⟨2, default, r⟩ (stepN c ⟨2, default, r⟩) 0 := by
  have := stg_of h hi hN
  rwa [show stepE c ⟨2, default, r⟩ = 0 by simp [stepE]] at this
theorem stg_tick {m : Nat} {c : Clt} (h : Inv m c) (hN : (m + 2) * 40 ≤ 140737488355328) : StG c ⟨3, default, default⟩ (stepN c ⟨3, default, default⟩) 0 := by
  have := stg_of h inpOk_tick hN
  rwa [show stepE c ⟨3, default, default⟩ = 0 by simp [stepE]] at this
theorem ei_loop (l : List Rep) (i : Nat) (hi : i ≤ 311) (hl : l.length ≤ 9223372036854775806) (h : RepsOk l) (q : EI l i) : LoopOk Tryd.prog 5 15 (loopAt Tryd.prog 5 15) ⟨eiT l i q, eM q.s.c q.s.o, []⟩ (T.map (lout [0, 1, 2, 3, 4, 5, 6, 7, 8, 9, 10, 11, 12, 13, 14] (eiS l i)) (eO (eiB l i q) (eiR l i q))) := by
  refine loop_vcH (P := Tryd.prog) (f := 5) (k := 15) (ι := EI l i) (μ := fun q => 5 - q.k) (ht := fun q => eiH q.s.c (rplOf l i q.k q.s.c) (repY l i q.k q.s)) (stT := eiT l i) (stM := fun q => eM q.s.c q.s.o) (X := [0, 1, 2, 3, 4, 5, 6, 7, 8, 9, 10, 11, 12, 13, 14]) (o := fun q => eO (eiB l i q) (eiR l i q)) (S := eiS l i) Tryd.mixed (fun _ => rfl) (fun q => ?_) q
  rw [vcEiL_eq l i (eiB l i) (eiR l i) (rplOf l i q.k q.s.c) (repY l i q.k q.s) q]
  unfold vcEiL vcEiL_q1
  have hkl := q.kl
  have hn1 := q.e.n
  have ht1 := q.e.t1
  have ht2 := q.e.t2
  by_cases hk : q.k < l.length
  · have hz : decide ((q.k : Int) < l.length) = true := by simp; omega
    by_cases h5 : q.k < 5
    · have hz5 : decide ((q.k : Int) < 5) = true := by simp; omega
      have hw : IntKind.i64.wrap ((q.k : Int) + 1) = ((q.k + 1 : Nat) : Int) := by rw [wrap_i64 (by omega) (by omega)]; omega
      have hw2 : IntKind.i64.wrap ((i : Int) + (q.k : Int)) = ((i + q.k : Nat) : Int) := by rw [wrap_i64 (by omega) (by omega)]; omega
      have hm : Int.tmod ((i + q.k : Nat) : Int) (l.length : Int) = (((i + q.k) % l.length : Nat) : Int) := by rw [Int.tmod_eq_emod_of_nonneg (by omega)]; rfl
      have hst : StG q.s.c ⟨2, default, rplOf l i q.k q.s.c⟩ (repY l i q.k q.s) 0 := stg_rep q.e.iv (rpl_ok h hk q.s.c) (by omega)
      have hmlt : (i + q.k) % l.length < l.length := Nat.mod_lt _ (by omega)
      have hne : ¬ (l.length : Int) = 0 := by omega
      have hne2 : ¬ l = [] := by
        intro e
        have : l.length = 0 := by rw [e]; rfl
        omega
      have hc1 : cnt q.s.n (repY l i q.k q.s) = if (repY l i q.k q.s).o.send = true then q.s.n + 1 else q.s.n := by
        unfold cnt
        rw [wrap_i64 (by omega) (by omega)]
      have hrn := rep_next h q.e hk
      have hdone := ei_done (q := q) hk h5
      have hmore := fun (q' : EI l i) => ei_more (q := q) (q' := q') hk h5
      have hR : repR l i q.k q.s = ⟨(repY l i q.k q.s).c, (repY l i q.k q.s).o, cnt q.s.n (repY l i q.k q.s)⟩ := rfl
      simp only [hz, hz5, hw, hw2, hm, Int.toNat_natCast]
      have hr : rplOf l i q.k q.s.c = { l.getD ((i + q.k) % l.length) default with id := q.s.c.number } := rfl
      generalize rplOf l i q.k q.s.c = r at *
      generalize repY l i q.k q.s = y at *
      have hmi : (0 ≤ ((i : Int) + (q.k : Int)) % (l.length : Int)) ∧ ((i : Int) + (q.k : Int)) % (l.length : Int) < (l.length : Int) := ⟨Int.emod_nonneg _ hne, Int.emod_lt_of_pos _ (by omega)⟩
      have hcn : cnt q.s.n y = if y.o.send = true then IntKind.i64.wrap (q.s.n + 1) else q.s.n := rfl
      rcases hrn with ⟨d1, d2⟩ | ⟨d1, d2⟩
      · obtain ⟨e1, e2⟩ := hdone d1
        have d3 : cnt q.s.n y ≤ 24 := by have := d2.n; rw [hR] at this; exact this
        have d4 : y.c.busy = false := by have := d2.b; rw [hR] at this; exact this
        cases hs : y.o.send
        · have d5 : q.s.n ≤ 24 := by rw [hcn, hs] at d3; exact d3
          have d6 : ¬ 24 < q.s.n := by omega
          simp [hst, d1, d4, d5, d6, hs, e1, hmlt, hne, hne2, hk, h5]
          refine ⟨hmi, ⟨rfl, ?_⟩, tagTp2 _, tagSi2 _⟩
          rw [hr]
          repeat' apply And.intro
          all_goals first | rfl | exact contLe_refl _ _ _ | (simp [hmlt]; done)
        · have d5 : IntKind.i64.wrap (q.s.n + 1) ≤ 24 := by rw [hcn, hs] at d3; exact d3
          have d6 : ¬ 24 < IntKind.i64.wrap (q.s.n + 1) := by omega
          simp [hst, d1, d4, d5, d6, hs, e1, hmlt, hne, hne2, hk, h5]
          refine ⟨hmi, ⟨rfl, ?_⟩, tagTp2 _, tagSi2 _⟩
          rw [hr]
          repeat' apply And.intro
          all_goals first | rfl | exact contLe_refl _ _ _ | (simp [hmlt]; done)
      · have hq2 : EndI (6 * i + (q.k + 1) + 1) i (repR l i q.k q.s) := d2
        obtain ⟨e1, e2⟩ := hmore ⟨q.k + 1, repR l i q.k q.s, by omega, hq2⟩ d1 rfl rfl
        generalize hqq : (⟨q.k + 1, repR l i q.k q.s, by omega, hq2⟩ : EI l i) = q' at *
        have k1 : q'.k = q.k + 1 := by rw [← hqq]
        have k2 : q'.s = ⟨y.c, y.o, cnt q.s.n y⟩ := by rw [← hqq, ← hR]
        have k3 : q'.s.c = y.c := by rw [k2]
        have k4 : q'.s.o = y.o := by rw [k2]
        have k5 : q'.s.n = cnt q.s.n y := by rw [k2]
        cases hs : y.o.send
        · have k6 : q'.s.n = q.s.n := by rw [k5, hcn, hs]; rfl
          simp [hst, d1, hs, hmlt, hne, hne2, hk, h5]
          refine ⟨hmi, ⟨rfl, ?_⟩, tagTp2 _, tagSi2 _, q', ?_⟩
          · rw [hr]
            repeat' apply And.intro
            all_goals first | rfl | exact contLe_refl _ _ _ | (simp [hmlt]; done)
          · rw [k1, k3, k4, k6]
            refine ⟨by omega, ?_⟩
            simp [hs, d1, e1, e2]
        · have k6 : q'.s.n = IntKind.i64.wrap (q.s.n + 1) := by rw [k5, hcn, hs]; rfl
          simp [hst, d1, hs, hmlt, hne, hne2, hk, h5]
          refine ⟨hmi, ⟨rfl, ?_⟩, tagTp2 _, tagSi2 _, q', ?_⟩
          · rw [hr]
            repeat' apply And.intro
            all_goals first | rfl | exact contLe_refl _ _ _ | (simp [hmlt]; done)
          · rw [k1, k3, k4, k6]
            refine ⟨by omega, ?_⟩
            simp [hs, d1, e1, e2]
    · obtain ⟨e1, e2⟩ := ei_end (q := q) (fun h => h5 h.2)
      have hz5 : decide ((q.k : Int) < 5) = false := by simp; omega
      simp only [hz, hz5]
      simp [e1, e2]
  · obtain ⟨e1, e2⟩ := ei_end (q := q) (fun h => hk h.1)
    have hz : decide ((q.k : Int) < l.length) = false := by simp; omega
    simp only [hz]
    simp [e1, e2]
def eoP {l : List Rep} (q : EO l) : EI l q.i := ⟨0, q.s, Nat.zero_le _, q.e⟩
theorem EndI.lt {m i : Nat} {s : Run} (h : EndI m i s) : i ≤ 311 := by
  have h1 := phi_lo h.way
  have h2 := h.t2
  have h3 := h.p
  omega
theorem eo_loop (l : List Rep) (hl : l.length ≤ 9223372036854775806) (h : RepsOk l) (q : EO l) : LoopOk Tryd.prog 5 12 (loopAt Tryd.prog 5 12) ⟨eoT l q, eM q.s.c q.s.o, []⟩ (T.map (lout [0, 1, 2, 3, 4, 5, 6, 7, 8, 9, 10, 11, 12, 13, 14] eoS) (.ret ())) := by
  refine loop_vcH (P := Tryd.prog) (f := 5) (k := 12) (ι := EO l) (μ := fun q => 400 - q.i) (ht := fun q => eoH l q.i (eoP q) (eiB l q.i (eoP q)) (eiR l q.i (eoP q)) (tickY (eiR l q.i (eoP q)))) (stT := eoT l) (stM := fun q => eM q.s.c q.s.o) (X := [0, 1, 2, 3, 4, 5, 6, 7, 8, 9, 10, 11, 12, 13, 14]) (o := fun _ => .ret ()) (S := eoS) Tryd.mixed (fun _ => rfl) (fun q => ?_) q
  rw [vcEoL_eq l q (eoP q) (eiB l q.i (eoP q)) (eiR l q.i (eoP q)) (tickY (eiR l q.i (eoP q)))]
  unfold vcEoL
  have hi := q.e.lt
  have lp := ei_loop l q.i hi hl h (eoP q)
  have p1 : (eoP q).k = 0 := rfl
  have p2 : (eoP q).s = q.s := rfl
  have hz : decide ((q.i : Int) < 313) = true := by simp; omega
  have hw : IntKind.i64.wrap ((q.i : Int) + 1) = ((q.i + 1 : Nat) : Int) := by rw [wrap_i64 (by omega) (by omega)]; omega
  have hin : eiB l q.i (eoP q) = false → EndI (6 * q.i + 1 + 5) q.i (eiR l q.i (eoP q)) := fun hb => inn_next h 5 0 (6 * q.i + 1) q.s q.e hb
  simp only [hz, hw]
  generalize eiB l q.i (eoP q) = b at *
  generalize eiR l q.i (eoP q) = s at *
  generalize eoP q = p at *
  cases b with
  | true =>
    rw [p2] at lp
    simp [p1, p2]
    exact lp
  | false =>
    have he := hin rfl
    rw [p2] at lp
    have hst : StG s.c ⟨3, default, default⟩ (tickY s) 0 := stg_tick he.iv (by omega)
    have hn := tick_next he
    have hR : tickR s = ⟨(tickY s).c, (tickY s).o, cnt s.n (tickY s)⟩ := rfl
    have hcn : cnt s.n (tickY s) = if (tickY s).o.send = true then IntKind.i64.wrap (s.n + 1) else s.n := rfl
    generalize tickY s = y at *
    rcases hn with ⟨d1, d2⟩ | ⟨d1, d2⟩
    · have d3 : cnt s.n y ≤ 24 := by have := d2.n; rw [hR] at this; exact this
      have d4 : y.c.busy = false := by have := d2.b; rw [hR] at this; exact this
      cases hs : y.o.send
      · have d5 : s.n ≤ 24 := by rw [hcn, hs] at d3; exact d3
        have d6 : ¬ 24 < s.n := by omega
        simp [p1, p2, hst, d1, d4, d5, d6, hs]
        exact ⟨lp, rfl, tagTp2 _, tagSi2 _⟩
      · have d5 : IntKind.i64.wrap (s.n + 1) ≤ 24 := by rw [hcn, hs] at d3; exact d3
        have d6 : ¬ 24 < IntKind.i64.wrap (s.n + 1) := by omega
        simp [p1, p2, hst, d1, d4, d5, d6, hs]
        exact ⟨lp, rfl, tagTp2 _, tagSi2 _⟩
    · have hq2 : EndI (6 * (q.i + 1) + 1) (q.i + 1) (tickR s) := d2
      generalize hqq : (⟨q.i + 1, tickR s, hq2⟩ : EO l) = q' at *
      have k1 : q'.i = q.i + 1 := by rw [← hqq]
      have k2 : q'.s = ⟨y.c, y.o, cnt s.n y⟩ := by rw [← hqq, ← hR]
      have k3 : q'.s.c = y.c := by rw [k2]
      have k4 : q'.s.o = y.o := by rw [k2]
      have k5 : q'.s.n = cnt s.n y := by rw [k2]
      cases hs : y.o.send
      · have k6 : q'.s.n = s.n := by rw [k5, hcn, hs]; rfl
        simp [p1, p2, hst, d1, hs]
        refine ⟨lp, rfl, tagTp2 _, tagSi2 _, q', by omega, ?_⟩
        rw [k1, k3, k4, k6]
        simp [hs, d1]
      · have k6 : q'.s.n = IntKind.i64.wrap (s.n + 1) := by rw [k5, hcn, hs]; rfl
        simp [p1, p2, hst, d1, hs]
        refine ⟨lp, rfl, tagTp2 _, tagSi2 _, q', by omega, ?_⟩
        rw [k1, k3, k4, k6]
        simp [hs, d1]
/-! the law -/
structure EnOk (s : List Int) (k : Cal) (l : List Rep) : Prop where
  sn : s.length * 8 ≤ 140737488355328
  ck : CalOk k
  rl : RepsOk l
  ln : l.length ≤ 9223372036854775806
theorem newK_f {id p : Int} {l : List Int} (h : newE id l p = 0) : newK id l p = newQ id l p := by
  unfold newE at h
  unfold newK
  cases hb : newB id l p
  · simp [hb] at h
  · rfl
theorem send_first {z : Nod} (ht : z.c.tries = 0) : (sendN z).o.send = true ∧ (sendN z).o.done = false ∧ (sendN z).c.busy = z.c.busy ∧ (sendN z).c.tries = 1 ∧ (sendN z).c.waited = 0 ∧ (sendN z).c.again = false := by
  have h1 : IntKind.i64.wrap (z.c.tries + 1) = 1 := by rw [ht]; exact wrap_i64 (by omega) (by omega)
  unfold sendN
  rw [if_neg (by omega)]
  split
  · exact ⟨rfl, rfl, rfl, h1, rfl, rfl⟩
  · split
    · exact ⟨rfl, rfl, rfl, h1, rfl, rfl⟩
    · exact ⟨rfl, rfl, rfl, h1, rfl, rfl⟩
theorem call_e {x : Nod} {k : Cal} (hb : x.c.busy = false) : begE x k = 0 ∨ begE x k = 212 := by
  unfold begE
  rw [hb]
  simp only [Bool.false_eq_true, if_false]
  split
  · exact .inr rfl
  · split
    · split
      · exact .inr rfl
      · exact .inl rfl
    · split
      · exact .inr rfl
      · exact .inl rfl
theorem call_first {c : Clt} {k : Cal} (hi : Inv 0 c) (hk : CalOk k) (h1 : c.tries = 0) (he : begE ⟨c, default⟩ k = 0) : (stepN c ⟨1, k, default⟩).o.send = true ∧ EndI 1 0 ⟨(stepN c ⟨1, k, default⟩).c, (stepN c ⟨1, k, default⟩).o, 1⟩ := by
  have hio : InpOk ⟨1, k, default⟩ := ⟨hk, by show (0 : Nat) * 104 ≤ _; omega, fun x hx => by cases hx⟩
  have hv := inv_step hi hio
  have e : stepN c ⟨1, k, default⟩ = sendN (beg1 ⟨c, default⟩ k) := by
    have : stepN c ⟨1, k, default⟩ = begQ ⟨c, default⟩ k := by simp [stepN]
    rw [this]
    exact if_pos he
  rw [e] at hv ⊢
  obtain ⟨q1, q2, q3, q4, q5, q6⟩ := send_first (z := beg1 ⟨c, default⟩ k) h1
  refine ⟨q1, hv, q3, q4.symm, ?_, ?_, ?_, ?_, ?_⟩
  · show 1 ≤ (sendN (beg1 ⟨c, default⟩ k)).c.tries
    rw [q4]; exact Int.le_refl 1
  · show (sendN (beg1 ⟨c, default⟩ k)).c.tries ≤ 24
    rw [q4]; decide
  · show 0 ≤ (sendN (beg1 ⟨c, default⟩ k)).c.waited
    rw [q5]; exact Int.le_refl 0
  · show (sendN (beg1 ⟨c, default⟩ k)).c.waited ≤ 11
    rw [q5]; decide
  · show phi (sendN (beg1 ⟨c, default⟩ k)).c + ((0 : Nat) : Int) ≤ 312
    unfold phi
    rw [q4, q5, q6]
    decide
def eoC : Clt := { (default : Clt) with servers := [1], busy := true, tries := 1 }
theorem eoE : EndI 1 0 ⟨eoC, default, 1⟩ := ⟨⟨by decide, by decide, by decide, by decide, by decide, calOk_default, fun x hx => by cases hx⟩, rfl, rfl, by decide, by decide, by decide, by decide, by decide⟩
def eo0 (l : List Rep) : EO l := ⟨0, ⟨eoC, default, 1⟩, eoE⟩
theorem en_c (id : Int) (s : List Int) (k : Cal) (l : List Rep) (h : EnOk s k l) : (boolR true).Sat (ACall' Tryd.prog 5 [.y (.int .i64 id), encIs true s, .agg (encCl k), encReps l] []) := by
  have q : NewQ id s 9 (newK id s 9) (newE id s 9) := ⟨rfl, rfl, h.sn⟩
  by_cases he : newE id s 9 = 0
  · have hi := inv_new (p := 9) h.sn he
    have hf := newK_f (p := 9) he
    have hb : (newK id s 9).busy = false := by rw [hf]; rfl
    have ht : (newK id s 9).tries = 0 := by rw [hf]; rfl
    rw [he] at q
    generalize newK id s 9 = c at *
    have hio : InpOk ⟨1, k, default⟩ := ⟨h.ck, by show (0 : Nat) * 104 ≤ _; omega, fun x hx => by cases hx⟩
    have hst := stg_of hi hio (by omega)
    have hse : stepE c ⟨1, k, default⟩ = begE ⟨c, default⟩ k := by simp [stepE]
    rw [hse] at hst
    rcases call_e (x := ⟨c, default⟩) (k := k) hb with hz | hz
    · obtain ⟨f1, f2⟩ := call_first hi h.ck ht hz
      have lp := eo_loop l h.ln h.rl ⟨0, _, f2⟩
      refine ctr_vc (ht := enH id s k l c 0 (stepN c ⟨1, k, default⟩) 0 ⟨0, _, f2⟩) Tryd.mixed rfl ?_
      rw [vcEn_eq id s k l c 0 (stepN c ⟨1, k, default⟩) 0 ⟨0, _, f2⟩]
      unfold vcEn vcEn_q1
      rw [hz] at hst
      generalize hp : (⟨0, _, f2⟩ : EO l) = p at *
      have p1 : p.i = 0 := by rw [← hp]
      have p2 : p.s = ⟨(stepN c ⟨1, k, default⟩).c, (stepN c ⟨1, k, default⟩).o, 1⟩ := by rw [← hp]
      have p3 : p.s.c = (stepN c ⟨1, k, default⟩).c := by rw [p2]
      have p4 : p.s.o = (stepN c ⟨1, k, default⟩).o := by rw [p2]
      have p5 : p.s.n = 1 := by rw [p2]
      generalize stepN c ⟨1, k, default⟩ = y at *
      rw [p3, p4] at lp
      simp [q, hst, f1, p1, p3, p4, p5]
      exact ⟨tagTp2 _, tagSi2 _, lp⟩
    · refine ctr_vc (ht := enH id s k l c 0 (stepN c ⟨1, k, default⟩) 212 (eo0 l)) Tryd.mixed rfl ?_
      rw [vcEn_eq id s k l c 0 (stepN c ⟨1, k, default⟩) 212 (eo0 l)]
      unfold vcEn vcEn_q1
      rw [hz] at hst
      generalize eo0 l = p at *
      generalize stepN c ⟨1, k, default⟩ = y at *
      simp [q, hst]
      exact ⟨tagTp2 _, tagSi2 _⟩
  · refine ctr_vc (ht := enH id s k l (newK id s 9) (newE id s 9) default 0 (eo0 l)) Tryd.mixed rfl ?_
    rw [vcEn_eq id s k l (newK id s 9) (newE id s 9) default 0 (eo0 l)]
    unfold vcEn vcEn_q1
    generalize eo0 l = p at *
    generalize newK id s 9 = c at *
    simp [q, he]
end Go.Proofs.YtdpbogaldcpfeaaDoor.C

/-! A call ends: from the statement to the law. -/
namespace Go.Proofs.YtdpbogaldcpfeaaDoor.C
open Go.Ax Go.Shelf Go.RowKit Go.ChangeShapes Go.WideShapes Go.ChangeAt
set_option maxRecDepth 1000000
theorem rep_conv {K : Type} {d : DataW K} (hd : shRep.wf d) (j : Nat) (_ : j < 12) (H : HH) (E : Env) (v : Value) (h : Rel (Ax.get (shRep.enc d) j) H E v) : Rel (Ax.get (C.encRp (toRep d)) j) H E v := by
  obtain ⟨d1, d2, d3, e1, e2, e3, e4, d5, d6, d7, d8, d9, rfl, y4, y6, ec⟩ := rep_enc hd
  rw [ec] at h
  refine convL_at (l := _) (l' := C.encRp (toRep (DataW.agg [d1, d2, d3, DataW.agg [e1, e2, e3, e4], d5, d6, d7, d8, d9]))) ?_ j v h
  exact ⟨fun _ h => h, fun _ h => h, fun _ h => h, fun _ h => h, fun _ h => h, fun _ h => h, fun _ h => relRs y4 h, fun _ h => h, fun _ h => relShs y6 h, fun _ h => h, fun _ h => h, fun _ h => h, trivial⟩
theorem relReps {K : Type} {d : DataW K} (hd : (Sh.sl shRep).wf d) {H : HH} {E : Env} {v : Value} (h : Rel (slAV shRep d) H E v) : Rel (C.encReps (listOf toRep d)) H E v :=
  conv_slR (encA := C.encRp) (fun x hx j hj H E v => rep_conv hx j hj H E v) hd h
theorem undReps : Tryd.prog.underlying 62 = some (.slice 52) := by kernel_rfl
theorem bytesRep : Tryd.prog.bytesOf 52 = 128 := by kernel_rfl
theorem reps_sized {K : Type} {d : DataW K} (hd : (Sh.sl shRep).wf d) (hw : (d.weights Tryd.prog 62).all (· ≤ reachBytes) = true) : (listOf toRep d).length * 128 ≤ 140737488351232 ∧ C.RepsOk (listOf toRep d) := by
  refine ⟨?_, ?_, ?_⟩
  · have := weights_slice toRep undReps hw
    rwa [bytesRep] at this
  · rcases hd with rfl | ⟨xs, r, rfl, hx⟩
    · intro y hy; cases hy
    · intro y hy
      obtain ⟨x, hx', rfl⟩ := List.mem_map.1 hy
      have := (rep_sized (hx x hx') (weights_elems undReps hw x hx')).rl
      omega
  · rcases hd with rfl | ⟨xs, r, rfl, hx⟩
    · intro y hy; cases hy
    · intro y hy
      obtain ⟨x, hx', rfl⟩ := List.mem_map.1 hy
      exact (rep_sized (hx x hx') (weights_elems undReps hw x hx')).rs
theorem ends_ok {s : List Int} {k : Cal} {l : List Rep} (hs : s.length * 8 ≤ 140737488351232) (hk : CalOk k) (hl : l.length * 128 ≤ 140737488351232 ∧ RepsOk l) : EnOk s k l := ⟨by omega, hk, hl.2, by have := hl.1; omega⟩
def clientEnds_laidL : List (String × DataW Unit) := Rows.clientEndsRow.laid
noncomputable def clientEnds_layW (os : Os) : World := World.laidAll Tryd.prog os clientEnds_laidL
theorem clientEnds_lay_met (os : Os) (args : Array Value) : laidMetH Tryd.prog clientEnds_laidL ((clientEnds_layW os).forCall (fun _ _ => 0) ⟨#[], args, []⟩).memory := by
  have e : ∀ w, laidMetH Tryd.prog clientEnds_laidL w = laidMet Tryd.prog clientEnds_laidL w := fun w => by kernel_rfl
  rw [e]
  exact laidMet_laidAll args (by kernel_rfl) (by kernel_rfl)
theorem clientEnds_lifted (os : Os) (started : os.Started) (K : Type) (enc : TypeId × Value → K) :
    ReturnsInHanded {} Tryd.checked os 5 .any (fun w args => (Rows.clientEndsSpec.pre enc Tryd.prog Tryd.f5 [] false w args ∧ laidMetH Tryd.prog clientEnds_laidL w) ∧ sizedMet enc Tryd.prog Tryd.f5 (OpenSpec.ofChange Rows.clientEndsSpec) false w args)
      (Rows.clientEndsSpec.post enc Tryd.prog Tryd.f5 false true false false) := by
  refine returnsInHanded_of_change_and (C := Tryd.checked) (X := fun w _ => laidMetH Tryd.prog clientEnds_laidL w) (fun _ _ _ hh h => h.of_heap hh) Tryd.own started (by kernel_rfl) Tryd.func5
    (ChangeSpec.witness_at (enc := enc) (C := Tryd.checked) (os := os) (X := fun w _ => laidMetH Tryd.prog clientEnds_laidL w) false (clientEnds_layW os) #[.int .i64 0, .slice Option.none 0 0, .agg #[.int .i64 0, .string ⟨#[]⟩, .string ⟨#[]⟩, .slice Option.none 0 0, .int .u64 0, .int .i64 0, .string ⟨#[]⟩, .int .i64 0, .int .u64 0, .int .u64 0, .string ⟨#[]⟩, .slice Option.none 0 0, .int .u64 0, .int .u64 0, .string ⟨#[]⟩, .int .i64 0, .int .i64 0, .int .u64 0, .int .i64 0], .slice Option.none 0 0] 8 rfl (by kernel_rfl) (by kernel_rfl) (by kernel_rfl) (by kernel_rfl) (by kernel_rfl) (clientEnds_lay_met os _)) ?_
  intro W base args ds gs before hval0 hW hcnd hsz hL _
  have hps : Tryd.f5.params.toList = [3, 22, 33, 62] := by kernel_rfl
  obtain ⟨p, q, hA, hV, hbef, hfz, hnd⟩ := id hW
  rw [hps] at hA hsz
  have ⟨hr, hwf⟩ := lift_all [.int .i64, .sl (.int .i64), shCal, .sl shRep] (by kernel_rfl) hA
  obtain ⟨v1, v2, v3, v4, d1, d2, d3, d4, _, _, _, _, e1, rfl, _, _, _, _, _⟩ := trodAll_four hA
  obtain ⟨_, _, g1, w1, _, _, g2, w2, _, _, g3, w3, _, _, g4, w4, _⟩ := hwf
  obtain ⟨rfl, q1⟩ := List.cons.inj g1
  subst q1
  obtain ⟨rfl, q2⟩ := List.cons.inj g2
  subst q2
  obtain ⟨rfl, q3⟩ := List.cons.inj g3
  subst q3
  obtain ⟨rfl, _⟩ := List.cons.inj g4
  subst e1
  obtain ⟨h1, hs1⟩ := weights_cons (P := Tryd.prog) (t := 3) (d := d1) hsz
  obtain ⟨h2, hs2⟩ := weights_cons (P := Tryd.prog) (t := 22) (d := d2) hs1
  obtain ⟨h3, hs3⟩ := weights_cons (P := Tryd.prog) (t := 33) (d := d3) hs2
  obtain ⟨h4, hs4⟩ := weights_cons (P := Tryd.prog) (t := 62) (d := d4) hs3
  have r1 := hr.1
  rw [encI_ok w1] at r1
  obtain ⟨n1, rfl⟩ := okWide_int (show Tryd.prog.underlying 3 = some (.int .i64) by kernel_rfl) (hval0 0 _ _ (by kernel_rfl) rfl)
  obtain ⟨_, _, er, r1, _⟩ := r1
  cases er
  have r2 := hr.2.1
  rw [slAV_eq] at r2
  obtain ⟨s2, n2, c2, rfl⟩ := okWide_slice undIs (hval0 1 _ _ (by kernel_rfl) rfl)
  obtain ⟨_, _, er, r2, _⟩ := r2
  cases er
  have r2 := relIs w2 r2
  have r3 := hr.2.2.1
  obtain ⟨fs3, hf3, _⟩ := undCal
  have r3 := relA hf3 (hval0 2 _ _ (by kernel_rfl) rfl) (relCal w3 r3)
  have r4 := hr.2.2.2.1
  rw [slAV_eq] at r4
  obtain ⟨s4, n4, c4, rfl⟩ := okWide_slice undReps (hval0 3 _ _ (by kernel_rfl) rfl)
  obtain ⟨_, _, er, r4, _⟩ := r4
  cases er
  have r4 := relReps w4 r4
  refine open_calls (call_of (en_c _ _ _ _ (ends_ok (is_sized h2) (cal_sized w3 h3) (reps_sized w4 h4)))) (t := 4) (ds := [d1, d2, d3, d4]) ⟨_, _, rfl, r1, _, _, rfl, r2, _, _, rfl, r3, _, _, rfl, r4, rfl⟩ (by kernel_rfl) underBool rfl rfl Tryd.laidOut Tryd.mapsRowed Tryd.slicesOk (by rw [hps]; intro t ht; simp only [List.mem_cons, List.not_mem_nil, or_false] at ht; rcases ht with rfl | rfl | rfl | rfl <;> exact of_decide_eq_true (by kernel_rfl)) hW
theorem clientEnds_holds : Rows.ClientEndsSaid :=
  OpenClaim.holds_of_wide 5 Tryd.f5 rfl rfl rfl rfl rfl rfl rfl ⟨rfl, rfl, rfl, rfl, rfl⟩ rfl rfl rfl rfl rfl (by kernel_rfl) Tryd.func5 (by kernel_rfl)
    (of_decide_eq_true (by kernel_rfl)) (by unfold Func.isWrapper; first | (rw [if_pos (by decide +kernel)]; kernel_rfl) | (rw [if_neg (by decide +kernel)]; exact ⟨rfl, rfl⟩))
    (fun os started H enc _ => clientEnds_lifted os started H enc)
theorem clientEnds_said : Rows.ClientEndsCardSaid :=
  Claim7.holds_tied_plain_at .later [] [.data, .pinned] true (true, "d686f48c37c53b8b17edd79b07371d72aa1eab26c4c3d22259758825fe5fa4ef") false
    clientEnds_holds (fun _ h => by cases h) (by kernel_rfl) (fun _ h => by cases h) clientEnds_row_tie rfl ⟨rfl, rfl⟩ (by kernel_rfl) rfl
    (fun f fn hf hfn => by
      obtain rfl : f = 5 := Option.some.inj ((show Tryd.prog.funcNamed "gazette/gazettelaw21.ClientEnds" = some 5 by kernel_rfl).symm.trans hf) |>.symm
      obtain rfl : fn = Tryd.f5 := (Option.some.inj (Tryd.func5.symm.trans hfn)).symm
      exact ⟨by kernel_rfl, fun j t ht => by
        rw [show Tryd.f5.params = #[3, 22, 33, 62] by kernel_rfl] at ht
        have h3 : t = 3 ∨ t = 22 ∨ t = 33 ∨ t = 62 := by
          rcases j with _ | _ | _ | _ | j
          · exact Or.inl (by simpa using ht.symm)
          · exact Or.inr (Or.inl (by simpa using ht.symm))
          · exact Or.inr (Or.inr (Or.inl (by simpa using ht.symm)))
          · exact Or.inr (Or.inr (Or.inr ((by simpa using ht.symm))))
          · simp at ht
        rcases h3 with rfl | rfl | rfl | rfl
        · exact (show Tryd.prog.wantsStandIn 3 = false by kernel_rfl)
        · exact (show Tryd.prog.wantsStandIn 22 = false by kernel_rfl)
        · exact (show Tryd.prog.wantsStandIn 33 = false by kernel_rfl)
        · exact (show Tryd.prog.wantsStandIn 62 = false by kernel_rfl)⟩)
    (by kernel_rfl)
end Go.Proofs.YtdpbogaldcpfeaaDoor.C
namespace Go.Proofs.YtdpbogaldcpfeaaDoor
theorem ends_said : Rows.ClientEndsCardSaid := C.clientEnds_said
end Go.Proofs.YtdpbogaldcpfeaaDoor
