/- PROVED: LineageBack -/
import Derived.Test.YtckklclehofddaaGreatDoorRows
import Derived.Test.YtckklclehofddaaGreatDoorTie
import Derived.Test.YtckklclehofddaaGreatDoorCards
import Derived.OpenShut
import Derived.Lay
import Derived.Handed
import Derived.SevenTiedAt
import Derived.Test.YtckklclehofddaaGreatDoorE10
import Derived.Test.YtckklclehofddaaGreatDoorW5
import Derived.Test.YtckklclehofddaaGreatDoorW7
set_option linter.unusedVariables false
set_option linter.unusedSimpArgs false
set_option linter.unusedSectionVars false
/-! Lineage, plain: what is parted can be joined again: producers and consumers one by one. -/
namespace Go.Proofs.YtckklclehofddaaGreatDoor.D
open Go.Ax
set_option maxRecDepth 1000000
theorem mv_off0 (ta : List Int) {y : P.Producer} (h : y.here = false) : P.mvP ta y = ⟨y.id, y.seq, false, 0⟩ := by
  unfold P.mvP P.mvOk
  rw [h]; simp
theorem mv_on {a out : List Rec} {ta : List Int} (h : Stn out a ta) {y : P.Producer} (hh : y.here = true) {o : Nat} (ho : y.offset = o) (hl : o < a.length) : P.mvP ta y = ⟨y.id, y.seq, true, ta.getD o default⟩ := by
  have h1 := h.n
  have h2 : ta.getD o default < ta.getD (o + 1) default := h.up o hl
  unfold P.mvP P.mvOk
  have e1 : y.offset.toNat = o := by omega
  have e2 : ((o : Int) + 1).toNat = o + 1 := by omega
  have c1 : 1 < ta.length := by omega
  have c2 : (o : Int) ≤ (ta.length : Int) - 2 := by omega
  rw [hh, ho]
  simp only [Int.toNat_natCast]
  rw [if_pos]
  simp only [Bool.true_and, Bool.and_eq_true, decide_eq_true_eq]
  exact ⟨c1, c2, h2⟩
theorem mv_two {r : Rng} {l out : List Rec} {ta : List Int} (h : Stn out (outOf r l) ta) {x : P.Producer} (hl : l.length ≤ 4096) (ho : 0 ≤ x.offset) :
    P.mvP ta (P.mvP (toOf r l) x) = if x.here = true ∧ x.offset < l.length ∧ hasR r (l.getD x.offset.toNat default) = true then ⟨x.id, x.seq, true, ta.getD (cntR r l x.offset.toNat) default⟩ else ⟨x.id, x.seq, false, 0⟩ := by
  rw [mv_eq hl ho]
  by_cases c : x.here = true ∧ x.offset < l.length ∧ hasR r (l.getD x.offset.toNat default) = true
  · rw [if_pos c, if_pos c]
    obtain ⟨_, c2, c3⟩ := c
    obtain ⟨o, e⟩ : ∃ o : Nat, x.offset = o := ⟨x.offset.toNat, by omega⟩
    rw [e] at c2 c3
    have c2 : o < l.length := by omega
    have c3 : hasK r l[o].key = true := by simpa [hasR, c2] using c3
    have q := (List.getElem?_eq_some_iff.1 (sel_at c2 c3)).1
    rw [mv_on h rfl (o := cntR r l x.offset.toNat) rfl (by rw [out_len, e, Int.toNat_natCast]; exact q)]
  · rw [if_neg c, if_neg c]
    exact mv_off0 ta rfl
/-- a log that is parted at a key, and joined again -/
structure Two (p : Part) (k : ByteArray) (out : List Rec) (ta tb : List Int) : Prop where
  ty : PartTy p
  ok : partOk p = true
  sp : splE p.rng k = 0
  jo : JoinOk (outOf (rLow p.rng k) p.recs) (outOf (rHigh p.rng k) p.recs) out ta tb
theorem jo_nd {a b out : List Rec} {ta tb : List Int} (h : JoinOk a b out ta tb) : nd ta ∧ nd tb := by
  obtain ⟨la, lb, hn, s, hs, rfl, rfl, rfl⟩ := h
  have hj : joOk a b = true := by simp [joOk, la, lb, hn, hs]
  have h2 := run_je hj
  rw [hs, Option.getD_some] at h2
  exact ⟨h2.na, h2.nb⟩
/-- where a record of the long log stands in the joined one -/
def posJ (p : Part) (k : ByteArray) (ta tb : List Int) (o : Nat) : Int := if hasR (rLow p.rng k) (p.recs.getD o default) = true then ta.getD (cntR (rLow p.rng k) p.recs o) 0 else tb.getD (cntR (rHigh p.rng k) p.recs o) 0
theorem Two.len {p : Part} {k : ByteArray} {out : List Rec} {ta tb : List Int} (h : Two p k out ta tb) : p.recs.length ≤ 4096 ∧ out.length = p.recs.length := by
  have h1 := log_len (ok_parts h.ok).2.2.1
  have h2 := (jo_all h.jo).n
  have h3 := two_len h.ok h.sp
  omega
theorem Two.has {p : Part} {k : ByteArray} {out : List Rec} {ta tb : List Int} (h : Two p k out ta tb) {o : Nat} (ho : o < p.recs.length) : hasR (rHigh p.rng k) p.recs[o] = !hasR (rLow p.rng k) p.recs[o] := by
  have hf := (or_iff p).1 (ok_parts h.ok).2.2.2.2.2.1
  exact side_has h.sp (hf.1 _ (List.getElem_mem ho)).1
theorem Two.pos {p : Part} {k : ByteArray} {out : List Rec} {ta tb : List Int} (h : Two p k out ta tb) {o : Nat} (ho : o < p.recs.length) :
    0 ≤ posJ p k ta tb o ∧ posJ p k ta tb o < out.length ∧ strip (out.getD (posJ p k ta tb o).toNat default) = strip p.recs[o] := by
  have hj := (jo_all h.jo).jf
  have hg : p.recs.getD o default = p.recs[o] := by simp [ho]
  unfold posJ
  rw [hg]
  have key : ∀ (r : Rng) (t : List Int), Stn out (outOf r p.recs) t → hasR r p.recs[o] = true → 0 ≤ t.getD (cntR r p.recs o) 0 ∧ t.getD (cntR r p.recs o) 0 < out.length ∧ strip (out.getD (t.getD (cntR r p.recs o) 0).toNat default) = strip p.recs[o] := by
    intro r t hs hh
    have q := (List.getElem?_eq_some_iff.1 (sel_at ho hh)).1
    have q : cntR r p.recs o < (outOf r p.recs).length := by rw [out_len]; exact q
    have e := hs.eq _ q
    rw [e]
    have e2 := out_at ho (by exact hh)
    refine ⟨hs.lo _ q, hs.hi _ q, ?_⟩
    rw [e2]; rfl
  by_cases c : hasR (rLow p.rng k) p.recs[o] = true
  · rw [if_pos c]; exact key _ _ hj.sa c
  · rw [if_neg c]
    refine key _ _ hj.sb ?_
    rw [h.has ho]
    simpa using c
theorem mrg_one {p : Part} {k : ByteArray} {out : List Rec} {ta tb : List Int} (h : Two p k out ta tb) {x : P.Producer} (hx : x ∈ p.prods) :
    mrgQ (P.mvP ta (P.mvP (toOf (rLow p.rng k) p.recs) x)) (P.mvP tb (P.mvP (toOf (rHigh p.rng k) p.recs) x)) = if x.here = true then ⟨x.id, x.seq, true, posJ p k ta tb x.offset.toNat⟩ else ⟨x.id, x.seq, false, 0⟩ := by
  have hj := (jo_all h.jo).jf
  obtain ⟨hl, _⟩ := h.len
  have ho := (h.ty.po x hx).1
  rw [mv_two hj.sa hl ho, mv_two hj.sb hl ho]
  by_cases c : x.here = true
  · have hlost := lost_iff.1 (lost_all.1 (ok_parts h.ok).2.2.2.2.2.2.1 x hx) c
    obtain ⟨o, e⟩ : ∃ o : Nat, x.offset = o := ⟨x.offset.toNat, by omega⟩
    rw [e] at hlost ⊢
    have c2 : o < p.recs.length := by omega
    have hg : p.recs.getD o default = p.recs[o] := by simp [c2]
    have hh := h.has c2
    rw [if_pos c]
    unfold posJ
    simp only [Int.toNat_natCast, hg]
    have c3 : (o : Int) < p.recs.length := by omega
    by_cases d : hasR (rLow p.rng k) p.recs[o] = true
    · rw [d] at hh
      rw [if_pos ⟨c, c3, d⟩, if_neg (by rw [hh]; simp), if_pos d]
      unfold mrgQ P.lat
      simp
    · have d' : hasR (rLow p.rng k) p.recs[o] = false := by simpa using d
      rw [d'] at hh
      rw [if_neg (by rw [d']; simp), if_pos ⟨c, c3, hh⟩, if_neg d]
      unfold mrgQ P.lat
      simp
  · rw [if_neg (fun q => c q.1), if_neg (fun q => c q.1), if_neg c]
    unfold mrgQ P.lat
    simp
end Go.Proofs.YtckklclehofddaaGreatDoor.D

/-! Lineage, plain: what is parted can be joined again: consumers, and records of one key. -/
namespace Go.Proofs.YtckklclehofddaaGreatDoor.D
open Go.Ax
set_option maxRecDepth 1000000
abbrev naLt (a b : Con) : Prop := lt a.name b.name = true
theorem put_last : ∀ {C : List Con} {x : Con}, (∀ y ∈ C, naLt y x) → putL C x = C ++ [x]
  | [], x, _ => rfl
  | y :: t, x, h => by
    have h1 : lt y.name x.name = true := h y List.mem_cons_self
    rw [putL_cons, if_pos h1, put_last fun z hz => h z (List.mem_cons_of_mem _ hz)]
    rfl
theorem put_same : ∀ {C : List Con} {x : Con}, C.Pairwise naLt → x ∈ C → putL C x = C
  | [], x, _, h => by cases h
  | y :: t, x, hp, h => by
    have hp' := List.pairwise_cons.1 hp
    rw [putL_cons]
    rcases List.mem_cons.1 h with rfl | h
    · rw [lt_irr]; simp
    · have h1 : lt y.name x.name = true := hp'.1 x h
      rw [if_pos h1, put_same hp'.2 h]
theorem fold_new {J : Con → Con} (hJ : ∀ x, (J x).name = x.name) : ∀ {l C : List Con}, l.Pairwise naLt → (∀ y ∈ C, ∀ x ∈ l, naLt y x) → l.foldl (fun s x => putL s (J x)) C = C ++ l.map J
  | [], C, _, _ => by simp
  | x :: l, C, hp, h => by
    have hp' := List.pairwise_cons.1 hp
    rw [List.foldl_cons, put_last (x := J x) (fun y hy => by have := h y hy x List.mem_cons_self; unfold naLt at *; rw [hJ]; exact this)]
    rw [fold_new hJ hp'.2 (fun y hy z hz => by
      rcases List.mem_append.1 hy with hy | hy
      · exact h y hy z (List.mem_cons_of_mem _ hz)
      · simp at hy; subst hy
        have := hp'.1 z hz
        unfold naLt at *; rw [hJ]; exact this)]
    simp
theorem fold_same {J : Con → Con} {C : List Con} (hC : C.Pairwise naLt) : ∀ {l : List Con}, (∀ x ∈ l, J x ∈ C) → l.foldl (fun s x => putL s (J x)) C = C
  | [], _ => rfl
  | x :: l, h => by
    rw [List.foldl_cons, put_same hC (h x List.mem_cons_self)]
    exact fold_same hC fun y hy => h y (List.mem_cons_of_mem _ hy)
theorem map_pw {J : Con → Con} (hJ : ∀ x, (J x).name = x.name) {l : List Con} (h : l.Pairwise naLt) : (l.map J).Pairwise naLt := by
  rw [List.pairwise_map]
  exact h.imp fun {a b} hab => by unfold naLt at *; rw [hJ, hJ]; exact hab
theorem conB_map {c : List Con} {f g : Con → Con} (hc : c.Pairwise naLt) (hf : ∀ x, (f x).name = x.name) (hg : ∀ x, (g x).name = x.name) (ta tb : List Int) :
    conB (c.map f) (c.map g) ta tb = c.map fun x => joC (c.map f) (c.map g) ta tb x := by
  have hJn : ∀ x, (joC (c.map f) (c.map g) ta tb x).name = x.name := fun _ => rfl
  have hJ2 : ∀ x y : Con, x.name = y.name → joC (c.map f) (c.map g) ta tb x = joC (c.map f) (c.map g) ta tb y := fun x y e => by unfold joC; rw [e]
  unfold conB boU
  rw [List.take_length, List.foldl_append, fold_new hJn (map_pw hf hc) (fun y hy => by cases hy), List.nil_append]
  rw [fold_same (map_pw hJn (map_pw hf hc)) (fun x hx => by
    obtain ⟨z, hz, rfl⟩ := List.mem_map.1 hx
    rw [hJ2 (g z) (f z) (by rw [hf, hg])]
    exact List.mem_map_of_mem (List.mem_map_of_mem hz))]
  rw [List.map_map]
  exact List.map_congr_left fun x _ => hJ2 _ _ (hf x)
theorem cons_pw {l : List Con} (h : isCons l = true) : l.Pairwise naLt := by
  simp only [isCons, Bool.and_eq_true] at h
  have h1 := (cons_iff l).1 h.1
  have step : ∀ k, k + 1 < l.length → lt (l.getD k default).name (l.getD (k + 1) default).name = true := fun k hk => by
    have := h1 (k + 1) hk
    unfold coOk at this
    simp at this
    have h2 := this.2
    simpa using h2
  have mono : ∀ d i, i + d + 1 < l.length → lt (l.getD i default).name (l.getD (i + d + 1) default).name = true := by
    intro d
    induction d with
    | zero => intro i hi; exact step i hi
    | succ d ih => intro i hi; exact lt_trans' (ih i (by omega)) (step (i + d + 1) hi)
  rw [List.pairwise_iff_getElem]
  intro i j hi hj hij
  have := mono (j - i - 1) i (by omega)
  rw [show i + (j - i - 1) + 1 = j by omega] at this
  simpa [hi, hj] using this
end Go.Proofs.YtckklclehofddaaGreatDoor.D

/-! Lineage, plain: what is parted can be joined again: all of it. -/
namespace Go.Proofs.YtckklclehofddaaGreatDoor.D
open Go.Ax
set_option maxRecDepth 1000000
theorem read_map {c : List Con} {f : Con → Con} (hc : c.Pairwise naLt) (hf : ∀ x, (f x).name = x.name) {x : Con} (hx : x ∈ c) : readO (c.map f) x.name = (f x).off := by
  unfold readO findC
  induction c with
  | nil => cases hx
  | cons y t ih =>
    have hp := List.pairwise_cons.1 hc
    rw [List.map_cons, List.find?_cons]
    rcases List.mem_cons.1 hx with rfl | hx
    · have e : eqN (f x).name x.name = true := by rw [hf]; simp [eqN]
      rw [e]; rfl
    · have h1 := hp.1 x hx
      have e : eqN (f y).name x.name = false := by
        rw [hf]
        cases h : eqN y.name x.name
        · rfl
        · have := lst_iff.1 h
          unfold naLt at h1
          rw [this, lt_irr] at h1; cases h1
      rw [e]
      exact ih hp.2 hx
/-! records of one key -/
theorem of_strip (K : ByteArray) (l : List Rec) : (ofK K l).map strip = ofK K (l.map strip) := by
  unfold ofK
  rw [List.filter_map]
  rfl
theorem joinN_key {K : ByteArray} : ∀ (n : Nat) (s s' : Jo), joinN n s = some s' → ((∀ y ∈ s.b, ske K y = false) → (ofK K (s'.out ++ s'.a)).map strip = (ofK K (s.out ++ s.a)).map strip) ∧ ((∀ y ∈ s.a, ske K y = false) → (ofK K (s'.out ++ s'.b)).map strip = (ofK K (s.out ++ s.b)).map strip)
  | 0, s, s', h => by rw [joinN] at h; cases h; exact ⟨fun _ => rfl, fun _ => rfl⟩
  | n + 1, s, s', h => by
    rw [joinN] at h
    split at h
    · rename_i hA
      have hne : s.a ≠ [] := by unfold Jo.tA at hA; intro e; rw [e] at hA; simp at hA
      obtain ⟨x, r, hx⟩ := List.exists_cons_of_ne_nil hne
      obtain ⟨i1, i2⟩ := joinN_key (K := K) n _ _ h
      refine ⟨fun hb => ?_, fun ha => ?_⟩
      · rw [i1 hb, of_strip, of_strip]
        unfold Jo.goA
        rw [hx]
        simp [strip, Rec.to, hd]
      · rw [i2 (fun y hy => ha y (List.mem_of_mem_tail hy)), of_strip, of_strip]
        have h0 := ha x (by rw [hx]; simp)
        unfold Jo.goA
        rw [hx]
        unfold ofK
        have h1 : ske K (strip x) = false := h0
        have h2 : ske K (x.to s.at) = false := h0
        simp [List.filter_append, hd, show ske K (strip (x.to s.at)) = false from h0]
    · split at h
      · rename_i hA hB
        have hne : s.b ≠ [] := by unfold Jo.tB at hB; intro e; rw [e] at hB; simp at hB
        obtain ⟨x, r, hx⟩ := List.exists_cons_of_ne_nil hne
        obtain ⟨i1, i2⟩ := joinN_key (K := K) n _ _ h
        refine ⟨fun hb => ?_, fun ha => ?_⟩
        · rw [i1 (fun y hy => hb y (List.mem_of_mem_tail hy)), of_strip, of_strip]
          have h0 := hb x (by rw [hx]; simp)
          unfold Jo.goB
          rw [hx]
          unfold ofK
          simp [List.filter_append, hd, show ske K (strip (x.to s.at)) = false from h0]
        · rw [i2 ha, of_strip, of_strip]
          unfold Jo.goB
          rw [hx]
          simp [strip, Rec.to, hd]
      · cases h
theorem of_out {r : Rng} {l : List Rec} {K : ByteArray} (h : ∀ x ∈ l, ske K x = true → hasR r x = true) : (ofK K (outOf r l)).map strip = (ofK K l).map strip := by
  rw [out_eq, of_strip, ren_strip, ← of_strip]
  congr 1
  unfold ofK selR
  rw [List.filter_filter]
  apply List.filter_congr
  intro x hx
  cases h1 : ske K x
  · rfl
  · rw [h x hx h1]; rfl
theorem Two.key {p : Part} {k : ByteArray} {out : List Rec} {ta tb : List Int} (h : Two p k out ta tb) (i : Nat) (hi : i < p.recs.length) :
    (ofK (p.recs.getD i default).key out).map strip = (ofK (p.recs.getD i default).key p.recs).map strip := by
  have hg : p.recs.getD i default = p.recs[i] := by simp [hi]
  rw [hg]
  obtain ⟨la, lb, hn, s, hs, rfl, rfl, rfl⟩ := h.jo
  have hh := h.has hi
  obtain ⟨k1, k2⟩ := joinN_key (K := p.recs[i].key) _ _ _ hs
  have same : ∀ x : Rec, ske p.recs[i].key x = true → x.key = p.recs[i].key := fun x hx => lst_iff.1 hx
  have hout : s.end.out = s.out := rfl
  have hea : s.a = [] ∧ s.b = [] := by
    have := run_ok _ (jo0 _ _) s (log_ok la lb hn) hs (Nat.le_refl _)
    exact ⟨this.2.2.1, this.2.2.2⟩
  rw [hout]
  by_cases c : hasR (rLow p.rng k) p.recs[i] = true
  · have hb : ∀ y ∈ (jo0 (outOf (rLow p.rng k) p.recs) (outOf (rHigh p.rng k) p.recs)).b, ske p.recs[i].key y = false := by
      intro y hy
      have hy : y ∈ outOf (rHigh p.rng k) p.recs := hy
      cases hsk : ske p.recs[i].key y
      · rfl
      · exfalso
        rw [out_eq] at hy
        obtain ⟨q, hq, rfl⟩ := List.mem_iff_getElem.1 hy
        have hq2 : q < (selR (rHigh p.rng k) p.recs).length := by simpa [ren_len] using hq
        rw [ren_at _ _ hq2] at hsk
        have e : ((selR (rHigh p.rng k) p.recs)[q]).key = p.recs[i].key := same _ hsk
        have m := (mem_sel.1 (List.getElem_mem hq2)).2
        rw [e] at m
        have m : hasR (rHigh p.rng k) p.recs[i] = true := m
        rw [hh, c] at m; cases m
    have := k1 hb
    rw [hea.1, List.append_nil] at this
    rw [this]
    show (ofK p.recs[i].key ([] ++ outOf (rLow p.rng k) p.recs)).map strip = _
    rw [List.nil_append]
    exact of_out fun x _ hx => by
      have := same x hx
      unfold hasR at c ⊢
      rw [this]; exact c
  · have c' : hasR (rLow p.rng k) p.recs[i] = false := by simpa using c
    rw [c'] at hh
    have ha : ∀ y ∈ (jo0 (outOf (rLow p.rng k) p.recs) (outOf (rHigh p.rng k) p.recs)).a, ske p.recs[i].key y = false := by
      intro y hy
      have hy : y ∈ outOf (rLow p.rng k) p.recs := hy
      cases hsk : ske p.recs[i].key y
      · rfl
      · exfalso
        rw [out_eq] at hy
        obtain ⟨q, hq, rfl⟩ := List.mem_iff_getElem.1 hy
        have hq2 : q < (selR (rLow p.rng k) p.recs).length := by simpa [ren_len] using hq
        rw [ren_at _ _ hq2] at hsk
        have e : ((selR (rLow p.rng k) p.recs)[q]).key = p.recs[i].key := same _ hsk
        have m := (mem_sel.1 (List.getElem_mem hq2)).2
        rw [e] at m
        have m : hasR (rLow p.rng k) p.recs[i] = true := m
        rw [c'] at m; cases m
    have := k2 ha
    rw [hea.2, List.append_nil] at this
    rw [this]
    show (ofK p.recs[i].key ([] ++ outOf (rHigh p.rng k) p.recs)).map strip = _
    rw [List.nil_append]
    exact of_out fun x _ hx => by
      have := same x hx
      have hh : hasR (rHigh p.rng k) p.recs[i] = true := hh
      unfold hasR at hh ⊢
      rw [this]; exact hh
end Go.Proofs.YtckklclehofddaaGreatDoor.D

/-! Lineage, plain: what is parted can be joined again: it is joined. -/
namespace Go.Proofs.YtckklclehofddaaGreatDoor.D
open Go.Ax
set_option maxRecDepth 1000000
theorem two_of {p : Part} {k : ByteArray} (hp : PartTy p) (h : splitE p k = 0) : ∃ out ta tb, Two p k out ta tb := by
  obtain ⟨o1, o2, o3, o4⟩ := split_ok.1 h
  obtain ⟨_, _, lg, _, _, f, _⟩ := ok_parts o1
  have hf := (or_iff p).1 f
  have hr := run_emb hf.2 (part_emb (rLow p.rng k) p.recs) (part_emb (rHigh p.rng k) p.recs)
  obtain ⟨s, hs⟩ := Option.isSome_iff_exists.1 hr
  have hl := two_len o1 o4
  have h4 := log_len lg
  exact ⟨_, _, _, hp, o1, o4, ⟨out_log lg, out_log lg, by omega, s, hs, rfl, rfl, rfl⟩⟩
theorem Two.perm {p : Part} {k : ByteArray} {out : List Rec} {ta tb : List Int} (h : Two p k out ta tb) : (out.map strip).Perm (p.recs.map strip) := by
  have hf := (or_iff p).1 (ok_parts h.ok).2.2.2.2.2.1
  obtain ⟨la, lb, hn, s, hs, rfl, rfl, rfl⟩ := h.jo
  have hea : s.a = [] ∧ s.b = [] := by
    have := run_ok _ (jo0 _ _) s (log_ok la lb hn) hs (Nat.le_refl _)
    exact ⟨this.2.2.1, this.2.2.2⟩
  have := joinN_perm _ _ _ hs
  rw [hea.1, hea.2, List.append_nil, List.append_nil] at this
  refine this.trans ?_
  show ((([] : List Rec) ++ (outOf (rLow p.rng k) p.recs ++ outOf (rHigh p.rng k) p.recs)).map strip).Perm _
  rw [List.nil_append, List.map_append, out_eq, out_eq, ren_strip, ren_strip, ← List.map_append]
  refine List.Perm.map _ ?_
  have e : selR (rHigh p.rng k) p.recs = p.recs.filter fun x => !hasR (rLow p.rng k) x := by
    unfold selR
    exact List.filter_congr fun x hx => side_has h.sp (hf.1 x hx).1
  rw [e]
  exact List.filter_append_perm _ _
theorem strip_f {x y : Rec} (h : strip x = strip y) : x.key = y.key ∧ x.val = y.val ∧ x.prod = y.prod ∧ x.seq = y.seq := by
  simp only [strip, Rec.to, Rec.mk.injEq, true_and] at h
  exact h
theorem Two.mem {p : Part} {k : ByteArray} {out : List Rec} {ta tb : List Int} (h : Two p k out ta tb) {x : Rec} (hx : x ∈ out) : ∃ z ∈ p.recs, strip z = strip x := by
  have := h.perm.subset (List.mem_map_of_mem hx)
  exact List.mem_map.1 this
abbrev pq (x : Rec) : Int × Int := (x.prod, x.seq)
theorem Two.pw {p : Part} {k : ByteArray} {out : List Rec} {ta tb : List Int} (h : Two p k out ta tb) : out.Pairwise up1 := by
  have hf := (or_iff p).1 (ok_parts h.ok).2.2.2.2.2.1
  have hu : ∀ r : Rng, (outOf r p.recs).Pairwise rP := fun r => by
    rw [out_eq]
    have hq : (selR r p.recs).Pairwise up1 := hf.2.sublist List.filter_sublist
    rw [List.pairwise_iff_getElem] at hq ⊢
    intro i j hi hj hij
    rw [ren_at _ _ (by simpa [ren_len] using hi), ren_at _ _ (by simpa [ren_len] using hj)]
    intro e
    have := hq i j (by simpa [ren_len] using hi) (by simpa [ren_len] using hj) hij e
    exact Int.le_of_lt this
  have hr := (jo_all h.jo).jf.ra (hu _) (hu _)
  have hr : out.Pairwise rP := hr
  have n1 : (p.recs.map pq).Nodup := by
    unfold List.Nodup
    rw [List.pairwise_map]
    refine hf.2.imp fun {a b} hab e => ?_
    simp only [pq, Prod.mk.injEq] at e
    have := hab e.1
    omega
  have e1 : ∀ l : List Rec, l.map pq = (l.map strip).map pq := fun l => by rw [List.map_map]; rfl
  have n2 : (out.map pq).Nodup := by
    rw [e1] at n1 ⊢
    exact (h.perm.map pq).nodup_iff.2 n1
  unfold List.Nodup at n2
  rw [List.pairwise_map] at n2
  exact (hr.and n2).imp fun {a b} hab e => by
    have h1 := hab.1 e
    have h2 := hab.2
    rcases Int.lt_or_eq_of_le h1 with h3 | h3
    · exact h3
    · exact absurd (by simp only [pq, Prod.mk.injEq]; exact ⟨e, h3⟩) h2
theorem knP_same {l m : List P.Producer} (h : l.map (fun x => (x.id, x.seq)) = m.map fun x => (x.id, x.seq)) : knP l = knP m := by
  have key : ∀ l : List P.Producer, knP l = (l.map fun x => (x.id, x.seq)).foldl (fun s x => Kn.put s x.1 x.2) kn0 := fun l => by
    unfold knP
    rw [List.foldl_map]
  rw [key, key, h]
theorem cons_map {l : List Con} {J : Con → Con} (hJ : ∀ x, (J x).name = x.name) (h : isCons l = true) : isCons (l.map J) = true := by
  simp only [isCons, Bool.and_eq_true, decide_eq_true_eq] at h ⊢
  refine ⟨(cons_iff _).2 fun k hk => ?_, by simpa using h.2⟩
  have hk : k < l.length := by simpa using hk
  have := (cons_iff _).1 h.1 k hk
  have e : ∀ j, j < l.length → ((l.map J).getD j default).name = (l.getD j default).name := fun j hj => by simp [hj, hJ]
  unfold coOk at this ⊢
  rw [e k hk, e (k - 1) (by omega)]
  exact this
theorem el_bd {t : List Int} {n o : Int} (h : bd t n) (ht : t.length ≠ 0) : 0 ≤ elemO t o ∧ elemO t o ≤ n := by
  unfold elemO
  exact h _ (by omega)
theorem mi_le {x y z : Int} (h : x ≤ z ∨ y ≤ z) : miN x y ≤ z := by unfold miN; split <;> omega
theorem mi_lo {x y z : Int} (h1 : z ≤ x) (h2 : z ≤ y) : z ≤ miN x y := by unfold miN; split <;> omega
theorem cnt_mono {r : Rng} {l : List Rec} {i j : Nat} (h : i ≤ j) : cntR r l i ≤ cntR r l j := by
  unfold cntR selR
  have : l.take i = (l.take j).take i := by rw [List.take_take, Nat.min_eq_left h]
  rw [this]
  exact ((List.take_sublist i (l.take j)).filter _).length_le
/-- what a producer is, joined -/
def oneP (p : Part) (k : ByteArray) (ta tb : List Int) (x : P.Producer) : P.Producer := if x.here = true then ⟨x.id, x.seq, true, posJ p k ta tb x.offset.toNat⟩ else ⟨x.id, x.seq, false, 0⟩
theorem one_id (p : Part) (k : ByteArray) (ta tb : List Int) (x : P.Producer) : (oneP p k ta tb x).id = x.id ∧ (oneP p k ta tb x).seq = x.seq ∧ (oneP p k ta tb x).here = x.here := by
  unfold oneP
  split
  · rename_i h; exact ⟨rfl, rfl, h.symm⟩
  · rename_i h; exact ⟨rfl, rfl, by simp at h; exact h.symm⟩
theorem Two.prods {p : Part} {k : ByteArray} {out : List Rec} {ta tb : List Int} (h : Two p k out ta tb) :
    P.bothL (P.moveL p.prods (toOf (rLow p.rng k) p.recs)) (P.moveL p.prods (toOf (rHigh p.rng k) p.recs)) ta tb = p.prods.map (oneP p k ta tb) := by
  have tb' := (ok_parts h.ok).2.2.2.1
  have hpw : p.prods.Pairwise idLt := (P.rising_pw p.prods).1 ((P.table_iff _).1 tb').2.1
  have ids : ∀ (l : List P.Producer) (t : List Int), (P.moveL l t).map (·.id) = l.map (·.id) := fun l t => by
    unfold P.moveL
    rw [List.map_map]
    exact List.map_congr_left fun x _ => (mv_id t x).1
  rw [bothL_zip (pw_of_ids (by rw [ids, ids]) hpw) (by rw [ids, ids, ids, ids])]
  unfold P.moveL
  rw [List.map_map, List.map_map, List.zipWith_map, List.zipWith_self]
  exact List.map_congr_left fun x hx => mrg_one h hx
/-- what a consumer is, joined -/
def oneC (p : Part) (k : ByteArray) (ta tb : List Int) (x : Con) : Con := ⟨x.name, miN (elemO ta (elemO (toOf (rLow p.rng k) p.recs) x.off)) (elemO tb (elemO (toOf (rHigh p.rng k) p.recs) x.off))⟩
theorem Two.cons {p : Part} {k : ByteArray} {out : List Rec} {ta tb : List Int} (h : Two p k out ta tb) :
    conB (mapU p.cons (toOf (rLow p.rng k) p.recs) p.cons.length) (mapU p.cons (toOf (rHigh p.rng k) p.recs) p.cons.length) ta tb = p.cons.map (oneC p k ta tb) := by
  have hc := cons_pw (ok_parts h.ok).2.2.2.2.1
  have e : ∀ r : Rng, mapU p.cons (toOf r p.recs) p.cons.length = p.cons.map (movC (toOf r p.recs)) := fun r => by
    unfold mapU
    rw [if_neg (by rw [toOf_len]; omega), List.take_length]
  rw [e, e, conB_map (f := movC (toOf (rLow p.rng k) p.recs)) (g := movC (toOf (rHigh p.rng k) p.recs)) hc (fun _ => rfl) (fun _ => rfl)]
  refine List.map_congr_left fun x hx => ?_
  unfold joC oneC
  rw [read_map (f := movC (toOf (rLow p.rng k) p.recs)) hc (fun _ => rfl) hx, read_map (f := movC (toOf (rHigh p.rng k) p.recs)) hc (fun _ => rfl) hx]
  rfl
def mrgOf (p : Part) (k : ByteArray) (out : List Rec) (ta tb : List Int) : Mrg := ⟨frz (partOf p (rLow p.rng k)) 1, frz (partOf p (rHigh p.rng k)) 1, out, ta, tb, p.prods.map (oneP p k ta tb), p.cons.map (oneC p k ta tb)⟩
theorem mrg_ep (p : Part) (k : ByteArray) (out : List Rec) (ta tb : List Int) : (mrgOf p k out ta tb).ep = IntKind.u64.wrap (p.epoch + 2) := by
  have : (mrgOf p k out ta tb).ep = IntKind.u64.wrap ((if IntKind.u64.wrap (p.epoch + 1) > IntKind.u64.wrap (p.epoch + 1) then IntKind.u64.wrap (p.epoch + 1) else IntKind.u64.wrap (p.epoch + 1)) + 1) := rfl
  rw [this, if_neg (by omega), wrap2]
theorem Two.ok2 {p : Part} {k : ByteArray} {out : List Rec} {ta tb : List Int} (h : Two p k out ta tb) (he : IntKind.u64.wrap (p.epoch + 2) ≠ 0) : partOk (mrgOf p k out ta tb).m = true := by
  obtain ⟨a, b, c, d, e, f, g, i⟩ := ok_parts h.ok
  have hf := (or_iff p).1 f
  obtain ⟨ll, lo⟩ := h.len
  have ja := jo_all h.jo
  have key : orFrom (mrgOf p k out ta tb).m 0 = true := by
    rw [or_iff]
    show ordL ⟨p.rng.lo, p.rng.hi⟩ (knP (p.prods.map (oneP p k ta tb))) out
    have e1 : knP (p.prods.map (oneP p k ta tb)) = knP p.prods := knP_same (by
      rw [List.map_map]
      exact List.map_congr_left fun x _ => by
        obtain ⟨q1, q2, _⟩ := one_id p k ta tb x
        show ((oneP p k ta tb x).id, (oneP p k ta tb x).seq) = _
        rw [q1, q2])
    rw [e1]
    refine ⟨fun x hx => ?_, h.pw⟩
    obtain ⟨z, hz, hs⟩ := h.mem hx
    obtain ⟨s1, _, s3, s4⟩ := strip_f hs
    obtain ⟨r1, r2, r3⟩ := hf.1 z hz
    exact ⟨by rw [← s1]; exact r1, by rw [← s4]; exact r2, by rw [← s4, ← s3]; exact r3⟩
  have kl : (mrgOf p k out ta tb).m.prods.any (lostB (mrgOf p k out ta tb).m) = false := by
    rw [lost_all]
    intro y hy
    obtain ⟨x, hx, rfl⟩ := List.mem_map.1 (show y ∈ p.prods.map (oneP p k ta tb) from hy)
    rw [lost_iff]
    intro hh
    obtain ⟨q1, q2, q3⟩ := one_id p k ta tb x
    rw [q3] at hh
    have hl := lost_iff.1 (lost_all.1 g x hx) hh
    have ho := (h.ty.po x hx).1
    obtain ⟨o, eo⟩ : ∃ o : Nat, x.offset = o := ⟨x.offset.toNat, by omega⟩
    have q4 : (oneP p k ta tb x).offset = posJ p k ta tb o := by
      unfold oneP
      rw [if_pos hh, eo, Int.toNat_natCast]
    rw [eo] at hl
    have c2 : o < p.recs.length := by omega
    have hg : p.recs.getD o default = p.recs[o] := by simp [c2]
    rw [Int.toNat_natCast, hg] at hl
    obtain ⟨p1, p2, p3⟩ := h.pos c2
    obtain ⟨_, _, s3, s4⟩ := strip_f p3
    rw [q4, q1, q2]
    refine ⟨p2, ?_, ?_⟩
    · show (out.getD (posJ p k ta tb o).toNat default).prod = _
      rw [s3]; exact hl.2.1
    · show (out.getD (posJ p k ta tb o).toNat default).seq = _
      rw [s4]; exact hl.2.2
  have ka : (mrgOf p k out ta tb).m.cons.any (aheadB (mrgOf p k out ta tb).m.recs.length) = false := by
    rw [List.any_eq_false]
    intro y hy
    obtain ⟨x, hx, rfl⟩ := List.mem_map.1 (show y ∈ p.cons.map (oneC p k ta tb) from hy)
    show ¬ aheadB out.length _ = true
    have h1 := el_bd (o := elemO (toOf (rLow p.rng k) p.recs) x.off) ja.ba (by rw [ja.na]; omega)
    have : (oneC p k ta tb x).off ≤ out.length := mi_le (.inl h1.2)
    simp [aheadB]
    exact this
  have e1 : chkK (mrgOf p k out ta tb).m.rng = 0 := a
  have e2 : (mrgOf p k out ta tb).m.epoch ≠ 0 := by
    show (mrgOf p k out ta tb).ep ≠ 0
    rw [mrg_ep]; exact he
  have c' : isLog (mrgOf p k out ta tb).m.recs = true := ja.jf.lg
  have e' : isCons (mrgOf p k out ta tb).m.cons = true := cons_map (fun _ => rfl) e
  have d' : P.isTable (mrgOf p k out ta tb).m.prods = true := by
    show P.isTable (p.prods.map (oneP p k ta tb)) = true
    rw [← h.prods]
    refine P.table_both ?_
    unfold P.bothE
    rw [move_table _ d, move_table _ d]
    have l2 := tab_len d
    have : (P.bothL (P.moveL p.prods (toOf (rLow p.rng k) p.recs)) (P.moveL p.prods (toOf (rHigh p.rng k) p.recs)) ta tb).length ≤ 256 := by rw [h.prods]; simpa using l2
    simp only [Bool.and_self, Bool.not_true, Bool.false_eq_true, if_false]
    rw [if_neg]
    simp; omega
  simp only [partOk, key, kl, ka, e1, c', d', e']
  simp [e2]
end Go.Proofs.YtckklclehofddaaGreatDoor.D

/-! From the statements to the laws: the data. -/
namespace Go.Proofs.YtckklclehofddaaGreatDoor
open Go.Ax Go.Shelf Go.RowKit Go.ChangeShapes Go.WideShapes Go.ChangeAt
set_option maxRecDepth 1000000
def toI {K : Type} : DataW K → Int
  | .lit (.int _ a) => a
  | _ => 0
def toS {K : Type} : DataW K → ByteArray
  | .lit (.string l) => ⟨l.toArray⟩
  | _ => ByteArray.empty
def toB {K : Type} : DataW K → Bool
  | .lit (.bool b) => b
  | _ => false
theorem encI_ok {K : Type} {k : IntKind} {d : DataW K} (h : (Sh.int k).wf d) : (Sh.int k).enc d = [.y (.int k (toI d))] := by
  obtain ⟨k', n, rfl, _⟩ := h
  rfl
theorem encS_ok {K : Type} {d : DataW K} (h : Sh.str.wf d) : Sh.str.enc d = [.y (.string (toS d))] := by
  obtain ⟨l, rfl, _⟩ := h
  rfl
theorem encO_ok {K : Type} {d : DataW K} (h : Sh.bool.wf d) : Sh.bool.enc d = [.y (.bool (toB d))] := by
  obtain ⟨l, rfl⟩ := h
  rfl
theorem enc_st {K : Type} (fs : List Sh) (ds : List (DataW K)) : (Sh.st fs).enc (.agg ds) = Sh.encL fs ds := by simp only [Sh.enc]
theorem enc_cons {K : Type} (s : Sh) (r : List Sh) (d : DataW K) (ds : List (DataW K)) : Sh.encL (s :: r) (d :: ds) = s.enc d ++ Sh.encL r ds := by simp only [Sh.encL]
theorem enc_nil {K : Type} (l : List (DataW K)) : Sh.encL [] l = [] := by simp only [Sh.encL]
theorem relA {P : Program} {W : World} {r : Reach} {base : Nat} {t : TypeId} {v : Value} {fs : Array Field} {l : List AV} {H : HH} {E : Env} (hu : P.underlying t = some (.struct fs)) (hv : Value.okWide P W r base t v) (h : RelL l H E v.cells.toList) : Rel (.agg l) H E v := by
  obtain ⟨cs, rfl, _⟩ := okWide_struct hu hv
  exact ⟨cs, rfl, h⟩
theorem str_size {K : Type} {d : DataW K} (h : Sh.str.wf d) : (toS d).size ≤ 9223372036854775807 := by
  obtain ⟨l, rfl, hl⟩ := h
  show l.toArray.size ≤ _
  rw [List.size_toArray]
  exact hl
theorem Tryz.own : ownKnob Tryz.prog.godebug = Option.none := by kernel_rfl
theorem Tryz.laidOut : laidOutB Tryz.prog = true := by kernel_rfl
theorem Tryz.mapsRowed : mapsRowed Tryz.prog = true := by kernel_rfl
theorem Tryz.slicesOk : slicesOk Tryz.prog = true := by kernel_rfl
theorem underBool : Tryz.prog.underlying 4 = some .bool := by kernel_rfl
def structTypes (P : Program) (t : TypeId) : Option (List TypeId) := match P.underlying t with | some (.struct fs) => some (fs.toList.map (·.type)) | _ => Option.none
theorem structTypes_ok {P : Program} {t : TypeId} {l : List TypeId} (h : structTypes P t = some l) : ∃ fs, P.underlying t = some (.struct fs) ∧ fs.toList.map (·.type) = l := by
  unfold structTypes at h
  split at h
  · rename_i fs hu
    exact ⟨fs, hu, Option.some.inj h⟩
  · cases h
end Go.Proofs.YtckklclehofddaaGreatDoor

/-! From the statements to the laws: records, consumers, producers, states. -/
namespace Go.Proofs.YtckklclehofddaaGreatDoor
open Go.Ax Go.Shelf Go.RowKit Go.ChangeShapes Go.WideShapes Go.ChangeAt
set_option maxRecDepth 1000000
def shRec : Sh := .st [.int .u64, .str, .sl (.int .u8), .int .u64, .int .u64]
def toRec {K : Type} : DataW K → Rec
  | .agg [a, b, c, d, e] => ⟨toI a, toS b, listOf toI c, toI d, toI e⟩
  | _ => default
theorem relB {K : Type} {d : DataW K} (hd : (Sh.sl (.int .u8)).wf d) {H : HH} {E : Env} {v : Value} (h : Rel (slAV (.int .u8) d) H E v) : Rel (encBs true (listOf toI d)) H E v := conv_sl (encA := encB) (fun x hx => encI_ok hx) hd h
theorem rec_enc {K : Type} {d : DataW K} (hd : shRec.wf d) : ∃ a b c e f, d = .agg [a, b, c, e, f] ∧ (Sh.sl (.int .u8)).wf c ∧ shRec.enc d = [.y (.int .u64 (toI a)), .y (.string (toS b)), slAV (.int .u8) c, .y (.int .u64 (toI e)), .y (.int .u64 (toI f))] := by
  obtain ⟨ds, rfl, d1, r1, rfl, w1, d2, r2, rfl, w2, d3, r3, rfl, w3, d4, r4, rfl, w4, d5, r5, rfl, w5, rfl⟩ := hd
  refine ⟨d1, d2, d3, d4, d5, rfl, w3, ?_⟩
  simp only [shRec, enc_st, enc_cons, enc_nil, encI_ok w1, encS_ok w2, slAV_eq, encI_ok w4, encI_ok w5]
  rfl
theorem rec_conv {K : Type} {d : DataW K} (hd : shRec.wf d) (j : Nat) (hj : j < 5) (H : HH) (E : Env) (v : Value) (h : Rel (Ax.get (shRec.enc d) j) H E v) : Rel (Ax.get (encR (toRec d)) j) H E v := by
  obtain ⟨a, b, c, e, f, rfl, wc, he⟩ := rec_enc hd
  rw [he] at h
  match j, hj with
  | 0, _ => exact h
  | 1, _ => exact h
  | 2, _ => exact relB wc h
  | 3, _ => exact h
  | 4, _ => exact h
theorem relRs {K : Type} {d : DataW K} (hd : (Sh.sl shRec).wf d) {H : HH} {E : Env} {v : Value} (h : Rel (slAV shRec d) H E v) : Rel (encRs true (listOf toRec d)) H E v :=
  conv_slR (encA := encR) (fun x hx j hj H E v => rec_conv hx j hj H E v) hd h
theorem undRs : Tryz.prog.underlying 26 = some (.slice 37) := by kernel_rfl
theorem bytesR : Tryz.prog.bytesOf 37 = 64 := by kernel_rfl
theorem rs_sized {K : Type} {d : DataW K} (hw : (d.weights Tryz.prog 26).all (· ≤ reachBytes) = true) : (listOf toRec d).length * 64 ≤ 140737488351232 := by
  have := weights_slice toRec undRs hw
  rwa [bytesR] at this
def shCon : Sh := .st [.str, .int .u64]
def toC {K : Type} : DataW K → Con
  | .agg [a, b] => ⟨toS a, toI b⟩
  | _ => default
theorem off_of {K : Type} {d : DataW K} (h : (Sh.int .u64).wf d) : offOk (toI d) := by
  obtain ⟨k, n, rfl, w⟩ := h
  have := bounds_u64 w
  exact ⟨by show 0 ≤ n; omega, by show n < _; omega⟩
theorem toC_ok {K : Type} {d : DataW K} (h : shCon.wf d) : shCon.enc d = encC (toC d) ∧ offOk (toC d).off := by
  obtain ⟨ds, rfl, d1, r1, rfl, w1, d2, r2, rfl, w2, rfl⟩ := h
  refine ⟨?_, off_of w2⟩
  simp only [shCon, enc_st, enc_cons, enc_nil, encS_ok w1, encI_ok w2]
  rfl
theorem wf_cons {K : Type} {d : DataW K} (h : (Sh.sl shCon).wf d) : wfC (listOf toC d) := by
  rcases h with rfl | ⟨xs, r, rfl, hx⟩
  · intro y hy; cases hy
  · intro y hy
    obtain ⟨x, hx', rfl⟩ := List.mem_map.1 hy
    exact (toC_ok (hx x hx')).2
theorem relCs {K : Type} {d : DataW K} (hd : (Sh.sl shCon).wf d) {H : HH} {E : Env} {v : Value} (h : Rel (slAV shCon d) H E v) : Rel (encCs true (listOf toC d)) H E v := conv_sl (fun x hx => (toC_ok hx).1) hd h
theorem undCs : Tryz.prog.underlying 28 = some (.slice 41) := by kernel_rfl
theorem bytesC : Tryz.prog.bytesOf 41 = 24 := by kernel_rfl
def shPro : Sh := .st [.int .u64, .int .u64, .bool, .int .u64]
def toPro {K : Type} : DataW K → P.Producer
  | .agg [a, b, c, e] => ⟨toI a, toI b, toB c, toI e⟩
  | _ => default
theorem toPro_ok {K : Type} {d : DataW K} (h : shPro.wf d) : shPro.enc d = P.encP (toPro d) ∧ offOk (toPro d).offset := by
  obtain ⟨ds, rfl, d1, r1, rfl, w1, d2, r2, rfl, w2, d3, r3, rfl, w3, d4, r4, rfl, w4, rfl⟩ := h
  refine ⟨?_, off_of w4⟩
  simp only [shPro, enc_st, enc_cons, enc_nil, encI_ok w1, encI_ok w2, encO_ok w3, encI_ok w4]
  rfl
theorem wf_prods {K : Type} {d : DataW K} (h : (Sh.sl shPro).wf d) : ∀ x ∈ listOf toPro d, 0 ≤ x.offset ∧ x.offset < 18446744073709551616 := by
  rcases h with rfl | ⟨xs, r, rfl, hx⟩
  · intro y hy; cases hy
  · intro y hy
    obtain ⟨x, hx', rfl⟩ := List.mem_map.1 hy
    exact (toPro_ok (hx x hx')).2
theorem relPs {K : Type} {d : DataW K} (hd : (Sh.sl shPro).wf d) {H : HH} {E : Env} {v : Value} (h : Rel (slAV shPro d) H E v) : Rel (P.encPs true (listOf toPro d)) H E v := conv_sl (fun x hx => (toPro_ok hx).1) hd h
theorem undPs : Tryz.prog.underlying 27 = some (.slice 39) := by kernel_rfl
theorem bytesP : Tryz.prog.bytesOf 39 = 32 := by kernel_rfl
def shRng : Sh := .st [.str, .str]
def toRng {K : Type} : DataW K → Rng
  | .agg [a, b] => ⟨toS a, toS b⟩
  | _ => default
theorem toRng_ok {K : Type} {d : DataW K} (h : shRng.wf d) : shRng.enc d = encG (toRng d) := by
  obtain ⟨ds, rfl, d1, r1, rfl, w1, d2, r2, rfl, w2, rfl⟩ := h
  simp only [shRng, enc_st, enc_cons, enc_nil, encS_ok w1, encS_ok w2]
  rfl
def shPart : Sh := .st [shRng, .int .u64, .int .u64, .sl shRec, .sl shPro, .sl shCon]
def toPart {K : Type} : DataW K → Part
  | .agg [a, b, c, e, f, g] => ⟨toRng a, toI b, toI c, listOf toRec e, listOf toPro f, listOf toC g⟩
  | _ => default
theorem relPart {K : Type} {d : DataW K} (hd : shPart.wf d) {H : HH} {E : Env} {vs : List Value} (h : RelL (shPart.enc d) H E vs) : RelL (encPt true (toPart d)) H E vs := by
  obtain ⟨ds, rfl, d1, r1, rfl, w1, d2, r2, rfl, w2, d3, r3, rfl, w3, d4, r4, rfl, w4, d5, r5, rfl, w5, d6, r6, rfl, w6, rfl⟩ := hd
  have e : shPart.enc (DataW.agg [d1, d2, d3, d4, d5, d6]) = [.y (.string (toRng d1).lo), .y (.string (toRng d1).hi), .y (.int .u64 (toI d2)), .y (.int .u64 (toI d3)), slAV shRec d4, slAV shPro d5, slAV shCon d6] := by
    simp only [shPart, enc_st, enc_cons, enc_nil, slAV_eq, toRng_ok w1, encI_ok w2, encI_ok w3]
    rfl
  rw [e] at h
  obtain ⟨v1, x1, rfl, h1, v2, x2, rfl, h2, v3, x3, rfl, h3, v4, x4, rfl, h4, v5, x5, rfl, h5, v6, x6, rfl, h6, v7, x7, rfl, h7, rfl⟩ := h
  exact ⟨_, _, rfl, h1, _, _, rfl, h2, _, _, rfl, h3, _, _, rfl, h4, _, _, rfl, relRs w4 h5, _, _, rfl, relPs w5 h6, _, _, rfl, relCs w6 h7, rfl⟩
theorem undPart : ∃ fs, Tryz.prog.underlying 30 = some (.struct fs) ∧ fs.toList.map (·.type) = [24, 25, 25, 26, 27, 28] := structTypes_ok (by kernel_rfl)
structure PartSz (p : Part) : Prop where
  rl : p.recs.length * 64 ≤ 140737488351232
  pl : p.prods.length * 32 ≤ 140737488351232
  cl : p.cons.length * 24 ≤ 140737488351232
  po : ∀ x ∈ p.prods, 0 ≤ x.offset ∧ x.offset < 18446744073709551616
  co : wfC p.cons
theorem part_sz {K : Type} {d : DataW K} (hd : shPart.wf d) (hw : (d.weights Tryz.prog 30).all (· ≤ reachBytes) = true) : PartSz (toPart d) := by
  obtain ⟨ds, rfl, d1, r1, rfl, w1, d2, r2, rfl, w2, d3, r3, rfl, w3, d4, r4, rfl, w4, d5, r5, rfl, w5, d6, r6, rfl, w6, rfl⟩ := hd
  obtain ⟨fs, hf, ht⟩ := undPart
  have h := weights_struct hf hw
  rw [ht] at h
  obtain ⟨h1, h⟩ := weights_cons h
  obtain ⟨h2, h⟩ := weights_cons h
  obtain ⟨h3, h⟩ := weights_cons h
  obtain ⟨h4, h⟩ := weights_cons h
  obtain ⟨h5, h⟩ := weights_cons h
  obtain ⟨h6, h⟩ := weights_cons h
  have k5 := weights_slice toPro undPs h5
  have k6 := weights_slice toC undCs h6
  rw [bytesP] at k5
  rw [bytesC] at k6
  exact ⟨rs_sized h4, k5, k6, wf_prods w5, wf_cons w6⟩
end Go.Proofs.YtckklclehofddaaGreatDoor

/-! Lineage: the law Back; from the statement to it. -/
namespace Go.Proofs.YtckklclehofddaaGreatDoor.D
open Go.Ax Go.Shelf Go.RowKit Go.ChangeShapes Go.WideShapes Go.ChangeAt
set_option maxRecDepth 1000000
theorem Two.mrg {p : Part} {k : ByteArray} {out : List Rec} {ta tb : List Int} (h : Two p k out ta tb) (h1 : IntKind.u64.wrap (p.epoch + 1) ≠ 0) (he : IntKind.u64.wrap (p.epoch + 2) ≠ 0) : MrgOk (mrgOf p k out ta tb) := by
  obtain ⟨a, b, c, d, e, f, g, i⟩ := ok_parts h.ok
  obtain ⟨ll, lo⟩ := h.len
  have ja := jo_all h.jo
  have l2 := tab_len d
  have l3 := con_len e
  have tA := ty_of h.ty ll (rLow p.rng k) 1
  have tB := ty_of h.ty ll (rHigh p.rng k) 1
  have kA := part_ok h.ty h.ok (low_chk h.sp) h1
  have kB := part_ok h.ty h.ok (high_chk h.sp) h1
  have bA : bad (frz (partOf p (rLow p.rng k)) 1) = false := by
    unfold bad
    rw [frz_ok, kA]
    have : IntKind.u64.wrap ((frz (partOf p (rLow p.rng k)) 1).epoch + 1) ≠ 0 := by
      show IntKind.u64.wrap (IntKind.u64.wrap (p.epoch + 1) + 1) ≠ 0
      rw [wrap2]; exact he
    simp [this]
  have bB : bad (frz (partOf p (rHigh p.rng k)) 1) = false := by
    unfold bad
    rw [frz_ok, kB]
    have : IntKind.u64.wrap ((frz (partOf p (rHigh p.rng k)) 1).epoch + 1) ≠ 0 := by
      show IntKind.u64.wrap (IntKind.u64.wrap (p.epoch + 1) + 1) ≠ 0
      rw [wrap2]; exact he
    simp [this]
  have lA : (P.moveL p.prods (toOf (rLow p.rng k) p.recs)).length = p.prods.length := by simp [P.moveL]
  have lB : (P.moveL p.prods (toOf (rHigh p.rng k) p.recs)).length = p.prods.length := by simp [P.moveL]
  have cA : (mapU p.cons (toOf (rLow p.rng k) p.recs) p.cons.length).length = p.cons.length := map_len _ _ (by rw [toOf_len]; omega)
  have cB : (mapU p.cons (toOf (rHigh p.rng k) p.recs) p.cons.length).length = p.cons.length := map_len _ _ (by rw [toOf_len]; omega)
  have na : ta.length ≤ 4097 := by
    have := ja.na
    have := ja.n
    omega
  have nb : tb.length ≤ 4097 := by
    have := ja.nb
    have := ja.n
    omega
  have pe : P.bothE (P.moveL p.prods (toOf (rLow p.rng k) p.recs)) (P.moveL p.prods (toOf (rHigh p.rng k) p.recs)) ta tb = 0 := by
    unfold P.bothE
    rw [move_table _ d, move_table _ d]
    have : (P.bothL (P.moveL p.prods (toOf (rLow p.rng k) p.recs)) (P.moveL p.prods (toOf (rHigh p.rng k) p.recs)) ta tb).length ≤ 256 := by rw [h.prods]; simpa using l2
    simp only [Bool.and_self, Bool.not_true, Bool.false_eq_true, if_false]
    rw [if_neg]
    simp; omega
  have ce : bothE (mapU p.cons (toOf (rLow p.rng k) p.recs) p.cons.length) (mapU p.cons (toOf (rHigh p.rng k) p.recs) p.cons.length) ta tb = 0 := by
    have q1 : ¬ ta.length = 0 := by have := ja.na; omega
    have q2 : ¬ tb.length = 0 := by have := ja.nb; omega
    have q3 : (boU (mapU p.cons (toOf (rLow p.rng k) p.recs) p.cons.length) (mapU p.cons (toOf (rHigh p.rng k) p.recs) p.cons.length) ta tb (mapU p.cons (toOf (rLow p.rng k) p.recs) p.cons.length ++ mapU p.cons (toOf (rHigh p.rng k) p.recs) p.cons.length).length).length ≤ 64 := by
      have : (conB (mapU p.cons (toOf (rLow p.rng k) p.recs) p.cons.length) (mapU p.cons (toOf (rHigh p.rng k) p.recs) p.cons.length) ta tb).length ≤ 64 := by rw [h.cons]; simpa using l3
      exact this
    unfold bothE
    rw [map_cons (by rw [toOf_len]; omega) e, map_cons (by rw [toOf_len]; omega) e]
    simp only [q1, q2, decide_false, Bool.or_false, Bool.not_true, Bool.false_eq_true, if_false]
    rw [if_neg]
    simp only [decide_eq_true_eq]
    omega
  refine ⟨⟨tA, tB, bA, bB, ?_⟩, ?_, h.jo, ?_, pe, h.prods.symm, ?_, ce, h.cons.symm, ?_, h.ok2 he⟩
  · show live2 (frz (partOf p (rLow p.rng k)) 1) (frz (partOf p (rHigh p.rng k)) 1) = false
    rfl
  · show kmE (rLow p.rng k) (rHigh p.rng k) = 0
    have s := spl_ok h.sp
    have hne : k.data.toList ≠ [] := by
      obtain ⟨_, _, m1, _⟩ := has_iff.1 s.2.2.2
      rcases m1 with m1 | m1
      · exact lt_nil m1
      · exact absurd m1.symm s.2.2.1
    unfold kmE
    rw [low_chk h.sp, high_chk h.sp]
    have e1 : (rLow p.rng k).hi = k := rfl
    have e2 : (rHigh p.rng k).lo = k := rfl
    rw [e1, e2]
    have e3 : (k.data.toList == []) = false := by
      cases hk : k.data.toList with
      | nil => exact absurd hk hne
      | cons _ _ => rfl
    rw [e3]
    simp
  · exact ⟨by show (P.moveL p.prods _).length * 32 ≤ _; rw [lA]; omega, by show (P.moveL p.prods _).length * 32 ≤ _; rw [lB]; omega, by show ta.length ≤ _; omega, by show tb.length ≤ _; omega, tA.po, tB.po⟩
  · exact ⟨by show (mapU _ _ _).length ≤ _; rw [cA]; omega, by show (mapU _ _ _).length ≤ _; rw [cB]; omega, tA.co, tB.co, by show ta.length ≤ _; omega, by show tb.length ≤ _; omega⟩
  · refine ⟨by show out.length ≤ _; omega, by show (p.prods.map _).length ≤ _; simp; omega, by show (p.cons.map _).length ≤ _; simp; omega, fun j hj => ?_⟩
    have hj : j < p.prods.length := by have hj : j < (p.prods.map (oneP p k ta tb)).length := hj; simpa using hj
    show 0 ≤ ((p.prods.map (oneP p k ta tb)).getD j default).offset
    have hx : p.prods[j] ∈ p.prods := List.getElem_mem hj
    have e1 : (p.prods.map (oneP p k ta tb)).getD j default = oneP p k ta tb p.prods[j] := by simp [hj]
    rw [e1]
    unfold oneP
    split
    · rename_i hh
      have hl := lost_iff.1 (lost_all.1 g _ hx) hh
      have ho := (h.ty.po _ hx).1
      exact (h.pos (o := p.prods[j].offset.toNat) (by omega)).1
    · exact Int.le_refl _
theorem Two.bck {p : Part} {k : ByteArray} {out : List Rec} {ta tb : List Int} (h : Two p k out ta tb) (A B : Part) (e0 : Int) : BckOk ⟨p, k, A, B, (mrgOf p k out ta tb).m, e0⟩ := by
  obtain ⟨a, b, c, d, e, f, g, i⟩ := ok_parts h.ok
  obtain ⟨ll, lo⟩ := h.len
  have ja := jo_all h.jo
  have hnd := jo_nd h.jo
  have l2 := tab_len d
  have l3 := con_len e
  have pAt : ∀ i, i < p.prods.length → (mrgOf p k out ta tb).m.prods.getD i default = oneP p k ta tb (p.prods.getD i default) := fun i hi => by
    show (p.prods.map (oneP p k ta tb)).getD i default = _
    simp [hi]
  have cAt : ∀ i, i < p.cons.length → (mrgOf p k out ta tb).m.cons.getD i default = oneC p k ta tb (p.cons.getD i default) := fun i hi => by
    show (p.cons.map (oneC p k ta tb)).getD i default = _
    simp [hi]
  have oc : ∀ i, i < p.cons.length → 0 ≤ (p.cons.getD i default).off ∧ (p.cons.getD i default).off ≤ p.recs.length := fun j hj => by
    have hx : p.cons[j] ∈ p.cons := List.getElem_mem hj
    have e1 : p.cons.getD j default = p.cons[j] := by simp [hj]
    rw [e1]
    refine ⟨(h.ty.co _ hx).1, ?_⟩
    have := (List.any_eq_false.1 i) _ hx
    simp [aheadB] at this
    exact this
  have bA : ∀ x, 0 ≤ elemO ta x ∧ elemO ta x ≤ out.length := fun x => el_bd ja.ba (by rw [ja.na]; omega)
  have bB : ∀ x, 0 ≤ elemO tb x ∧ elemO tb x ≤ out.length := fun x => el_bd ja.bb (by rw [ja.nb]; omega)
  have hc : ∀ i, i < p.cons.length → ((mrgOf p k out ta tb).m.cons.getD i default).name = (p.cons.getD i default).name ∧ 0 ≤ ((mrgOf p k out ta tb).m.cons.getD i default).off ∧ ((mrgOf p k out ta tb).m.cons.getD i default).off ≤ out.length := fun i hi => by
    rw [cAt i hi]
    exact ⟨rfl, mi_lo (bA _).1 (bB _).1, mi_le (.inl (bA _).2)⟩
  refine ⟨rfl, lo, ll, by show (p.prods.map _).length = _; simp, l2, by show (p.cons.map _).length = _; simp, l3, fun i hi => ?_, hc, oc, fun i hi j hj ho => ?_, fun i hi => ?_⟩
  · show ((mrgOf p k out ta tb).m.prods.getD i default).id = _ ∧ _
    rw [pAt i hi]
    exact one_id p k ta tb _
  · obtain ⟨c1, c2, c3⟩ := hc i hi
    obtain ⟨o1, o2⟩ := oc i hi
    have ho : (p.cons.getD i default).off ≤ (j : Int) := ho
    have hj : j < p.recs.length := hj
    have hg : p.recs.getD j default = p.recs[j] := by simp [hj]
    obtain ⟨p1, p2, p3⟩ := h.pos hj
    have lr : ∀ (r : Rng) (t : List Int), nd t → t.length = (outOf r p.recs).length + 1 → elemO t (elemO (toOf r p.recs) (p.cons.getD i default).off) ≤ t.getD (cntR r p.recs j) 0 := fun r t hn ht => by
      rw [el_eq ll o1]
      have m1 := cnt_len r p.recs (min (p.cons.getD i default).off p.recs.length).toNat
      have m2 : cntR r p.recs (min (p.cons.getD i default).off p.recs.length).toNat ≤ cntR r p.recs j := cnt_mono (by omega)
      have m3 := cnt_len r p.recs j
      have m4 := out_len r p.recs
      unfold elemO
      rw [show (min (cntR r p.recs (min (p.cons.getD i default).off p.recs.length).toNat : Int) ((t.length : Int) - 1)).toNat = cntR r p.recs (min (p.cons.getD i default).off p.recs.length).toNat by omega]
      exact hn _ _ m2 (by omega)
    have hle : ((mrgOf p k out ta tb).m.cons.getD i default).off ≤ posJ p k ta tb j := by
      rw [cAt i hi]
      refine mi_le ?_
      unfold posJ
      split
      · exact .inl (lr _ _ hnd.1 ja.na)
      · exact .inr (lr _ _ hnd.2 ja.nb)
    show [strip (p.recs.getD j default)].Sublist ((out.drop ((mrgOf p k out ta tb).m.cons.getD i default).off.toNat).map strip)
    generalize ((mrgOf p k out ta tb).m.cons.getD i default).off = q at *
    generalize posJ p k ta tb j = w at *
    rw [List.singleton_sublist, hg, ← p3]
    refine List.mem_map_of_mem ?_
    have hw : w.toNat < out.length := by omega
    have e1 : out.getD w.toNat default = out[w.toNat] := by simp [hw]
    rw [e1, List.mem_iff_getElem]
    exact ⟨w.toNat - q.toNat, by simp; omega, by simp; congr 1; omega⟩
  · have hi : i < p.recs.length := hi
    have hk := h.key i hi
    have e1 : oneK ⟨p, k, A, B, (mrgOf p k out ta tb).m, e0⟩ i p.recs.length = ofK (p.recs.getD i default).key p.recs := by
      show ofK _ (p.recs.take p.recs.length) = _
      rw [List.take_length]; rfl
    have e2 : twoK ⟨p, k, A, B, (mrgOf p k out ta tb).m, e0⟩ i p.recs.length = ofK (p.recs.getD i default).key out := by
      show ofK _ (out.take p.recs.length) = _
      rw [List.take_of_length_le (by omega)]; rfl
    show (oneK ⟨p, k, A, B, (mrgOf p k out ta tb).m, e0⟩ i p.recs.length).length = (twoK ⟨p, k, A, B, (mrgOf p k out ta tb).m, e0⟩ i p.recs.length).length ∧ _
    rw [e1, e2]
    refine ⟨by have := congrArg List.length hk; simpa using this.symm, ?_⟩
    rw [hk]
    exact List.Sublist.refl _
theorem back_c (p : Part) (k : ByteArray) (hp : PartTy p) (hk : k.size ≤ 9223372036854775807) :
    (boolR true).Sat (ACall' Tryz.prog 6 [.agg (encPt true p), .y (.string k)] []) := by
  have h0 := split_c p k hp hk
  unfold splitT at h0
  by_cases h1 : splitE p k = 0
  · rw [h1] at h0
    have hs : SplR p k (partOf p (rLow p.rng k)) (partOf p (rHigh p.rng k)) 0 := ⟨ret_as (r := .tup [.agg (encPt true (partOf p (rLow p.rng k))), .agg (encPt true (partOf p (rHigh p.rng k))), .s (.int .i64 0)]) (fun _ _ _ h => h) fun Q hq => h0 Q ⟨fun _ => hq, fun e => by simp at e⟩⟩
    obtain ⟨out, ta, tb, h2⟩ := two_of hp h1
    have o2 := (split_ok.1 h1).2.1
    refine bc_c ⟨p, k, partOf p (rLow p.rng k), partOf p (rHigh p.rng k), (mrgOf p k out ta tb).m, 0⟩ hs fun _ he => ?_
    have he : 2 ≤ IntKind.u64.wrap (p.epoch + 2) := he
    exact ⟨⟨m9_c (mrgOf p k out ta tb) (h2.mrg o2 (by omega))⟩, h2.bck _ _ _⟩
  · refine bc_c ⟨p, k, default, default, default, splitE p k⟩ ⟨fun Q hq => h0 Q ⟨fun e => by simp at e; exact absurd e h1, fun _ => hq⟩⟩ fun e => absurd e h1
theorem ty_sz3 {p : Part} (h : PartSz p) : PartTy p := by
  obtain ⟨h1, h2, h3, h4, h5⟩ := h
  exact ⟨by omega, by omega, by omega, h4, h5⟩
def lineageBack_laidL : List (String × DataW Unit) := Rows.lineageBackRow.laid
noncomputable def lineageBack_layW (os : Os) : World := World.laidAll Tryz.prog os lineageBack_laidL
theorem lineageBack_lay_met (os : Os) (args : Array Value) : laidMetH Tryz.prog lineageBack_laidL ((lineageBack_layW os).forCall (fun _ _ => 0) ⟨#[], args, []⟩).memory := by
  have e : ∀ w, laidMetH Tryz.prog lineageBack_laidL w = laidMet Tryz.prog lineageBack_laidL w := fun w => by kernel_rfl
  rw [e]
  exact laidMet_laidAll args (by kernel_rfl) (by kernel_rfl)
theorem lineageBack_lifted (os : Os) (started : os.Started) (K : Type) (enc : TypeId × Value → K) :
    ReturnsInHanded {} Tryz.checked os 6 .any (fun w args => (Rows.lineageBackSpec.pre enc Tryz.prog Tryz.f6 [] false w args ∧ laidMetH Tryz.prog lineageBack_laidL w) ∧ sizedMet enc Tryz.prog Tryz.f6 (OpenSpec.ofChange Rows.lineageBackSpec) false w args)
      (Rows.lineageBackSpec.post enc Tryz.prog Tryz.f6 false true false false) := by
  refine returnsInHanded_of_change_and (C := Tryz.checked) (X := fun w _ => laidMetH Tryz.prog lineageBack_laidL w) (fun _ _ _ hh h => h.of_heap hh) Tryz.own started (by kernel_rfl) Tryz.func6
    (ChangeSpec.witness_at (enc := enc) (C := Tryz.checked) (os := os) (X := fun w _ => laidMetH Tryz.prog lineageBack_laidL w) false (lineageBack_layW os) #[.agg #[.string ⟨#[]⟩, .string ⟨#[]⟩, .int .u64 0, .int .u64 0, .slice Option.none 0 0, .slice Option.none 0 0, .slice Option.none 0 0], .string ⟨#[]⟩] 8 rfl (by kernel_rfl) (by kernel_rfl) (by kernel_rfl) (by kernel_rfl) (by kernel_rfl) (lineageBack_lay_met os _)) ?_
  intro W base args ds gs before hval0 hW hcnd hsz _ _
  have hps : Tryz.f6.params.toList = [30, 9] := by kernel_rfl
  obtain ⟨p, q, hA, hV, hbef, hfz, hnd⟩ := id hW
  rw [hps] at hA hsz
  have ⟨hr, hwf⟩ := lift_all [shPart, .str] (by kernel_rfl) hA
  obtain ⟨v1, v2, d1, d2, _, _, e1, rfl, _, _, _⟩ := trodAll_two hA
  obtain ⟨_, _, g1, w1, _, _, g2, w2, _⟩ := hwf
  obtain ⟨rfl, q1⟩ := List.cons.inj g1
  subst q1
  obtain ⟨rfl, _⟩ := List.cons.inj g2
  subst e1
  obtain ⟨h1, hs1⟩ := weights_cons (P := Tryz.prog) (t := 30) (d := d1) hsz
  obtain ⟨h2, hs2⟩ := weights_cons (P := Tryz.prog) (t := 9) (d := d2) hs1
  have r1 := hr.1
  obtain ⟨fs1, hf1, _⟩ := undPart
  have r1 := relA hf1 (hval0 0 _ _ (by kernel_rfl) rfl) (relPart w1 r1)
  have r2 := hr.2.1
  rw [encS_ok w2] at r2
  obtain ⟨n2, rfl⟩ := okWide_string (show Tryz.prog.underlying 9 = some .string by kernel_rfl) (hval0 1 _ _ (by kernel_rfl) rfl)
  obtain ⟨_, _, er, r2, _⟩ := r2
  cases er
  refine open_calls (call_of (back_c _ _ (ty_sz3 (part_sz w1 h1)) (str_size w2))) (t := 4) (ds := [d1, d2]) ⟨_, _, rfl, r1, _, _, rfl, r2, rfl⟩ (by kernel_rfl) underBool rfl rfl Tryz.laidOut Tryz.mapsRowed Tryz.slicesOk (by rw [hps]; intro t ht; simp only [List.mem_cons, List.not_mem_nil, or_false] at ht; rcases ht with rfl | rfl <;> exact of_decide_eq_true (by kernel_rfl)) hW
theorem lineageBack_holds : Rows.LineageBackSaid :=
  OpenClaim.holds_of_wide 6 Tryz.f6 rfl rfl rfl rfl rfl rfl rfl ⟨rfl, rfl, rfl, rfl, rfl⟩ rfl rfl rfl rfl rfl (by kernel_rfl) Tryz.func6 (by kernel_rfl)
    (of_decide_eq_true (by kernel_rfl)) (by unfold Func.isWrapper; first | (rw [if_pos (by decide +kernel)]; kernel_rfl) | (rw [if_neg (by decide +kernel)]; exact ⟨rfl, rfl⟩))
    (fun os started H enc _ => lineageBack_lifted os started H enc)
theorem lineageBack_said : Rows.LineageBackCardSaid :=
  Claim7.holds_tied_plain_at .later [] [.data, .pinned] true (true, "2178a0abd1c3215b494c4ba3807e31ca51ad02823946fccec094b9321f61a96a") true
    lineageBack_holds (fun _ h => by cases h) (by kernel_rfl) (fun _ h => by cases h) lineageBack_row_tie rfl ⟨rfl, rfl⟩ (by kernel_rfl) rfl
    (fun f fn hf hfn => by
      obtain rfl : f = 6 := Option.some.inj ((show Tryz.prog.funcNamed "gazette/gazettelaw17.LineageBack" = some 6 by kernel_rfl).symm.trans hf) |>.symm
      obtain rfl : fn = Tryz.f6 := (Option.some.inj (Tryz.func6.symm.trans hfn)).symm
      exact ⟨by kernel_rfl, fun j t ht => by
        rw [show Tryz.f6.params = #[30, 9] by kernel_rfl] at ht
        have h3 : t = 30 ∨ t = 9 := by
          rcases j with _ | _ | j
          · exact Or.inl (by simpa using ht.symm)
          · exact Or.inr ((by simpa using ht.symm))
          · simp at ht
        rcases h3 with rfl | rfl
        · exact (show Tryz.prog.wantsStandIn 30 = false by kernel_rfl)
        · exact (show Tryz.prog.wantsStandIn 9 = false by kernel_rfl)⟩)
    (by kernel_rfl)
end Go.Proofs.YtckklclehofddaaGreatDoor.D
namespace Go.Proofs.YtckklclehofddaaGreatDoor
theorem back_said : Rows.LineageBackCardSaid := D.lineageBack_said
end Go.Proofs.YtckklclehofddaaGreatDoor
