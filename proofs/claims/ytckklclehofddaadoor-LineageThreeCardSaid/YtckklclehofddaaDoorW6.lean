/- PROVED: for every state and every two keys the law LineageThree answers true: whichever of the two keys is parted at first, what lies between them is the same (or both ways are refused alike). Its conditions are those of the given statement. -/
import Derived.Test.YtckklclehofddaaDoorRows
import Derived.Test.YtckklclehofddaaDoorTie
import Derived.Test.YtckklclehofddaaDoorCards
import Derived.OpenShut
import Derived.Lay
import Derived.Handed
import Derived.SevenTiedAt
import Derived.Test.YtckklclehofddaaDoorE10
import Derived.Test.YtckklclehofddaaDoorW4
import Derived.Test.YtckklclehofddaaDoorW5
set_option linter.unusedVariables false
set_option linter.unusedSimpArgs false
set_option linter.unusedSectionVars false
/-! Lineage: the law Three. -/
namespace Go.Proofs.YtckklclehofddaaDoor.D
open Go.Ax
set_option maxRecDepth 1000000
theorem less_tri : ∀ a b : List UInt8, Op.bytesLess a b = false → Op.bytesLess b a = false → a = b
  | [], [], _, _ => rfl
  | [], _ :: _, h, _ => by simp [Op.bytesLess] at h
  | _ :: _, [], _, h => by simp [Op.bytesLess] at h
  | a :: l, b :: m, h1, h2 => by
    simp only [Op.bytesLess, Bool.or_eq_false_iff, Bool.and_eq_false_iff, decide_eq_false_iff_not] at h1 h2
    have e : a = b := by
      have h3 := UInt8.not_lt.1 h1.1
      have h4 := UInt8.not_lt.1 h2.1
      exact UInt8.le_antisymm h4 h3
    subst e
    have h3 := h1.2.resolve_left (by simp)
    have h4 := h2.2.resolve_left (by simp)
    rw [less_tri l m h3 h4]
theorem lt_tri {a b : ByteArray} (h1 : lt a b = false) (h2 : lt b a = false) : a = b := by
  have := less_tri _ _ h1 h2
  obtain ⟨⟨a⟩⟩ := a
  obtain ⟨⟨b⟩⟩ := b
  simpa using this
theorem lt_ne {a b : ByteArray} (h : lt a b = true) : a ≠ b := fun e => by rw [e, lt_irr] at h; cases h
theorem lt_nil {a b : ByteArray} (h : lt a b = true) : b.data.toList ≠ [] := fun e => by
  unfold lt at h
  rw [e] at h
  cases h2 : a.data.toList <;> rw [h2] at h <;> simp [Op.bytesLess] at h
theorem mm_or (a b : ByteArray) : lt (minB a b) (maxB a b) = true ∨ minB a b = maxB a b := by
  unfold minB maxB
  have e : (a.data.toList == b.data.toList) = decide (a = b) := by rw [Bool.eq_iff_iff, lst_iff, decide_eq_true_iff]
  rw [e]
  by_cases h1 : Op.bytesLess a.data.toList b.data.toList = true
  · simp [h1]; exact .inl h1
  · by_cases h2 : a = b
    · subst h2; simp [h1]
    · simp [h1, h2]
      refine .inl ?_
      cases h3 : lt b a
      · exact absurd (lt_tri (by simpa [lt] using h1) h3) h2
      · rfl
theorem wrap2 (e : Int) : IntKind.u64.wrap (IntKind.u64.wrap (e + 1) + 1) = IntKind.u64.wrap (e + 2) := by
  simp [IntKind.wrap, IntKind.bits, IntKind.signed]
  omega
theorem cnt_ty {r : Rng} {l : List Rec} (hl : l.length ≤ 4096) (i : Nat) : (0 : Int) ≤ (cntR r l i : Int) ∧ (cntR r l i : Int) < 18446744073709551616 := by
  have := cnt_len r l i
  have := sel_len r l
  omega
theorem ty_of {p : Part} (hp : PartTy p) (hl : p.recs.length ≤ 4096) (r : Rng) (f : Int) : PartTy (frz (partOf p r) f) := by
  refine ⟨?_, ?_, ?_, ?_, ?_⟩
  · show (outOf r p.recs).length ≤ _
    have := sel_len r p.recs
    rw [out_len]; omega
  · show (P.moveL p.prods (toOf r p.recs)).length ≤ _
    have := hp.pl
    simp [P.moveL]; omega
  · show (mapU p.cons (toOf r p.recs) p.cons.length).length ≤ _
    have := hp.cl
    rw [map_len _ _ (by rw [toOf_len]; omega)]; omega
  · intro y hy
    obtain ⟨x, hx, rfl⟩ := List.mem_map.1 (show y ∈ p.prods.map (P.mvP (toOf r p.recs)) from hy)
    rw [mv_eq hl (hp.po x hx).1]
    split
    · exact cnt_ty hl _
    · exact ⟨Int.le_refl _, by show (0 : Int) < _; omega⟩
  · intro y hy
    have ht : (toOf r p.recs).length ≠ 0 := by rw [toOf_len]; omega
    have hy : y ∈ mapU p.cons (toOf r p.recs) p.cons.length := hy
    simp only [mapU, if_neg ht, List.take_length] at hy
    obtain ⟨x, hx, rfl⟩ := List.mem_map.1 hy
    unfold movC
    rw [el_eq hl (hp.co x hx).1]
    exact cnt_ty hl _
theorem frz_ok (p : Part) (f : Int) : partOk (frz p f) = partOk p := rfl
/-- what Split says yes to -/
theorem split_ok {p : Part} {k : ByteArray} : splitE p k = 0 ↔ partOk p = true ∧ IntKind.u64.wrap (p.epoch + 1) ≠ 0 ∧ p.frozen ≠ 0 ∧ splE p.rng k = 0 := by
  unfold splitE bad
  cases h1 : partOk p
  · simp
  · by_cases h2 : IntKind.u64.wrap (p.epoch + 1) = 0
    · simp [h2]
    · by_cases h3 : p.frozen = 0
      · simp [h2, h3]
      · simp [h2, h3]
theorem split_of {p : Part} {r : Rng} {k : ByteArray} (hp : PartTy p) (h1 : partOk p = true) (h2 : IntKind.u64.wrap (p.epoch + 1) ≠ 0) (hr : chkK r = 0) :
    splitE (frz (partOf p r) 1) k = if IntKind.u64.wrap (p.epoch + 2) = 0 then 172 else splE r k := by
  have h3 := part_ok hp h1 hr h2
  unfold splitE bad
  rw [frz_ok, h3]
  show (if (!true || IntKind.u64.wrap (IntKind.u64.wrap (p.epoch + 1) + 1) == 0) = true then (172 : Int) else if (1 : Int) = 0 then 171 else splE r k) = _
  rw [wrap2]
  by_cases h4 : IntKind.u64.wrap (p.epoch + 2) = 0
  · simp [h4]
  · simp [h4]
theorem spl_iff {r : Rng} {k : ByteArray} : splE r k = 0 ↔ chkK r = 0 ∧ k.size ≤ 32 ∧ k ≠ r.lo ∧ hasK r k = true := by
  refine ⟨spl_ok, fun ⟨h1, h2, h3, h4⟩ => ?_⟩
  unfold splE
  have h5 : beqB k r.lo = false := by
    cases h : beqB k r.lo
    · rfl
    · exact absurd (beqB_iff.1 h) h3
  rw [if_neg (by simp [h1]), if_neg (by omega), if_neg (by simp [h5, h4])]
theorem thr_c (p : Part) (a b : ByteArray) (hp : PartTy p) (ha : a.size ≤ 9223372036854775807) (hb : b.size ≤ 9223372036854775807) :
    (boolR true).Sat (ACall' Tryd.prog 4 [.agg (encPt true p), .y (.string a), .y (.string b)] []) := by
  obtain ⟨lo, hlo⟩ : ∃ lo, minB a b = lo := ⟨_, rfl⟩
  obtain ⟨hi, hhi⟩ : ∃ hi, maxB a b = hi := ⟨_, rfl⟩
  have horder := mm_or a b
  rw [hlo, hhi] at horder
  have slo : lo.size ≤ 9223372036854775807 := by rw [← hlo]; unfold minB; split <;> assumption
  have shi : hi.size ≤ 9223372036854775807 := by rw [← hhi]; unfold maxB; split <;> assumption
  have dty : PartTy (default : Part) := ⟨by decide, by decide, by decide, fun x hx => (by cases hx), fun x hx => (by cases hx)⟩
  by_cases e1 : splitE p lo = 0
  · by_cases e2 : splitE p hi = 0
    · obtain ⟨o1, o2, o3, o4⟩ := split_ok.1 e1
      obtain ⟨_, _, _, o5⟩ := split_ok.1 e2
      obtain ⟨_, _, vl, _⟩ := ok_parts o1 |>.2 |>.2 |> fun h => (⟨h.1, h.1, h.1, trivial⟩ : isLog p.recs = true ∧ isLog p.recs = true ∧ isLog p.recs = true ∧ True)
      have hl := log_len vl
      have ch := high_chk o4
      have cl := low_chk o5
      have sB := split_of (k := hi) hp o1 o2 ch
      have sC := split_of (k := lo) hp o1 o2 cl
      have tB := ty_of hp hl (rHigh p.rng lo) 1
      have tC := ty_of hp hl (rLow p.rng hi) 1
      obtain ⟨s1, s2, s3, s4⟩ := spl_ok o4
      obtain ⟨_, q2, q3, q4⟩ := spl_ok o5
      obtain ⟨_, _, m1, m2⟩ := has_iff.1 s4
      obtain ⟨_, _, n1, n2⟩ := has_iff.1 q4
      by_cases w : IntKind.u64.wrap (p.epoch + 2) = 0
      · rw [if_pos w] at sB sC
        refine ctr_vc (ht := th5H ⟨p, a, b, lo, hi, partOf p (rLow p.rng lo), partOf p (rHigh p.rng lo), partOf p (rLow p.rng hi), partOf p (rHigh p.rng hi), 0, 0, p, p, p, p, 172, 172⟩) Tryd.mixed rfl ?_
        have k1 : SplOk p lo (partOf p (rLow p.rng lo)) (partOf p (rHigh p.rng lo)) := ⟨hp, slo, e1, rfl, rfl⟩
        have k2 : SplOk p hi (partOf p (rLow p.rng hi)) (partOf p (rHigh p.rng hi)) := ⟨hp, shi, e2, rfl, rfl⟩
        have k3 : SplEr (frz (partOf p (rHigh p.rng lo)) 1) hi 172 := ⟨tB, shi, sB, by decide⟩
        have k4 : SplEr (frz (partOf p (rLow p.rng hi)) 1) lo 172 := ⟨tC, slo, sC, by decide⟩
        rw [show ctrVC _ _ _ _ _ _ = _ from vcTh5_eq ⟨p, a, b, lo, hi, partOf p (rLow p.rng lo), partOf p (rHigh p.rng lo), partOf p (rLow p.rng hi), partOf p (rHigh p.rng hi), 0, 0, p, p, p, p, 172, 172⟩]
        unfold vcTh5
        unfold minB at hlo
        unfold maxB at hhi
        dsimp only
        simp only [hlo, hhi]
        simp [k1, k2, k3, k4, dty, w]
      · rw [if_neg w] at sB sC
        rcases horder with lh | rfl
        · have hne := lt_nil lh
          have z1 : splE (rHigh p.rng lo) hi = 0 := spl_iff.2 ⟨ch, q2, fun e => lt_ne lh e.symm, has_iff.2 ⟨ch, q2, .inl lh, n2⟩⟩
          have z2 : splE (rLow p.rng hi) lo = 0 := spl_iff.2 ⟨cl, s2, s3, has_iff.2 ⟨cl, s2, m1, .inr lh⟩⟩
          rw [z1] at sB
          rw [z2] at sC
          have i1 : inside ⟨lo, hi⟩ (rHigh p.rng lo) := fun k hk => by
            obtain ⟨_, b1, b2, b3⟩ := has_iff.1 hk
            refine has_iff.2 ⟨ch, b1, b2, ?_⟩
            have b3 : lt k hi = true := b3.resolve_left hne
            rcases n2 with n2 | n2
            · exact .inl n2
            · exact .inr (lt_trans' b3 n2)
          have i2 : inside ⟨lo, hi⟩ (rLow p.rng hi) := fun k hk => by
            obtain ⟨_, b1, b2, b3⟩ := has_iff.1 hk
            refine has_iff.2 ⟨cl, b1, ?_, b3⟩
            show lt p.rng.lo k = true ∨ p.rng.lo = k
            rcases m1 with m1 | m1
            · rcases b2 with b2 | b2
              · exact .inl (lt_trans' m1 b2)
              · have b2 : lo = k := b2
                rw [← b2]; exact .inl m1
            · exact absurd m1.symm s3
          have a1 : partOf (frz (partOf p (rHigh p.rng lo)) 1) (rLow (frz (partOf p (rHigh p.rng lo)) 1).rng hi) = part2 p ⟨lo, hi⟩ := of_of i1 hp hl 1
          have d1 : partOf (frz (partOf p (rLow p.rng hi)) 1) (rHigh (frz (partOf p (rLow p.rng hi)) 1).rng lo) = part2 p ⟨lo, hi⟩ := of_of i2 hp hl 1
          have x : Thr := ⟨p, a, b, lo, hi, partOf p (rLow p.rng lo), partOf p (rHigh p.rng lo), partOf p (rLow p.rng hi), partOf p (rHigh p.rng hi), 0, 0, part2 p ⟨lo, hi⟩, partOf (frz (partOf p (rHigh p.rng lo)) 1) (rHigh (frz (partOf p (rHigh p.rng lo)) 1).rng hi), partOf (frz (partOf p (rLow p.rng hi)) 1) (rLow (frz (partOf p (rLow p.rng hi)) 1).rng lo), part2 p ⟨lo, hi⟩, 0, 0⟩
          refine ctr_vc (ht := th4H ⟨p, a, b, lo, hi, partOf p (rLow p.rng lo), partOf p (rHigh p.rng lo), partOf p (rLow p.rng hi), partOf p (rHigh p.rng hi), 0, 0, part2 p ⟨lo, hi⟩, partOf (frz (partOf p (rHigh p.rng lo)) 1) (rHigh (frz (partOf p (rHigh p.rng lo)) 1).rng hi), partOf (frz (partOf p (rLow p.rng hi)) 1) (rLow (frz (partOf p (rLow p.rng hi)) 1).rng lo), part2 p ⟨lo, hi⟩, 0, 0⟩) Tryd.mixed rfl ?_
          have k1 : SplOk p lo (partOf p (rLow p.rng lo)) (partOf p (rHigh p.rng lo)) := ⟨hp, slo, e1, rfl, rfl⟩
          have k2 : SplOk p hi (partOf p (rLow p.rng hi)) (partOf p (rHigh p.rng hi)) := ⟨hp, shi, e2, rfl, rfl⟩
          have k3 : SplOk (frz (partOf p (rHigh p.rng lo)) 1) hi (part2 p ⟨lo, hi⟩) (partOf (frz (partOf p (rHigh p.rng lo)) 1) (rHigh (frz (partOf p (rHigh p.rng lo)) 1).rng hi)) := ⟨tB, shi, sB, a1.symm, rfl⟩
          have k4 : SplOk (frz (partOf p (rLow p.rng hi)) 1) lo (partOf (frz (partOf p (rLow p.rng hi)) 1) (rLow (frz (partOf p (rLow p.rng hi)) 1).rng lo)) (part2 p ⟨lo, hi⟩) := ⟨tC, slo, sC, rfl, d1.symm⟩
          have k5 : PartTy (part2 p ⟨lo, hi⟩) := by
            rw [← a1]
            exact ty_of tB (by show (outOf _ p.recs).length ≤ _; have := sel_len (rHigh p.rng lo) p.recs; rw [out_len]; omega) _ 0
          rw [show ctrVC _ _ _ _ _ _ = _ from vcTh4_eq ⟨p, a, b, lo, hi, partOf p (rLow p.rng lo), partOf p (rHigh p.rng lo), partOf p (rLow p.rng hi), partOf p (rHigh p.rng hi), 0, 0, part2 p ⟨lo, hi⟩, partOf (frz (partOf p (rHigh p.rng lo)) 1) (rHigh (frz (partOf p (rHigh p.rng lo)) 1).rng hi), partOf (frz (partOf p (rLow p.rng hi)) 1) (rLow (frz (partOf p (rLow p.rng hi)) 1).rng lo), part2 p ⟨lo, hi⟩, 0, 0⟩]
          unfold vcTh4
          unfold minB at hlo
          unfold maxB at hhi
          dsimp only
          simp only [hlo, hhi]
          simp [k1, k2, k3, k4, k5]
        · have z1 : splE (rHigh p.rng lo) lo = 132 := by
            unfold splE
            rw [if_neg (by simp [ch]), if_neg (by omega), if_pos]
            have : beqB lo (rHigh p.rng lo).lo = true := beqB_iff.2 rfl
            simp [this]
          have hne : lo.data.toList ≠ [] := by
            rcases m1 with m1 | m1
            · exact lt_nil m1
            · exact absurd m1.symm s3
          have z2 : splE (rLow p.rng lo) lo = 132 := by
            unfold splE
            rw [if_neg (by simp [cl]), if_neg (by omega), if_pos]
            have : hasK (rLow p.rng lo) lo = false := by
              cases h : hasK (rLow p.rng lo) lo
              · rfl
              · obtain ⟨_, _, _, h4⟩ := has_iff.1 h
                rcases h4 with h4 | h4
                · exact absurd h4 hne
                · have h4 : lt lo lo = true := h4
                  rw [lt_irr] at h4; cases h4
            simp [this]
          rw [z1] at sB
          rw [z2] at sC
          refine ctr_vc (ht := th5H ⟨p, a, b, lo, lo, partOf p (rLow p.rng lo), partOf p (rHigh p.rng lo), partOf p (rLow p.rng lo), partOf p (rHigh p.rng lo), 0, 0, p, p, p, p, 132, 132⟩) Tryd.mixed rfl ?_
          have k1 : SplOk p lo (partOf p (rLow p.rng lo)) (partOf p (rHigh p.rng lo)) := ⟨hp, slo, e1, rfl, rfl⟩
          have k3 : SplEr (frz (partOf p (rHigh p.rng lo)) 1) lo 132 := ⟨tB, shi, sB, by decide⟩
          have k4 : SplEr (frz (partOf p (rLow p.rng lo)) 1) lo 132 := ⟨tC, slo, sC, by decide⟩
          rw [show ctrVC _ _ _ _ _ _ = _ from vcTh5_eq ⟨p, a, b, lo, lo, partOf p (rLow p.rng lo), partOf p (rHigh p.rng lo), partOf p (rLow p.rng lo), partOf p (rHigh p.rng lo), 0, 0, p, p, p, p, 132, 132⟩]
          unfold vcTh5
          unfold minB at hlo
          unfold maxB at hhi
          dsimp only
          simp only [hlo, hhi]
          simp [k1, k3, k4, dty]
    · refine ctr_vc (ht := th3H ⟨p, a, b, lo, hi, partOf p (rLow p.rng lo), partOf p (rHigh p.rng lo), p, p, 0, splitE p hi, p, p, p, p, 0, 0⟩) Tryd.mixed rfl ?_
      rw [show ctrVC _ _ _ _ _ _ = _ from vcTh3_eq ⟨p, a, b, lo, hi, partOf p (rLow p.rng lo), partOf p (rHigh p.rng lo), p, p, 0, splitE p hi, p, p, p, p, 0, 0⟩]
      have k1 : SplOk p lo (partOf p (rLow p.rng lo)) (partOf p (rHigh p.rng lo)) := ⟨hp, slo, e1, rfl, rfl⟩
      have k2 : SplEr p hi (splitE p hi) := ⟨hp, shi, rfl, e2⟩
      unfold vcTh3
      unfold minB at hlo
      unfold maxB at hhi
      dsimp only
      simp only [hlo, hhi]
      simp [k1, k2, e2]
  · by_cases e2 : splitE p hi = 0
    · refine ctr_vc (ht := th1H ⟨p, a, b, lo, hi, p, p, partOf p (rLow p.rng hi), partOf p (rHigh p.rng hi), splitE p lo, 0, p, p, p, p, 0, 0⟩) Tryd.mixed rfl ?_
      rw [show ctrVC _ _ _ _ _ _ = _ from vcTh1_eq ⟨p, a, b, lo, hi, p, p, partOf p (rLow p.rng hi), partOf p (rHigh p.rng hi), splitE p lo, 0, p, p, p, p, 0, 0⟩]
      have k1 : SplEr p lo (splitE p lo) := ⟨hp, slo, rfl, e1⟩
      have k2 : SplOk p hi (partOf p (rLow p.rng hi)) (partOf p (rHigh p.rng hi)) := ⟨hp, shi, e2, rfl, rfl⟩
      unfold vcTh1
      unfold minB at hlo
      unfold maxB at hhi
      dsimp only
      simp only [hlo, hhi]
      simp [k1, k2, e1]
    · refine ctr_vc (ht := th2H ⟨p, a, b, lo, hi, p, p, p, p, splitE p lo, splitE p hi, p, p, p, p, 0, 0⟩) Tryd.mixed rfl ?_
      rw [show ctrVC _ _ _ _ _ _ = _ from vcTh2_eq ⟨p, a, b, lo, hi, p, p, p, p, splitE p lo, splitE p hi, p, p, p, p, 0, 0⟩]
      have k1 : SplEr p lo (splitE p lo) := ⟨hp, slo, rfl, e1⟩
      have k2 : SplEr p hi (splitE p hi) := ⟨hp, shi, rfl, e2⟩
      unfold vcTh2
      unfold minB at hlo
      unfold maxB at hhi
      dsimp only
      simp only [hlo, hhi]
      simp [k1, k2, e1]
end Go.Proofs.YtckklclehofddaaDoor.D

/-! From the statements to the laws: the data. -/
namespace Go.Proofs.YtckklclehofddaaDoor
open Go.Ax Go.Shelf Go.RowKit Go.ChangeShapes Go.WideShapes Go.ChangeAt
set_option maxRecDepth 1000000
def toI {K : Type} : DataW K → Int
  | .lit (.int _ a) => a
  | _ => 0
def toS {K : Type} : DataW K → ByteArray
  | .lit (.string l) => ⟨l.toArray⟩
  | _ => ByteArray.empty
def toB {K : Type} : DataW K → Bool
  | .lit (.bool b) => b
  | _ => false
theorem encI_ok {K : Type} {k : IntKind} {d : DataW K} (h : (Sh.int k).wf d) : (Sh.int k).enc d = [.y (.int k (toI d))] := by
  obtain ⟨k', n, rfl, _⟩ := h
  rfl
theorem encS_ok {K : Type} {d : DataW K} (h : Sh.str.wf d) : Sh.str.enc d = [.y (.string (toS d))] := by
  obtain ⟨l, rfl, _⟩ := h
  rfl
theorem encO_ok {K : Type} {d : DataW K} (h : Sh.bool.wf d) : Sh.bool.enc d = [.y (.bool (toB d))] := by
  obtain ⟨l, rfl⟩ := h
  rfl
theorem enc_st {K : Type} (fs : List Sh) (ds : List (DataW K)) : (Sh.st fs).enc (.agg ds) = Sh.encL fs ds := by simp only [Sh.enc]
theorem enc_cons {K : Type} (s : Sh) (r : List Sh) (d : DataW K) (ds : List (DataW K)) : Sh.encL (s :: r) (d :: ds) = s.enc d ++ Sh.encL r ds := by simp only [Sh.encL]
theorem enc_nil {K : Type} (l : List (DataW K)) : Sh.encL [] l = [] := by simp only [Sh.encL]
theorem relA {P : Program} {W : World} {r : Reach} {base : Nat} {t : TypeId} {v : Value} {fs : Array Field} {l : List AV} {H : HH} {E : Env} (hu : P.underlying t = some (.struct fs)) (hv : Value.okWide P W r base t v) (h : RelL l H E v.cells.toList) : Rel (.agg l) H E v := by
  obtain ⟨cs, rfl, _⟩ := okWide_struct hu hv
  exact ⟨cs, rfl, h⟩
theorem str_size {K : Type} {d : DataW K} (h : Sh.str.wf d) : (toS d).size ≤ 9223372036854775807 := by
  obtain ⟨l, rfl, hl⟩ := h
  show l.toArray.size ≤ _
  rw [List.size_toArray]
  exact hl
theorem Tryd.own : ownKnob Tryd.prog.godebug = Option.none := by kernel_rfl
theorem Tryd.laidOut : laidOutB Tryd.prog = true := by kernel_rfl
theorem Tryd.mapsRowed : mapsRowed Tryd.prog = true := by kernel_rfl
theorem Tryd.slicesOk : slicesOk Tryd.prog = true := by kernel_rfl
theorem underBool : Tryd.prog.underlying 4 = some .bool := by kernel_rfl
def structTypes (P : Program) (t : TypeId) : Option (List TypeId) := match P.underlying t with | some (.struct fs) => some (fs.toList.map (·.type)) | _ => Option.none
theorem structTypes_ok {P : Program} {t : TypeId} {l : List TypeId} (h : structTypes P t = some l) : ∃ fs, P.underlying t = some (.struct fs) ∧ fs.toList.map (·.type) = l := by
  unfold structTypes at h
  split at h
  · rename_i fs hu
    exact ⟨fs, hu, Option.some.inj h⟩
  · cases h
end Go.Proofs.YtckklclehofddaaDoor

/-! From the statements to the laws: records, consumers, producers, states. -/
namespace Go.Proofs.YtckklclehofddaaDoor
open Go.Ax Go.Shelf Go.RowKit Go.ChangeShapes Go.WideShapes Go.ChangeAt
set_option maxRecDepth 1000000
def shRec : Sh := .st [.int .u64, .str, .sl (.int .u8), .int .u64, .int .u64]
def toRec {K : Type} : DataW K → Rec
  | .agg [a, b, c, d, e] => ⟨toI a, toS b, listOf toI c, toI d, toI e⟩
  | _ => default
theorem relB {K : Type} {d : DataW K} (hd : (Sh.sl (.int .u8)).wf d) {H : HH} {E : Env} {v : Value} (h : Rel (slAV (.int .u8) d) H E v) : Rel (encBs true (listOf toI d)) H E v := conv_sl (encA := encB) (fun x hx => encI_ok hx) hd h
theorem rec_enc {K : Type} {d : DataW K} (hd : shRec.wf d) : ∃ a b c e f, d = .agg [a, b, c, e, f] ∧ (Sh.sl (.int .u8)).wf c ∧ shRec.enc d = [.y (.int .u64 (toI a)), .y (.string (toS b)), slAV (.int .u8) c, .y (.int .u64 (toI e)), .y (.int .u64 (toI f))] := by
  obtain ⟨ds, rfl, d1, r1, rfl, w1, d2, r2, rfl, w2, d3, r3, rfl, w3, d4, r4, rfl, w4, d5, r5, rfl, w5, rfl⟩ := hd
  refine ⟨d1, d2, d3, d4, d5, rfl, w3, ?_⟩
  simp only [shRec, enc_st, enc_cons, enc_nil, encI_ok w1, encS_ok w2, slAV_eq, encI_ok w4, encI_ok w5]
  rfl
theorem rec_conv {K : Type} {d : DataW K} (hd : shRec.wf d) (j : Nat) (hj : j < 5) (H : HH) (E : Env) (v : Value) (h : Rel (Ax.get (shRec.enc d) j) H E v) : Rel (Ax.get (encR (toRec d)) j) H E v := by
  obtain ⟨a, b, c, e, f, rfl, wc, he⟩ := rec_enc hd
  rw [he] at h
  match j, hj with
  | 0, _ => exact h
  | 1, _ => exact h
  | 2, _ => exact relB wc h
  | 3, _ => exact h
  | 4, _ => exact h
theorem relRs {K : Type} {d : DataW K} (hd : (Sh.sl shRec).wf d) {H : HH} {E : Env} {v : Value} (h : Rel (slAV shRec d) H E v) : Rel (encRs true (listOf toRec d)) H E v :=
  conv_slR (encA := encR) (fun x hx j hj H E v => rec_conv hx j hj H E v) hd h
theorem undRs : Tryd.prog.underlying 25 = some (.slice 38) := by kernel_rfl
theorem bytesR : Tryd.prog.bytesOf 38 = 64 := by kernel_rfl
theorem rs_sized {K : Type} {d : DataW K} (hw : (d.weights Tryd.prog 25).all (· ≤ reachBytes) = true) : (listOf toRec d).length * 64 ≤ 140737488351232 := by
  have := weights_slice toRec undRs hw
  rwa [bytesR] at this
def shCon : Sh := .st [.str, .int .u64]
def toC {K : Type} : DataW K → Con
  | .agg [a, b] => ⟨toS a, toI b⟩
  | _ => default
theorem off_of {K : Type} {d : DataW K} (h : (Sh.int .u64).wf d) : offOk (toI d) := by
  obtain ⟨k, n, rfl, w⟩ := h
  have := bounds_u64 w
  exact ⟨by show 0 ≤ n; omega, by show n < _; omega⟩
theorem toC_ok {K : Type} {d : DataW K} (h : shCon.wf d) : shCon.enc d = encC (toC d) ∧ offOk (toC d).off := by
  obtain ⟨ds, rfl, d1, r1, rfl, w1, d2, r2, rfl, w2, rfl⟩ := h
  refine ⟨?_, off_of w2⟩
  simp only [shCon, enc_st, enc_cons, enc_nil, encS_ok w1, encI_ok w2]
  rfl
theorem wf_cons {K : Type} {d : DataW K} (h : (Sh.sl shCon).wf d) : wfC (listOf toC d) := by
  rcases h with rfl | ⟨xs, r, rfl, hx⟩
  · intro y hy; cases hy
  · intro y hy
    obtain ⟨x, hx', rfl⟩ := List.mem_map.1 hy
    exact (toC_ok (hx x hx')).2
theorem relCs {K : Type} {d : DataW K} (hd : (Sh.sl shCon).wf d) {H : HH} {E : Env} {v : Value} (h : Rel (slAV shCon d) H E v) : Rel (encCs true (listOf toC d)) H E v := conv_sl (fun x hx => (toC_ok hx).1) hd h
theorem undCs : Tryd.prog.underlying 27 = some (.slice 50) := by kernel_rfl
theorem bytesC : Tryd.prog.bytesOf 50 = 24 := by kernel_rfl
def shPro : Sh := .st [.int .u64, .int .u64, .bool, .int .u64]
def toPro {K : Type} : DataW K → P.Producer
  | .agg [a, b, c, e] => ⟨toI a, toI b, toB c, toI e⟩
  | _ => default
theorem toPro_ok {K : Type} {d : DataW K} (h : shPro.wf d) : shPro.enc d = P.encP (toPro d) ∧ offOk (toPro d).offset := by
  obtain ⟨ds, rfl, d1, r1, rfl, w1, d2, r2, rfl, w2, d3, r3, rfl, w3, d4, r4, rfl, w4, rfl⟩ := h
  refine ⟨?_, off_of w4⟩
  simp only [shPro, enc_st, enc_cons, enc_nil, encI_ok w1, encI_ok w2, encO_ok w3, encI_ok w4]
  rfl
theorem wf_prods {K : Type} {d : DataW K} (h : (Sh.sl shPro).wf d) : ∀ x ∈ listOf toPro d, 0 ≤ x.offset ∧ x.offset < 18446744073709551616 := by
  rcases h with rfl | ⟨xs, r, rfl, hx⟩
  · intro y hy; cases hy
  · intro y hy
    obtain ⟨x, hx', rfl⟩ := List.mem_map.1 hy
    exact (toPro_ok (hx x hx')).2
theorem relPs {K : Type} {d : DataW K} (hd : (Sh.sl shPro).wf d) {H : HH} {E : Env} {v : Value} (h : Rel (slAV shPro d) H E v) : Rel (P.encPs true (listOf toPro d)) H E v := conv_sl (fun x hx => (toPro_ok hx).1) hd h
theorem undPs : Tryd.prog.underlying 26 = some (.slice 46) := by kernel_rfl
theorem bytesP : Tryd.prog.bytesOf 46 = 32 := by kernel_rfl
def shRng : Sh := .st [.str, .str]
def toRng {K : Type} : DataW K → Rng
  | .agg [a, b] => ⟨toS a, toS b⟩
  | _ => default
theorem toRng_ok {K : Type} {d : DataW K} (h : shRng.wf d) : shRng.enc d = encG (toRng d) := by
  obtain ⟨ds, rfl, d1, r1, rfl, w1, d2, r2, rfl, w2, rfl⟩ := h
  simp only [shRng, enc_st, enc_cons, enc_nil, encS_ok w1, encS_ok w2]
  rfl
def shPart : Sh := .st [shRng, .int .u64, .int .u64, .sl shRec, .sl shPro, .sl shCon]
def toPart {K : Type} : DataW K → Part
  | .agg [a, b, c, e, f, g] => ⟨toRng a, toI b, toI c, listOf toRec e, listOf toPro f, listOf toC g⟩
  | _ => default
theorem relPart {K : Type} {d : DataW K} (hd : shPart.wf d) {H : HH} {E : Env} {vs : List Value} (h : RelL (shPart.enc d) H E vs) : RelL (encPt true (toPart d)) H E vs := by
  obtain ⟨ds, rfl, d1, r1, rfl, w1, d2, r2, rfl, w2, d3, r3, rfl, w3, d4, r4, rfl, w4, d5, r5, rfl, w5, d6, r6, rfl, w6, rfl⟩ := hd
  have e : shPart.enc (DataW.agg [d1, d2, d3, d4, d5, d6]) = [.y (.string (toRng d1).lo), .y (.string (toRng d1).hi), .y (.int .u64 (toI d2)), .y (.int .u64 (toI d3)), slAV shRec d4, slAV shPro d5, slAV shCon d6] := by
    simp only [shPart, enc_st, enc_cons, enc_nil, slAV_eq, toRng_ok w1, encI_ok w2, encI_ok w3]
    rfl
  rw [e] at h
  obtain ⟨v1, x1, rfl, h1, v2, x2, rfl, h2, v3, x3, rfl, h3, v4, x4, rfl, h4, v5, x5, rfl, h5, v6, x6, rfl, h6, v7, x7, rfl, h7, rfl⟩ := h
  exact ⟨_, _, rfl, h1, _, _, rfl, h2, _, _, rfl, h3, _, _, rfl, h4, _, _, rfl, relRs w4 h5, _, _, rfl, relPs w5 h6, _, _, rfl, relCs w6 h7, rfl⟩
theorem undPart : ∃ fs, Tryd.prog.underlying 29 = some (.struct fs) ∧ fs.toList.map (·.type) = [23, 24, 24, 25, 26, 27] := structTypes_ok (by kernel_rfl)
structure PartSz (p : Part) : Prop where
  rl : p.recs.length * 64 ≤ 140737488351232
  pl : p.prods.length * 32 ≤ 140737488351232
  cl : p.cons.length * 24 ≤ 140737488351232
  po : ∀ x ∈ p.prods, 0 ≤ x.offset ∧ x.offset < 18446744073709551616
  co : wfC p.cons
theorem part_sz {K : Type} {d : DataW K} (hd : shPart.wf d) (hw : (d.weights Tryd.prog 29).all (· ≤ reachBytes) = true) : PartSz (toPart d) := by
  obtain ⟨ds, rfl, d1, r1, rfl, w1, d2, r2, rfl, w2, d3, r3, rfl, w3, d4, r4, rfl, w4, d5, r5, rfl, w5, d6, r6, rfl, w6, rfl⟩ := hd
  obtain ⟨fs, hf, ht⟩ := undPart
  have h := weights_struct hf hw
  rw [ht] at h
  obtain ⟨h1, h⟩ := weights_cons h
  obtain ⟨h2, h⟩ := weights_cons h
  obtain ⟨h3, h⟩ := weights_cons h
  obtain ⟨h4, h⟩ := weights_cons h
  obtain ⟨h5, h⟩ := weights_cons h
  obtain ⟨h6, h⟩ := weights_cons h
  have k5 := weights_slice toPro undPs h5
  have k6 := weights_slice toC undCs h6
  rw [bytesP] at k5
  rw [bytesC] at k6
  exact ⟨rs_sized h4, k5, k6, wf_prods w5, wf_cons w6⟩
end Go.Proofs.YtckklclehofddaaDoor

/-! Lineage: from the statement to LineageThree. -/
namespace Go.Proofs.YtckklclehofddaaDoor.D
open Go.Ax Go.Shelf Go.RowKit Go.ChangeShapes Go.WideShapes Go.ChangeAt
set_option maxRecDepth 1000000
theorem ty_sz {p : Part} (h : PartSz p) : PartTy p := by
  obtain ⟨h1, h2, h3, h4, h5⟩ := h
  exact ⟨by omega, by omega, by omega, h4, h5⟩
def lineageThree_laidL : List (String × DataW Unit) := Rows.lineageThreeRow.laid
noncomputable def lineageThree_layW (os : Os) : World := World.laidAll Tryd.prog os lineageThree_laidL
theorem lineageThree_lay_met (os : Os) (args : Array Value) : laidMetH Tryd.prog lineageThree_laidL ((lineageThree_layW os).forCall (fun _ _ => 0) ⟨#[], args, []⟩).memory := by
  have e : ∀ w, laidMetH Tryd.prog lineageThree_laidL w = laidMet Tryd.prog lineageThree_laidL w := fun w => by kernel_rfl
  rw [e]
  exact laidMet_laidAll args (by kernel_rfl) (by kernel_rfl)
theorem lineageThree_lifted (os : Os) (started : os.Started) (K : Type) (enc : TypeId × Value → K) :
    ReturnsInHanded {} Tryd.checked os 4 .any (fun w args => (Rows.lineageThreeSpec.pre enc Tryd.prog Tryd.f4 [] false w args ∧ laidMetH Tryd.prog lineageThree_laidL w) ∧ sizedMet enc Tryd.prog Tryd.f4 (OpenSpec.ofChange Rows.lineageThreeSpec) false w args)
      (Rows.lineageThreeSpec.post enc Tryd.prog Tryd.f4 false true false false) := by
  refine returnsInHanded_of_change_and (C := Tryd.checked) (X := fun w _ => laidMetH Tryd.prog lineageThree_laidL w) (fun _ _ _ hh h => h.of_heap hh) Tryd.own started (by kernel_rfl) Tryd.func4
    (ChangeSpec.witness_at (enc := enc) (C := Tryd.checked) (os := os) (X := fun w _ => laidMetH Tryd.prog lineageThree_laidL w) false (lineageThree_layW os) #[.agg #[.string ⟨#[]⟩, .string ⟨#[]⟩, .int .u64 0, .int .u64 0, .slice Option.none 0 0, .slice Option.none 0 0, .slice Option.none 0 0], .string ⟨#[]⟩, .string ⟨#[]⟩] 8 rfl (by kernel_rfl) (by kernel_rfl) (by kernel_rfl) (by kernel_rfl) (by kernel_rfl) (lineageThree_lay_met os _)) ?_
  intro W base args ds gs before hval0 hW hcnd hsz _ _
  have hps : Tryd.f4.params.toList = [29, 9, 9] := by kernel_rfl
  obtain ⟨p, q, hA, hV, hbef, hfz, hnd⟩ := id hW
  rw [hps] at hA hsz
  have ⟨hr, hwf⟩ := lift_all [shPart, .str, .str] (by kernel_rfl) hA
  obtain ⟨v1, v2, v3, d1, d2, d3, _, _, _, e1, rfl, _, _, _, _⟩ := trodAll_three hA
  obtain ⟨_, _, g1, w1, _, _, g2, w2, _, _, g3, w3, _⟩ := hwf
  obtain ⟨rfl, q1⟩ := List.cons.inj g1
  subst q1
  obtain ⟨rfl, q2⟩ := List.cons.inj g2
  subst q2
  obtain ⟨rfl, _⟩ := List.cons.inj g3
  subst e1
  obtain ⟨h1, hs1⟩ := weights_cons (P := Tryd.prog) (t := 29) (d := d1) hsz
  obtain ⟨h2, hs2⟩ := weights_cons (P := Tryd.prog) (t := 9) (d := d2) hs1
  obtain ⟨h3, hs3⟩ := weights_cons (P := Tryd.prog) (t := 9) (d := d3) hs2
  have r1 := hr.1
  obtain ⟨fs1, hf1, _⟩ := undPart
  have r1 := relA hf1 (hval0 0 _ _ (by kernel_rfl) rfl) (relPart w1 r1)
  have r2 := hr.2.1
  rw [encS_ok w2] at r2
  obtain ⟨n2, rfl⟩ := okWide_string (show Tryd.prog.underlying 9 = some .string by kernel_rfl) (hval0 1 _ _ (by kernel_rfl) rfl)
  obtain ⟨_, _, er, r2, _⟩ := r2
  cases er
  have r3 := hr.2.2.1
  rw [encS_ok w3] at r3
  obtain ⟨n3, rfl⟩ := okWide_string (show Tryd.prog.underlying 9 = some .string by kernel_rfl) (hval0 2 _ _ (by kernel_rfl) rfl)
  obtain ⟨_, _, er, r3, _⟩ := r3
  cases er
  refine open_calls (call_of (thr_c _ _ _ (ty_sz (part_sz w1 h1)) (str_size w2) (str_size w3))) (t := 4) (ds := [d1, d2, d3]) ⟨_, _, rfl, r1, _, _, rfl, r2, _, _, rfl, r3, rfl⟩ (by kernel_rfl) underBool rfl rfl Tryd.laidOut Tryd.mapsRowed Tryd.slicesOk (by rw [hps]; intro t ht; simp at ht; rcases ht with rfl | rfl <;> exact of_decide_eq_true (by kernel_rfl)) hW
theorem lineageThree_holds : Rows.LineageThreeSaid :=
  OpenClaim.holds_of_wide 4 Tryd.f4 rfl rfl rfl rfl rfl rfl rfl ⟨rfl, rfl, rfl, rfl, rfl⟩ rfl rfl rfl rfl rfl (by kernel_rfl) Tryd.func4 (by kernel_rfl)
    (of_decide_eq_true (by kernel_rfl)) (by unfold Func.isWrapper; first | (rw [if_pos (by decide +kernel)]; kernel_rfl) | (rw [if_neg (by decide +kernel)]; exact ⟨rfl, rfl⟩))
    (fun os started H enc _ => lineageThree_lifted os started H enc)
theorem lineageThree_said : Rows.LineageThreeCardSaid :=
  Claim7.holds_tied_plain_at .later [] [.data, .pinned] true (true, "84302003515846d72bd40edd2ce5986e4f668e76e046885384b15b5ec307b7b6") true
    lineageThree_holds (fun _ h => by cases h) (by kernel_rfl) (fun _ h => by cases h) lineageThree_row_tie rfl ⟨rfl, rfl⟩ (by kernel_rfl) rfl
    (fun f fn hf hfn => by
      obtain rfl : f = 4 := Option.some.inj ((show Tryd.prog.funcNamed "gazette/gazettelaw17.LineageThree" = some 4 by kernel_rfl).symm.trans hf) |>.symm
      obtain rfl : fn = Tryd.f4 := (Option.some.inj (Tryd.func4.symm.trans hfn)).symm
      exact ⟨by kernel_rfl, fun j t ht => by
        rw [show Tryd.f4.params = #[29, 9, 9] by kernel_rfl] at ht
        have h3 : t = 29 ∨ t = 9 ∨ t = 9 := by
          rcases j with _ | _ | _ | j
          · exact Or.inl (by simpa using ht.symm)
          · exact Or.inr (Or.inl (by simpa using ht.symm))
          · exact Or.inr (Or.inr ((by simpa using ht.symm)))
          · simp at ht
        rcases h3 with rfl | rfl | rfl
        · exact (show Tryd.prog.wantsStandIn 29 = false by kernel_rfl)
        · exact (show Tryd.prog.wantsStandIn 9 = false by kernel_rfl)
        · exact (show Tryd.prog.wantsStandIn 9 = false by kernel_rfl)⟩)
    (by kernel_rfl)
end Go.Proofs.YtckklclehofddaaDoor.D
namespace Go.Proofs.YtckklclehofddaaDoor
theorem three_said : Rows.LineageThreeCardSaid := D.lineageThree_said
end Go.Proofs.YtckklclehofddaaDoor
