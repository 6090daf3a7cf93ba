import Derived.Test.YtghhkabankbkoaaAxH
import Derived.Maps.AppendAt
set_option linter.unusedVariables false
set_option linter.unusedSimpArgs false
/-! Cuts, lengths, append. -/
namespace Go.Ax
open Go

theorem run_bounds {P : Program} (w : World) {isS : Bool} {n cap : Nat} {lo hi : Option Value} {l u : Int} (hlo : (lo = none ∧ l = 0) ∨ ∃ k, lo = some (.int k l)) (hhi : (hi = none ∧ u = n) ∨ ∃ k, hi = some (.int k u))
    (h0 : 0 ≤ l) (h1 : l ≤ u) (h2 : u ≤ n) (h3 : n ≤ cap) : (Instr.sliceBounds isS n cap lo hi none).run P w = .ok (l.toNat, u.toNat, cap) w := by
  rcases hhi with ⟨rfl, rfl⟩ | ⟨kh, rfl⟩
  · rcases hlo with ⟨rfl, rfl⟩ | ⟨kl, rfl⟩
    · simp [Instr.sliceBounds]
    · simp [Instr.sliceBounds, run_sliceBound w kl l n _ h0 h1]
  · have hu := run_sliceBound (P := P) w kh u cap (if isS then .sliceAcap else .sliceAlen) (by omega) (by omega)
    rcases hlo with ⟨rfl, rfl⟩ | ⟨kl, rfl⟩
    · simp [Instr.sliceBounds, hu]
    · have hl := run_sliceBound (P := P) w kl l u.toNat .sliceB h0 (by omega)
      simp [Instr.sliceBounds, hu, hl]

theorem bnd_ok {t : Nat → AV} {a : Act} {H : HH} {E : Env} (hT : RelT t H E a) {d : Nat} {x : Option Operand} {q : Int} (h : bnd d (x.map (ev t)) = some q) :
    (x.map a.eval = none ∧ q = d) ∨ ∃ k, x.map a.eval = some (.int k q) := by
  cases x with
  | none => simp [bnd] at h; exact .inl ⟨rfl, h.symm⟩
  | some x =>
    have hr := rel_ev hT x
    simp only [Option.map_some] at h ⊢
    generalize ev t x = av at h hr
    unfold bnd at h
    split at h
    · rename_i he; cases he
    · rename_i k q' he
      cases he
      cases h
      obtain ⟨h1, _⟩ := hr
      exact .inr ⟨k, by rw [h1]⟩
    · cases h

theorem slice_ok {P : Program} {H : HH} {E : Env} {w : World} {hh : Option Hint} {ty : TypeId} {t : Nat → AV} {a : Act} {x : Operand} {lo hi mx : Option Operand} {e : Eff} (hT : RelT t H E a)
    (h : aSlice P hh ty (ev t x) (lo.map (ev t)) (hi.map (ev t)) (mx.map (ev t)) = some e) (ho : All e.ob) :
    Plain e ∧ ∃ u, (Instr.sliceAt ty (a.eval x) (lo.map a.eval) (hi.map a.eval) (mx.map a.eval)).run P w = .ok u w ∧ Rel e.r H E u := by
  have hx := rel_ev hT x
  generalize ev t x = xa at h hx
  have hmx : ∀ {q : Option AV}, q = none → mx.map (ev t) = q → mx = none := by
    rintro q rfl hq
    cases mx with
    | none => rfl
    | some m => cases hq
  unfold aSlice at h
  split at h
  · rename_i s hm hu
    have hmx := hmx rfl hm
    subst hmx
    obtain ⟨hx, _⟩ := hx
    rw [hx]
    split at h
    case h_2 => cases h
    rename_i l u hl hu'
    split at h
    case h_2 => cases h
    rename_i ob hc
    obtain ⟨hp, hr, hob⟩ := plain_purO h
    have hb := chk_ok hc (by rw [← hob]; exact ho)
    simp only [Bool.and_eq_true, decide_eq_true_eq] at hb
    obtain ⟨⟨h0, h1⟩, h2⟩ := hb
    have hrun := run_bounds (P := P) (isS := false) w (bnd_ok hT hl) (bnd_ok hT hu') h0 h1 h2 (Nat.le_refl _)
    refine ⟨hp, .string (s.extract l.toNat u.toNat), ?_, by rw [hr]; exact ⟨rfl, rfl⟩⟩
    simp [Instr.sliceAt, run_underlying hu, Instr.slice, hrun]
  · rename_i el b sz n c hm hu
    have hmx := hmx rfl hm
    subst hmx
    split at h
    case h_2 => cases h
    rename_i sz' l u hsz hl hu'
    split at h
    case isFalse => cases h
    rename_i hs
    have hs : sz' = sz := by simpa using hs
    subst hs
    split at h
    case h_2 => cases h
    rename_i ob hc
    obtain ⟨hp, hr, hob⟩ := plain_purO h
    have hb := chk_ok hc (by rw [← hob]; exact ho)
    simp only [Bool.and_eq_true, decide_eq_true_eq] at hb
    obtain ⟨⟨h0, h1⟩, h2⟩ := hb
    obtain ⟨ad, cap, hv, hcap, hk⟩ := hx
    rw [hv]
    have hrun := run_bounds (P := P) (isS := true) w (bnd_ok hT hl) (bnd_ok hT hu') h0 h1 h2 hcap.1
    refine ⟨hp, .slice (if cap = l.toNat then ad else ad.map (·.add (l.toNat * sz'))) (u.toNat - l.toNat) (cap - l.toNat), ?_, ?_⟩
    · simp [Instr.sliceAt, run_underlying hu, Instr.slice, hrun, run_sizeOf' w hsz]
    · rw [hr]
      refine ⟨_, _, rfl, ⟨by have := hcap.1; omega, fun h3 => ?_⟩, fun h3 => ?_⟩
      · have : ad = none := by
          split at h3
          · exact h3
          · cases ad <;> simp_all
        have := hcap.2 this
        omega
      have hcap := hcap.1
      obtain ⟨ad', rfl, hk2⟩ := hk (by omega)
      rw [if_neg (by omega)]
      refine ⟨_, rfl, fun k hkk j hj => ?_⟩
      rw [add_add', ← Nat.add_assoc, ← Nat.add_mul]
      exact hk2 (l.toNat + k) (by omega) j hj
  · rename_i el i sz z n hm hu
    have hmx := hmx rfl hm
    subst hmx
    split at h
    case h_2 => cases h
    rename_i sz' l u hsz hl hu'
    split at h
    case isFalse => cases h
    rename_i hs
    have hs : sz' = sz := by simpa using hs
    subst hs
    split at h
    case h_2 => cases h
    rename_i ob hc
    obtain ⟨hp, hr, hob⟩ := plain_purO h
    have hb := chk_ok hc (by rw [← hob]; exact ho)
    simp only [Bool.and_eq_true, decide_eq_true_eq] at hb
    obtain ⟨⟨h0, h1⟩, h2⟩ := hb
    obtain ⟨hlv, hκ, hm2⟩ := hx
    cases hι : E.ι i with
    | none =>
      rw [hι] at hm2
      obtain ⟨rfl, rfl, hv⟩ := hm2
      rw [hv]
      have hrun := run_bounds (P := P) (isS := true) (cap := 0) w (bnd_ok hT hl) (bnd_ok hT hu') h0 h1 h2 (Nat.le_refl _)
      have hl0 : l.toNat = 0 := by omega
      have hu0 : u.toNat = 0 := by omega
      refine ⟨hp, .slice none 0 0, ?_, ?_⟩
      · simp [Instr.sliceAt, run_underlying hu, Instr.slice, hrun, run_sizeOf' w hsz, hl0, hu0]
      · rw [hr, hl0, hu0]
        exact ⟨hlv, by omega, by rw [hι]; exact ⟨rfl, rfl, rfl⟩⟩
    | some b =>
      rw [hι] at hm2
      obtain ⟨ad, hv, had⟩ := hm2
      rw [hv]
      have hrun := run_bounds (P := P) (isS := true) w (bnd_ok hT hl) (bnd_ok hT hu') h0 h1 h2 (show n ≤ E.κ i - z by omega)
      refine ⟨hp, .slice (if E.κ i - z = l.toNat then ad else ad.map (·.add (l.toNat * sz'))) (u.toNat - l.toNat) (E.κ i - z - l.toNat), ?_, ?_⟩
      · simp [Instr.sliceAt, run_underlying hu, Instr.slice, hrun, run_sizeOf' w hsz]
      · rw [hr]
        refine ⟨hlv, by omega, ?_⟩
        rw [hι]
        have e : E.κ i - z - l.toNat = E.κ i - (z + l.toNat) := by omega
        refine ⟨_, by rw [e], ⟨fun h3 => ?_, by have := had.2; split <;> cases ad <;> simp_all⟩⟩
        rcases h3 with h3 | h3
        · have hz : z = 0 := by omega
          have hl0 : l.toNat = 0 := by omega
          subst hz
          rw [had.1 (.inl rfl), hl0]
          simp [Addr.add]
        · rw [had.1 (by omega), if_neg (by omega)]
          simp [addr_add, Nat.add_mul]
  · cases h

theorem len_ok {P : Program} {H : HH} {E : Env} {w : World} {t ty : TypeId} {xa : AV} {x : Value} {e : Eff} (hx : Rel xa H E x) (h : aLen P t xa = some e) :
    Plain e ∧ ∃ u, (Builtin.len_ #[t] ty #[x]).run P w = .ok u w ∧ Rel e.r H E u := by
  unfold aLen at h
  split at h
  · rename_i s hu
    obtain ⟨rfl, _⟩ := hx
    obtain ⟨hp, hr, _⟩ := plain_pur h
    exact ⟨hp, _, by simp [Builtin.len_, run_underlying hu]; rfl, by rw [hr]; exact ⟨rfl, rfl⟩⟩
  · rename_i hu
    obtain ⟨rfl, _⟩ := hx
    obtain ⟨hp, hr, _⟩ := plain_pur h
    exact ⟨hp, _, by simp [Builtin.len_, run_underlying hu]; rfl, by rw [hr]; exact ⟨rfl, rfl⟩⟩
  · rename_i b sz n c hu
    obtain ⟨ad, cap, rfl, _⟩ := hx
    obtain ⟨hp, hr, _⟩ := plain_pur h
    exact ⟨hp, _, by simp [Builtin.len_, run_underlying hu]; rfl, by rw [hr]; exact ⟨rfl, rfl⟩⟩
  · rename_i i sz lo n hu
    obtain ⟨hp, hr, _⟩ := plain_pur h
    obtain ⟨_, _, hm⟩ := hx
    refine ⟨hp, .int .i64 n, ?_, by rw [hr]; exact ⟨rfl, rfl⟩⟩
    split at hm
    · obtain ⟨ad, rfl, _⟩ := hm
      simp [Builtin.len_, run_underlying hu, goInt]
    · obtain ⟨_, rfl, rfl⟩ := hm
      simp [Builtin.len_, run_underlying hu, goInt]
  · rename_i n el hu
    obtain ⟨hp, hr, _⟩ := plain_pur h
    exact ⟨hp, .int .i64 n, by simp [Builtin.len_, run_underlying hu, goInt], by rw [hr]; exact ⟨rfl, rfl⟩⟩
  · cases h

theorem mm2_ok {P : Program} {w : World} {isMax : Bool} {x y v : Value} (h : mm2 isMax x y = some v) : ((if isMax then Builtin.max2 x y else Builtin.min2 x y)).run P w = .ok v w ∧ scalar v = true := by
  unfold mm2 at h
  split at h
  case h_2 => cases h
  cases h
  cases isMax <;> exact ⟨rfl, rfl⟩
theorem mmL_ok {P : Program} {H : HH} {E : Env} {w : World} {isMax : Bool} : ∀ {r : List AV} {v u : Value} {vs : List Value}, mmL isMax v r = some u → scalar v = true → RelL r H E vs →
    (vs.foldlM (fun a b => if isMax then Builtin.max2 a b else Builtin.min2 a b) v).run P w = .ok u w ∧ scalar u = true
  | [], v, u, vs, h, hs, hr => by
    simp [RelL] at hr; subst hr
    simp [mmL] at h; subst h
    exact ⟨rfl, hs⟩
  | a :: r, v, u, vs, h, hs, hr => by
    obtain ⟨x, q, rfl, h1, h2⟩ := hr
    cases a <;> simp only [mmL] at h <;> try (cases h; done)
    obtain ⟨rfl, _⟩ := h1
    split at h
    case h_2 => cases h
    rename_i y hy
    obtain ⟨hm, hsy⟩ := mm2_ok (P := P) (w := w) hy
    obtain ⟨h3, h4⟩ := mmL_ok (P := P) (w := w) h hsy h2
    exact ⟨by rw [List.foldlM_cons, Sem.run_bind, hm]; exact h3, h4⟩
theorem minmax_ok {P : Program} {H : HH} {E : Env} {w : World} {isMax : Bool} {l : List AV} {vs : Array Value} {ts : Array TypeId} {ty : TypeId} {e : Eff} (hr : RelL l H E vs.toList) (h : aMinMax isMax l = some e) :
    Plain e ∧ ∃ u, (if isMax then Builtin.max_ ts ty vs else Builtin.min_ ts ty vs).run P w = .ok u w ∧ Rel e.r H E u := by
  unfold aMinMax at h
  split at h
  case h_2 => cases h
  rename_i v r
  obtain ⟨x, q, hq, h1, h2⟩ := hr
  obtain ⟨rfl, hs⟩ := h1
  split at h
  case h_2 => cases h
  rename_i u hu
  obtain ⟨hp, hr', _⟩ := plain_pur h
  obtain ⟨h3, h4⟩ := mmL_ok (P := P) (w := w) hu hs h2
  refine ⟨hp, u, ?_, by rw [hr']; exact ⟨rfl, h4⟩⟩
  cases isMax
  · simp only [Builtin.min_, hq]; simpa using h3
  · simp only [Builtin.max_, hq]; simpa using h3
end Go.Ax
