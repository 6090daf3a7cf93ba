import Derived.Laws.CopyRow
import Derived.Lib.AppendStr
import Derived.Lib.ConvBytes
import Derived.Stop.Asserts
import Derived.Laws.Externs
import Derived.Test.YtckklclehofddaaDoorE7
import Derived.Test.YtckklclehofddaaDoorE8
import Derived.Test.YtckklclehofddaaDoorE9
set_option linter.unusedVariables false
set_option linter.unusedSimpArgs false
set_option linter.unusedSectionVars false
namespace Go.Ax
open Go
variable [Inhabited Gl0]
def cut3E (P : Program) (o : Oper) (t : Nat → AV) : Option CE := match o.op with
  | .slice ty x lo (some hi) (some mx) => (match P.underlying ty, sv (ev t x), bnd 0 (lo.map (ev fun i => sv (t i))), bnd 0 (some (ev (fun i => sv (t i)) hi)), bnd 0 (some (ev (fun i => sv (t i)) mx)) with
    | some (.slice e), .own _ sz _ n, some l, some u, some m => (match sizeT P e with
      | some sz' => (match Nat.beq sz' sz with
        | true => some ⟨.junk, [], [], [], [0 ≤ l, l ≤ u, u ≤ m, m ≤ (n : Int)]⟩
        | false => none)
      | none => none)
    | _, _, _, _, _ => none)
  | _ => none
theorem run_bounds3 {P : Program} (w : World) {n cap : Nat} {lo : Option Value} {l u m : Int} {ku km : IntKind} (hlo : (lo = none ∧ l = 0) ∨ ∃ k, lo = some (.int k l))
    (h0 : 0 ≤ l) (h1 : l ≤ u) (h2 : u ≤ m) (h3 : m ≤ (cap : Int)) : (Instr.sliceBounds true n cap lo (some (.int ku u)) (some (.int km m))).run P w = .ok (l.toNat, u.toNat, m.toNat) w := by
  have hm := run_sliceBound (P := P) w km m cap .slice3Acap (by omega) (by omega)
  have hu := run_sliceBound (P := P) w ku u m.toNat .slice3B (by omega) (by omega)
  rcases hlo with ⟨rfl, rfl⟩ | ⟨kl, rfl⟩
  · simp [Instr.sliceBounds, hm, hu]
  · have hl := run_sliceBound (P := P) w kl l u.toNat .slice3C h0 (by omega)
    simp [Instr.sliceBounds, hm, hu, hl]
theorem bnd_int {t : Nat → AV} {a : Act} {H : HH} {E : Env} (hT : RelT t H E a) {d : Nat} {x : Operand} {q : Int} (h : bnd d (some (ev t x)) = some q) : ∃ k, a.eval x = .int k q := by
  rcases bnd_ok hT (x := some x) (d := d) (q := q) (by simpa using h) with ⟨h, _⟩ | ⟨k, h⟩
  · cases h
  · exact ⟨k, by simpa using h⟩
theorem cut3E_ok {P : Program} {o : Oper} {t : Nat → AV} {rd : Nat → Blk} {e : CE} (h : cut3E P o t = some e) (ho : Hold e.ob) : CE.Good P o t rd e := by
  unfold cut3E at h
  split at h
  case h_2 => cases h
  rename_i ty x lo hi mx hop
  split at h
  case h_2 => cases h
  rename_i el i sz z n l u m hu hx0 hl hu' hm
  split at h
  case h_2 => cases h
  rename_i sz' hsz
  split at h
  case h_2 => cases h
  rename_i hs
  have hs : sz' = sz := by simpa using hs
  subst hs
  cases h
  have b0 := ho (0 ≤ l) (by simp)
  have b1 := ho (l ≤ u) (by simp)
  have b2 := ho (u ≤ m) (by simp)
  have b3 := ho (m ≤ (n : Int)) (by simp)
  intro M hM
  refine runs_stepZ fun H E w a hC hT => ?_
  have hx := rel_sv (rel_ev hT x)
  rw [hx0] at hx
  obtain ⟨ku, hku⟩ := bnd_int (relT_sv hT) hu'
  obtain ⟨km, hkm⟩ := bnd_int (relT_sv hT) hm
  have hlo := bnd_ok (relT_sv hT) hl
  have key : ∀ A cap, n ≤ cap → a.eval x = .slice A n cap → ∃ v, (execOp a.eval o).run P w = .ok (.value v) w := by
    intro A cap hc hv
    have hrun := run_bounds3 (P := P) (n := n) w (cap := cap) (ku := ku) (km := km) hlo b0 b1 b2 (by omega)
    exact ⟨.slice (if m.toNat = l.toNat then A else A.map (·.add (l.toNat * sz'))) (u.toNat - l.toNat) (m.toNat - l.toNat), by
      simp [execOp, hop, hv, Instr.sliceAt, run_underlying hu, Instr.slice, hku, hkm, hrun, run_sizeOf' w hsz]⟩
  obtain ⟨hlv, hκ, hm2⟩ := hx
  have hv : ∃ v, (execOp a.eval o).run P w = .ok (.value v) w := by
    cases hι : E.ι i with
    | none =>
      rw [hι] at hm2
      obtain ⟨rfl, rfl, hv⟩ := hm2
      exact key none 0 (Nat.le_refl _) hv
    | some b =>
      rw [hι] at hm2
      obtain ⟨ad, hv, _⟩ := hm2
      exact key ad _ (by omega) hv
  obtain ⟨v, hv⟩ := hv
  exact ⟨v, w, H, E, hv, trivial, hC, Evol.refl _ _ _ _⟩
def cutUpE (P : Program) (rd : Nat → Blk) (o : Oper) (t : Nat → AV) : Option CE := match o.op with
  | .slice ty x lo (some hi) none => (match P.underlying ty, sv (ev t x), bnd 0 (lo.map (ev fun i => sv (t i))), bnd 0 (some (ev (fun i => sv (t i)) hi)) with
    | some (.slice e), .own i sz 0 _, some l, some u => (match sizeT P e, rd i with
      | some sz', .row _ s2 m _ _ => (match Nat.beq sz' sz && Nat.beq s2 sz with
        | true => some ⟨.own i sz l.toNat (u.toNat - l.toNat), [i], [], [], [0 ≤ l, l ≤ u, u ≤ (m : Int)]⟩
        | false => none)
      | _, _ => none)
    | _, _, _, _ => none)
  | _ => none
theorem run_boundsU {P : Program} (w : World) {n cap : Nat} {lo : Option Value} {l u : Int} {ku : IntKind} (hlo : (lo = none ∧ l = 0) ∨ ∃ k, lo = some (.int k l))
    (h0 : 0 ≤ l) (h1 : l ≤ u) (h2 : u ≤ (cap : Int)) : (Instr.sliceBounds true n cap lo (some (.int ku u)) none).run P w = .ok (l.toNat, u.toNat, cap) w := by
  have hu := run_sliceBound (P := P) w ku u cap .sliceAcap (by omega) (by omega)
  rcases hlo with ⟨rfl, rfl⟩ | ⟨kl, rfl⟩
  · simp [Instr.sliceBounds, hu]
  · have hl := run_sliceBound (P := P) w kl l u.toNat .sliceB h0 (by omega)
    simp [Instr.sliceBounds, hu, hl]
theorem cutUpE_ok {P : Program} {o : Oper} {t : Nat → AV} {rd : Nat → Blk} {e : CE} (h : cutUpE P rd o t = some e) (ho : Hold e.ob) : CE.Good P o t rd e := by
  unfold cutUpE at h
  split at h
  case h_2 => cases h
  rename_i ty x lo hi hop
  split at h
  case h_2 => cases h
  rename_i el i sz n l u hu hx0 hl hu'
  split at h
  case h_2 => cases h
  rename_i sz' ty' s2 m cap' c' hsz hg
  split at h
  case h_2 => cases h
  rename_i hs
  simp only [Bool.and_eq_true, Nat.beq_eq] at hs
  obtain ⟨rfl, rfl⟩ := hs
  cases h
  have b0 := ho (0 ≤ l) (by simp)
  have b1 := ho (l ≤ u) (by simp)
  have b2 := ho (u ≤ (m : Int)) (by simp)
  intro M hM
  refine runs_stepZ fun H E w a hC hT => ?_
  have hx := rel_sv (rel_ev hT x)
  rw [hx0] at hx
  obtain ⟨ku, hku⟩ := bnd_int (relT_sv hT) hu'
  have hlo := bnd_ok (relT_sv hT) hl
  have hB := hC.blk i
  rw [hM i (by simp), hg] at hB
  obtain ⟨_, hn, _, _, hb⟩ := hB
  obtain ⟨hlv, hκ, hm2⟩ := hx
  have key : ∀ A, a.eval x = .slice A n (E.κ i) → (execOp a.eval o).run P w = .ok (.value (.slice (if E.κ i = l.toNat then A else A.map (·.add (l.toNat * s2))) (u.toNat - l.toNat) (E.κ i - l.toNat))) w := by
    intro A hv
    have hrun := run_boundsU (P := P) (n := n) w (cap := E.κ i) (ku := ku) hlo b0 b1 (by omega)
    simp [execOp, hop, hv, Instr.sliceAt, run_underlying hu, Instr.slice, hku, hrun, run_sizeOf' w hsz]
  cases hι : E.ι i with
  | none =>
    rw [hι] at hm2 hb
    obtain ⟨_, rfl, hv⟩ := hm2
    have hκ0 : E.κ i = 0 := hb
    have hl0 : l.toNat = 0 := by omega
    have hu0 : u.toNat = 0 := by omega
    refine ⟨.slice none 0 0, w, H, E, ?_, ⟨hlv, by omega, by rw [hι, hl0, hu0]; exact ⟨rfl, rfl, rfl⟩⟩, hC, Evol.refl _ _ _ _⟩
    have := key none (by rw [hκ0]; exact hv)
    simpa [hl0, hu0, hκ0] using this
  | some b =>
    rw [hι] at hm2
    obtain ⟨ad, hv, had⟩ := hm2
    have had0 := had.1 (.inl rfl)
    have := key ad (by simpa using hv)
    refine ⟨_, w, H, E, this, ⟨hlv, by omega, ?_⟩, hC, Evol.refl _ _ _ _⟩
    rw [hι]
    refine ⟨_, rfl, ⟨fun h3 => ?_, ?_⟩⟩
    · rw [had0]
      split
      · have : l.toNat = 0 := by omega
        simp [this]
      · simp [addr_add]
    · rw [had0]; split <;> simp
def putRow (n k : Nat) (c d : Nat → Nat → AV) (q j : Nat) : AV := if n ≤ q ∧ q < n + k then d (q - n) j else c q j
def inAppE (P : Program) (rd : Nat → Blk) (o : Oper) (t : Nat → AV) : Option CE := match o.op with
  | .call { callee := .builtin .append, args, argTypes } => (match argTypes.toList, args.toList with
    | [t1, t2], [s, x] => (match P.underlying t1, sv (ev t s) with
      | some (.slice e), .own i sz 0 n => (match P.info? e, zeroL P e, rd i with
        | some inf, some _, .row ty s2 m cap c => (match t1 == t2 && Nat.beq s2 sz && Nat.beq inf.size sz && Nat.ble 1 sz, srcOf rd sz (sv (ev t x)) with
          | true, some (k, none, d) => some ⟨.own i sz 0 (n + k), i :: refOf (sv (ev t x)), [(i, .row ty sz m cap (putRow n k c d))], [], [n + k ≤ m]⟩
          | _, _ => none)
        | _, _, _ => none)
      | _, _ => none)
    | _, _ => none)
  | _ => none
theorem run_append_in {P : Program} {w : World} {t ty el : TypeId} {inf : TypeInfo} {n k cap c : Nat} {b : Nat} {A : Option Addr} {cur : Array Value} {news : List Value} (hu : P.underlying t = some (.slice el)) (hi : P.info? el = some inf)
    (hb : w.heap[b]? = some (.cells cur ty (0, 0))) (hnl : news.length = k * inf.size) (hA : A = none → k = 0) (hcell : ∀ ad, A = some ad → ∀ j u, news[j]? = some u → w.cell? (ad.add j) = some u) (h1 : ones news)
    (hn : n + k ≤ cap) (hs : (n + k) * inf.size ≤ cur.size) (oty : TypeId) :
    (Builtin.append_ #[t, t] oty #[.slice (some ⟨b, 0, none⟩) n cap, .slice A k c]).run P w = .ok (.slice (some ⟨b, 0, none⟩) (n + k) cap) (w.setRow b (cur.toList.take (n * inf.size) ++ news ++ cur.toList.drop (n * inf.size + news.length)).toArray) := by
  have hst := run_storeCells_at P b (n * inf.size) ty news 0 cur w hb (by rw [Nat.add_mul] at hs; omega) h1
  simp only [Nat.add_zero] at hst
  have hadd : (⟨b, 0, none⟩ : Addr).add (n * inf.size) = ⟨b, n * inf.size, none⟩ := by simp only [Addr.add]; split <;> simp_all
  have hf : (Builtin.firstCells inf.size k (.slice A k c)).run P w = .ok news.toArray w := by
    cases A with
    | none =>
      have := hA rfl
      subst this
      have : news = [] := List.eq_nil_of_length_eq_zero (by simpa using hnl)
      subst this
      exact run_firstCells_none _ _ _ _ _
    | some ad => exact run_firstCells_some _ _ _ _ _ _ _ hnl (hcell ad rfl)
  simp [Builtin.append_, run_underlying hu, sizeOf, typeInfo, hi, Builtin.lenOf, hf, hn, hadd, hst]
theorem inAppE_ok {P : Program} {o : Oper} {t : Nat → AV} {rd : Nat → Blk} {e : CE} (h : inAppE P rd o t = some e) (ho : Hold e.ob) : CE.Good P o t rd e := by
  unfold inAppE at h
  split at h
  case h_2 => cases h
  rename_i args ats hop
  split at h
  case h_2 => cases h
  rename_i t1 t2 s x hty hargs
  have h1 : args = #[s, x] := Array.ext' hargs
  have h2 : ats = #[t1, t2] := Array.ext' hty
  subst h1; subst h2
  split at h
  case h_2 => cases h
  rename_i el i sz n hu hs0
  split at h
  case h_2 => cases h
  rename_i inf zl ty s2 m cap c hi hz hg
  split at h
  case h_2 => cases h
  rename_i k d hb hsrc
  cases h
  simp only [Bool.and_eq_true, beq_iff_eq, Nat.beq_eq, Nat.ble_eq] at hb
  obtain ⟨⟨⟨rfl, rfl⟩, hsz⟩, h0⟩ := hb
  have hm := ho (n + k ≤ m) (by simp)
  intro M hM
  refine runs_stepZ fun H E w a hC hT => ?_
  have hs := rel_sv (rel_ev hT s)
  rw [hs0] at hs
  have hx := rel_sv (rel_ev hT x)
  rw [← srcOf_congr (rd := getM M) (fun j hj => hM j (by simp [hj]))] at hsrc
  obtain ⟨A, c', news, hxv, hnl, hA, hcell, hones, _, hr2⟩ := srcOf_ok hC hx h0 hsrc
  have hr2 := hr2 rfl
  simp only at hxv hnl hA hr2
  have hB := hC.blk i
  rw [hM i (by simp), hg] at hB
  obtain ⟨hlv, hn, hκ, hcap, hb⟩ := hB
  obtain ⟨_, hη, hm2⟩ := hs
  cases hι : E.ι i with
  | none =>
    rw [hι] at hm2 hb
    obtain ⟨_, rfl, hv⟩ := hm2
    have hκ0 : E.κ i = 0 := hb
    have hk0 : k = 0 := by omega
    subst hk0
    have hnn : news = [] := List.eq_nil_of_length_eq_zero (by simpa using hnl)
    subst hnn
    refine ⟨.slice none 0 0, w, H, E, ?_, ⟨hlv, by omega, by rw [hι]; exact ⟨rfl, rfl, rfl⟩⟩, ?_, Evol.refl _ _ _ _⟩
    · have hf : ∀ A c, (Builtin.firstCells inf.size 0 (.slice A 0 c)).run P w = .ok #[] w := by
        intro A c
        cases A with
        | none => exact run_firstCells_none _ _ _ _ _
        | some ad => exact run_firstCells_some _ _ _ ad _ _ [] (by simp) (by simp)
      simp [execOp, hop, resolve, invoke, builtin, hv, hxv, Builtin.append_, run_underlying hu, sizeOf, typeInfo, hi, Builtin.lenOf, hf]
    · refine ⟨hC.imm, hC.tf, fun q => ?_, hC.injH, hC.sepH, hC.ltS⟩
      show BlkOk H E w q (getM (putM M i _) q)
      by_cases hq : i = q
      · subst hq
        rw [getM_put_same]
        refine ⟨hlv, hn, hκ, hcap, ?_⟩
        rw [hι]; exact hb
      · rw [getM_put_ne _ _ _ _ hq]
        exact hC.blk q
  | some b =>
    rw [hι] at hm2 hb
    obtain ⟨ad, hv, had⟩ := hm2
    have had := had.1 (.inl rfl)
    rw [had] at hv
    simp only [Nat.zero_mul, Nat.sub_zero] at hv
    obtain ⟨vs, g1, g2, g3, g4⟩ := hb
    subst hsz
    have hq : (n + k) * inf.size ≤ m * inf.size := Nat.mul_le_mul_right _ hm
    have hq2 : m * inf.size ≤ E.κ i * inf.size := Nat.mul_le_mul_right _ hn.2
    have hrun := run_append_in (P := P) (c := c') (n := n) (cap := E.κ i) hu hi g1 hnl hA hcell hones (by omega) (by omega) o.type
    rw [Nat.add_mul] at hq
    have hget : ∀ q, (vs.toList.take (n * inf.size) ++ news ++ vs.toList.drop (n * inf.size + news.length))[q]? = if n * inf.size ≤ q ∧ q < n * inf.size + k * inf.size then news[q - n * inf.size]? else vs[q]? := by
      intro q
      have htl : (vs.toList.take (n * inf.size)).length = n * inf.size := by rw [List.length_take, Array.length_toList]; omega
      by_cases hq1 : q < n * inf.size
      · rw [List.append_assoc, List.getElem?_append_left (by omega), List.getElem?_take, if_pos hq1, if_neg (by omega)]; simp
      · by_cases hq2 : q < n * inf.size + k * inf.size
        · rw [List.append_assoc, List.getElem?_append_right (by omega), List.getElem?_append_left (by omega), if_pos ⟨by omega, hq2⟩, htl]
        · rw [List.getElem?_append_right (by rw [List.length_append]; omega), List.length_append, htl, List.getElem?_drop, if_neg (by omega), hnl]
          rw [show n * inf.size + k * inf.size + (q - (n * inf.size + k * inf.size)) = q by omega]; simp
    generalize hnew : vs.toList.take (n * inf.size) ++ news ++ vs.toList.drop (n * inf.size + news.length) = new at hrun hget
    have hnl2 : new.length = vs.size := by
      rw [← hnew]; simp [hnl]; omega
    have hB2 : BlkOk H E (w.setRow b new.toArray) i (.row ty inf.size m cap (putRow n k c d)) := by
      refine ⟨hlv, hn, hκ, hcap, ?_⟩
      rw [hι]
      refine ⟨new.toArray, setRow_heap w b vs _ ty (0, 0) g1, fun y hy => ?_, by simp [hnl2, g3], fun q hqm j hj => ?_⟩
      · obtain ⟨q, hq4⟩ := List.mem_iff_getElem?.1 hy
        rw [List.getElem?_take] at hq4
        split at hq4
        case isFalse => cases hq4
        rename_i hqm
        simp only [List.toList_toArray] at hq4
        rw [hget] at hq4
        split at hq4
        · exact hones _ (List.mem_of_getElem? hq4)
        · refine g2 y ?_
          rw [List.mem_iff_getElem?]
          exact ⟨q, by rw [List.getElem?_take, if_pos hqm]; simpa using hq4⟩
      · have hkm : (q + 1) * inf.size ≤ m * inf.size := Nat.mul_le_mul_right _ hqm
        rw [Nat.add_mul, Nat.one_mul] at hkm
        obtain ⟨y, hy, hr⟩ := g4 q hqm j hj
        simp only [List.getElem?_toArray]
        rw [hget]
        unfold putRow
        by_cases hkr : n ≤ q ∧ q < n + k
        · have a1 : n * inf.size ≤ q * inf.size := Nat.mul_le_mul_right _ hkr.1
          have a2 : (q + 1) * inf.size ≤ (n + k) * inf.size := Nat.mul_le_mul_right _ hkr.2
          rw [Nat.add_mul, Nat.one_mul, Nat.add_mul] at a2
          rw [if_pos hkr, if_pos ⟨by omega, by omega⟩]
          obtain ⟨u, hu1, hu2⟩ := hr2 (q - n) (by omega) j hj
          refine ⟨u, ?_, hu2⟩
          rw [← hu1]
          congr 1
          rw [Nat.sub_mul]; omega
        · rw [if_neg hkr, if_neg ?_]
          · exact ⟨y, hy, hr⟩
          · intro ⟨b1, b2⟩
            refine hkr ⟨?_, ?_⟩
            · rcases Nat.lt_or_ge q n with h | h
              · have : (q + 1) * inf.size ≤ n * inf.size := Nat.mul_le_mul_right _ h
                rw [Nat.add_mul, Nat.one_mul] at this; omega
              · exact h
            · rcases Nat.lt_or_ge q (n + k) with h | h
              · exact h
              · have : (n + k) * inf.size ≤ q * inf.size := Nat.mul_le_mul_right _ h
                rw [Nat.add_mul] at this; omega
    obtain ⟨hc, hev⟩ := hC.upd (w' := w.setRow b new.toArray) (o := .cells new.toArray ty (0, 0)) hlv hι ⟨rfl, rfl, rfl, by simp [World.setRow], setRow_heap w b vs _ ty (0, 0) g1, fun k hk => setRow_other w b k _ hk⟩ hB2
    refine ⟨.slice (some ⟨b, 0, none⟩) (n + k) (E.κ i), _, H, E, by simp [execOp, hop, resolve, invoke, builtin, hv, hxv, hrun], ⟨hlv, by omega, ?_⟩, hc, hev⟩
    rw [hι]
    exact ⟨some ⟨b, 0, none⟩, by simp, ⟨fun _ => by simp, by simp⟩⟩
def partB (B : Blk) (sz n : Nat) : Option (TypeId × Blk) := match B with
  | .lst ty s2 m _ cs => (match Nat.beq s2 sz && Nat.ble n m with | true => some (ty, .lst ty sz n none (cs.take (n * sz))) | false => none)
  | .row ty s2 _ _ c => (match Nat.beq s2 sz with | true => some (ty, .row ty sz n none c) | false => none)
  | _ => none
def appPartE (P : Program) (rd : Nat → Blk) (o : Oper) (t : Nat → AV) : Option CE := match o.op with
  | .call { callee := .builtin .append, args, argTypes } => (match argTypes.toList, args.toList with
    | [t1, t2], [s, x] => (match P.underlying t1, sv (ev t s) with
      | some (.slice e), .own a sz 0 n => (match P.info? e, zeroL P e, partB (rd a) sz n, srcOf rd sz (sv (ev t x)) with
        | some inf, some z, some (ty, B), some src => (match t1 == t2 && Nat.beq inf.size sz && Nat.ble 1 sz && ty == e && len z == sz, appBlk B n sz src with
          | true, some B' => some ⟨.own a sz 0 (n + src.1), a :: refOf (sv (ev t x)), killW [a] [(a, B')], [a], [n + src.1 ≤ maxLen, (n + src.1) * inf.bytes ≤ 140737488355328]⟩
          | _, _ => none)
        | _, _, _, _ => none)
      | _, _ => none)
    | _, _ => none)
  | _ => none
theorem relL_takeD {H : HH} {E : Env} : ∀ {l : List AV} {vs : List Value} (n : Nat), RelL l H E vs → RelL (l.take n) H E (vs.take n)
  | _, _, 0, _ => by simp [RelL]
  | [], _, n + 1, h => by
    have h : _ = [] := h
    subst h; simp [RelL]
  | _ :: _, _, n + 1, h => by
    obtain ⟨v, r, rfl, h1, h2⟩ := h
    exact ⟨v, _, rfl, h1, relL_takeD n h2⟩
theorem partB_ok {H : HH} {E : Env} {w : World} {a sz n : Nat} {B B1 : Blk} {ty : TypeId} (hB : BlkOk H E w a B) (h : partB B sz n = some (ty, B1)) (hn : n ≤ E.η a) :
    E.κ a ≤ maxLen ∧ n ≤ E.κ a ∧ (match E.ι a with
      | none => n = 0 → Cont H E sz n ty B1 []
      | some b => ∃ vs, w.heap[b]? = some (.cells vs ty (0, 0)) ∧ vs.size = E.κ a * sz ∧ ones (vs.toList.take (n * sz)) ∧ Cont H E sz n ty B1 (vs.toList.take (n * sz))) := by
  unfold partB at h
  split at h
  · rename_i ty' s2 m cap cs
    split at h
    case h_2 => cases h
    rename_i hb
    simp only [Bool.and_eq_true, Nat.beq_eq, Nat.ble_eq] at hb
    obtain ⟨rfl, hnm⟩ := hb
    cases h
    obtain ⟨_, hm, hκ, _, hc⟩ := hB
    refine ⟨hκ, by omega, ?_⟩
    cases hι : E.ι a with
    | none =>
      rw [hι] at hc
      obtain ⟨_, rfl⟩ := hc
      intro h0
      subst h0
      exact ⟨rfl, rfl, rfl, by simp [RelL]⟩
    | some b =>
      rw [hι] at hc
      obtain ⟨vs, g1, g2, g3, g4⟩ := hc
      have hle : n * s2 ≤ m * s2 := Nat.mul_le_mul_right _ hnm
      refine ⟨vs, g1, g3, fun x hx => g2 x (List.take_subset_take_left _ hle hx), rfl, rfl, rfl, ?_⟩
      have := relL_takeD (n * s2) g4
      rwa [List.take_take, Nat.min_eq_left hle] at this
  · rename_i ty' s2 m cap c
    split at h
    case h_2 => cases h
    rename_i hb
    have hb : s2 = sz := by simpa using hb
    subst hb
    cases h
    obtain ⟨_, hm, hκ, _, hc⟩ := hB
    refine ⟨hκ, by omega, ?_⟩
    cases hι : E.ι a with
    | none =>
      intro h0
      subst h0
      exact ⟨rfl, rfl, rfl, fun k hk => by omega⟩
    | some b =>
      rw [hι] at hc
      obtain ⟨vs, g1, g2, g3, g4⟩ := hc
      have hle : n * s2 ≤ m * s2 := Nat.mul_le_mul_right _ (by omega)
      refine ⟨vs, g1, g3, fun x hx => g2 x (List.take_subset_take_left _ hle hx), rfl, rfl, rfl, fun k hk j hj => ?_⟩
      obtain ⟨x, hx, hr⟩ := g4 k (by omega) j hj
      refine ⟨x, ?_, hr⟩
      have hlt : k * s2 + j < n * s2 := by
        have : (k + 1) * s2 ≤ n * s2 := Nat.mul_le_mul_right _ hk
        rw [Nat.add_mul, Nat.one_mul] at this; omega
      rw [List.getElem?_take_of_lt hlt, Array.getElem?_toList]
      exact hx
  · cases h
theorem appPartE_ok {P : Program} {o : Oper} {t : Nat → AV} {rd : Nat → Blk} {e : CE} (h : appPartE P rd o t = some e) (ho : Hold e.ob) : CE.Good P o t rd e := by
  unfold appPartE at h
  split at h
  case h_2 => cases h
  rename_i args ats hop
  split at h
  case h_2 => cases h
  rename_i t1 t2 s x hty hargs
  have h1 : args = #[s, x] := Array.ext' hargs
  have h2 : ats = #[t1, t2] := Array.ext' hty
  subst h1; subst h2
  split at h
  case h_2 => cases h
  rename_i el a sz n hu hs0
  split at h
  case h_2 => cases h
  rename_i inf zl ty B src hi hz hp hsrc
  split at h
  case h_2 => cases h
  rename_i B' hb happ
  cases h
  simp only [Bool.and_eq_true, beq_iff_eq, Nat.beq_eq, Nat.ble_eq, len_eq] at hb
  obtain ⟨⟨⟨⟨rfl, hsz⟩, h0⟩, rfl⟩, hzl⟩ := hb
  subst hsz
  have o1 := ho (n + src.1 ≤ maxLen) (by simp)
  have o2 := ho ((n + src.1) * inf.bytes ≤ 140737488355328) (by simp)
  intro M hM
  refine runs_stepZ fun H E w ac hC hT => ?_
  have hs := rel_sv (rel_ev hT s)
  rw [hs0] at hs
  have hx := rel_sv (rel_ev hT x)
  rw [← srcOf_congr (rd := getM M) (fun j hj => hM j (by simp [hj]))] at hsrc
  have hB := hC.blk a
  rw [hM a (by simp)] at hB
  obtain ⟨hlv, hη, hm⟩ := hs
  obtain ⟨hκ, hnκ, hcont⟩ := partB_ok hB hp (by omega)
  obtain ⟨i', zv, hi', hzv, hrz, _⟩ := zeroL_ok H E hz
  rw [hi] at hi'; cases hi'
  have hzs : zv.cells.size = inf.size := by have := RelL.length hrz; simp at this; omega
  have fin : ∀ xs : List Value, w.ownsRow 0 ty inf.size (ac.eval s) n xs → (ac.eval s).ownBlock = E.ι a → ones xs → Cont H E inf.size n ty B xs →
      ∃ v w' H' E', (execOp ac.eval o).run P w = .ok (.value v) w' ∧ Rel (.own a inf.size 0 (n + src.1)) H' E' v ∧ Conc H' E' w' (applyW (killW [a] [(a, B')]) (killM [a] M)) ∧ Evol [a] H E w H' E' w' := by
    intro xs hown hob hxs hct
    obtain ⟨u, w', E', hrun, hr, hc, hev⟩ := grow_good (ty := o.type) (c := 0) hC hu hi hzv hzs (by omega) hlv hown hob hxs hct hx hsrc o1 o2 happ rfl
    refine ⟨u, w', H, E', by simp [execOp, hop, resolve, invoke, builtin, hrun], hr, hc.eqv fun k => ?_, hev⟩
    exact killW_eqv [a] [(a, B')] M k
  cases hι : E.ι a with
  | none =>
    rw [hι] at hm hcont
    obtain ⟨_, rfl, hv⟩ := hm
    exact fin [] (by rw [hv]; exact ⟨by simp, .inl ⟨rfl, rfl⟩⟩) (by rw [hv]; exact hι.symm) (fun y hy => by cases hy) (hcont rfl)
  | some b =>
    rw [hι] at hm hcont
    obtain ⟨ad, hv, had⟩ := hm
    obtain ⟨vs, g1, g2, g3, g4⟩ := hcont
    rw [had.1 (.inl rfl)] at hv
    have hle : n * inf.size ≤ E.κ a * inf.size := Nat.mul_le_mul_right _ hnκ
    refine fin _ ?_ (by rw [hv]; exact hι.symm) g3 g4
    rw [hv]
    exact ⟨by simp; omega, .inr ⟨b, E.κ a, vs, by simp, Nat.zero_le _, g1, by omega, hκ, g2, rfl⟩⟩
def neqP : Value → Value → Prop
  | .int _ a, .int _ b => ¬ a = b
  | a, b => keyB a b = false
theorem neqP_ok {a b : Value} (h : neqP a b) : keyB a b = false := by
  unfold neqP at h
  split at h
  · simpa [keyB] using h
  · exact h
def neqL (k : Value) : List (Value × AV × Nat) → List Prop
  | [] => []
  | e :: r => neqP k e.1 :: neqL k r
theorem neqL_ok {k : Value} : ∀ {es : List (Value × AV × Nat)} (i : Nat), Hold (neqL k es) → mfindE k es i = none
  | [], _, _ => rfl
  | e :: r, i, h => by
    have h1 := neqP_ok (h _ (.head _))
    unfold mfindE
    rw [h1]
    exact neqL_ok (i + 1) fun p hp => h p (.tail _ hp)
def lookN (P : Program) (rd : Nat → Blk) (o : Oper) (t : Nat → AV) : Option CE :=
  match o.op with
  | .lookup xt x idx ok => (match keyD P xt, scV (ev t idx) with
    | some (d, _, et), some kv => (match keyIs d kv, ev t x with
      | true, .mref i => (match rd i, zeroAV P et with
        | .mp es _, some z => (match allKeys d es with
          | true => some ⟨tupOk ok z (.s (.bool false)), [i], [], [], neqL kv es⟩
          | false => none)
        | _, _ => none)
      | _, _ => none)
    | _, _ => none)
  | _ => none
theorem lookN_ok {P : Program} {rd : Nat → Blk} {o : Oper} {t : Nat → AV} {e : CE} (h : lookN P rd o t = some e) (ho : Hold e.ob) : CE.Good P o t rd e := by
  unfold lookN at h
  split at h
  case h_2 => cases h
  rename_i xt x idx ok hop
  split at h
  case h_2 => cases h
  rename_i d kt et kv hkd hkv
  obtain ⟨hm, hk⟩ := keyD_ok hkd
  split at h
  case h_2 => cases h
  rename_i i hkis hx
  have hkey := keyIs_ok hkis
  split at h
  case h_2 => cases h
  rename_i es ck z hg hz
  split at h
  case h_2 => cases h
  rename_i hall
  cases h
  have hf := neqL_ok 0 ho
  intro M hM
  refine runs_stepZ fun H E w a hC hT => ?_
  have h1 := rel_ev hT x
  rw [hx] at h1
  obtain ⟨hl, b, hb, hv⟩ := h1
  have h2 := scV_ok hkv (rel_ev hT idx)
  have hB := hC.blk i
  rw [hM i (by simp), hg] at hB
  obtain ⟨_, b', ms, g1, g2, g3, g4⟩ := hB
  rw [hb] at g1; cases g1
  rcases find_ok hkey 0 g3 g4 hall with ⟨_, q2⟩ | ⟨j', e', a', q1, q2, q3, q4, q5⟩
  · obtain ⟨zv, hz1, hz2⟩ := zeroAV_ok H E w hz
    exact ⟨_, w, H, E, by simp [execOp, hop, hv, h2, run_lookup hm hk g2 hkey q2 (fun _ => hz1)], tupOk_rel hz2 (.inl rfl), hC, Evol.refl _ _ _ _⟩
  · rw [hf] at q1; cases q1
end Go.Ax

namespace Go.Ax
open Go
variable [Inhabited Gl0]
def bytesC (s : ByteArray) (k : Nat) (_ : Nat) : AV := .y (.int .u8 ((s.data.toList.getD k 0).toNat))
def HH.plus (H : HH) (b0 : Nat) (o0 : Obj) : HH := fun x b => match Nat.beq b b0 with | true => some o0 | false => H x b
theorem HH.plus_same (H : HH) (b0 : Nat) (o0 : Obj) (x : Bool) : H.plus b0 o0 x b0 = some o0 := by simp [HH.plus]
theorem HH.plus_ne (H : HH) {b0 b : Nat} (o0 : Obj) (x : Bool) (h : b ≠ b0) : H.plus b0 o0 x b = H x b := by
  have : Nat.beq b b0 = false := by
    cases hb : Nat.beq b b0
    · rfl
    · exact absurd (Nat.eq_of_beq_eq_true hb) h
  simp [HH.plus, this]
theorem fresh_imm {H : HH} {E : Env} {w w' : World} {M : List Blk} {o0 : Obj} (hC : Conc H E w M) (hos : w'.os = w.os) (ht : w'.tape = w.tape) (hout : w'.output = w.output) (hs : w.heap.size ≤ w'.heap.size)
    (hk : ∀ b, b < w.heap.size → w'.heap[b]? = w.heap[b]?) (ho : w'.heap[w.heap.size]? = some o0) :
    Conc (H.plus w.heap.size o0) E w' M ∧ Evol [] H E w (H.plus w.heap.size o0) E w' := by
  have hlt : ∀ x b o, H x b = some o → b < w.heap.size := by
    intro x b o hb
    refine IH.lt_of hC.imm (b := b) (o := o) ?_
    cases x
    · exact hb
    · exact hC.tf.1 b o hb
  have hle : H.le (H.plus w.heap.size o0) := by
    intro x b o hb
    rw [HH.plus_ne H o0 x (by have := hlt x b o hb; omega)]
    exact hb
  have hcase : ∀ x b o, H.plus w.heap.size o0 x b = some o → (b = w.heap.size ∧ o = o0) ∨ H x b = some o := by
    intro x b o hb
    by_cases h : b = w.heap.size
    · subst h
      rw [HH.plus_same] at hb
      cases hb
      exact .inl ⟨rfl, rfl⟩
    · rw [HH.plus_ne H o0 x h] at hb
      exact .inr hb
  refine ⟨⟨fun b o hb => ?_, hC.tf.up hle (fun b o hb => ?_), fun i => ?_, hC.injH, fun i b hb => ?_, fun i b hl hb => Nat.lt_of_lt_of_le (hC.ltS i b hl hb) hs⟩, ⟨hos, ht, hout, hs, fun b hb _ => hk b hb, fun i b hb => .inl ⟨i, hb⟩, hle, fun x b o hb => ?_, fun i hl _ => ⟨hl, rfl, rfl, rfl⟩⟩⟩
  · rcases hcase false b o hb with ⟨rfl, rfl⟩ | h
    · exact ho
    · exact (hk b (hlt _ _ _ h)).trans (hC.imm b o h)
  · rcases hcase true b o hb with ⟨rfl, rfl⟩ | h
    · exact HH.plus_same _ _ _ _
    · exact hle false b o (hC.tf.1 b o h)
  · have := (hC.blk i).move (f := some) (H' := H.plus w.heap.size o0) (E' := E) (w' := w') (i' := i) hle (fun a c hc hl => by cases hc; exact ⟨hl, rfl, rfl, rfl⟩) rfl rfl rfl rfl (fun _ => Iff.rfl) fun b hb => hk b (hC.ltH hb)
    rwa [renB_some] at this
  · rw [HH.plus_ne H o0 false (by have := hC.ltH hb; omega)]
    exact hC.sepH i b hb
  · rcases hcase x b o hb with ⟨rfl, rfl⟩ | h
    · exact .inr (.inl (Nat.le_refl _))
    · exact .inl h
def strB (P : Program) (o : Oper) (t : Nat → AV) : Option CE := match o.op with
  | .convert src dst x => (match P.underlying src, P.underlying dst with
    | some _, some (.slice el) => (match P.underlying el, scV (ev t x) with
      | some (.int .u8), some (.string s) => some ⟨.ys true 1 s.size (bytesC s), [], [], [], []⟩
      | _, _ => none)
    | _, _ => none)
  | _ => none
theorem strB_ok {P : Program} {o : Oper} {t : Nat → AV} {rd : Nat → Blk} {e : CE} (h : strB P o t = some e) : CE.Good P o t rd e := by
  unfold strB at h
  split at h
  case h_2 => cases h
  rename_i src dst x hop
  split at h
  case h_2 => cases h
  rename_i u el hsrc hdst
  split at h
  case h_2 => cases h
  rename_i s hel hs
  cases h
  intro M hM
  refine runs_stepZ fun H E w a hC hT => ?_
  have hx := scV_ok hs (rel_ev hT x)
  have hrun := Lib.run_convert_string_bytes (P := P) w src dst el s hsrc hdst hel
  obtain ⟨hc, hev⟩ := fresh_imm (w' := Lib.bytesWorld w el s) hC (by rfl) (by rfl) (by rfl) (by rw [Lib.bytesWorld_size]; omega) (fun b hb => Lib.bytesWorld_at_old w el s b hb) (Lib.bytesWorld_at_new w el s)
  refine ⟨.slice (some ⟨w.heap.size, 0, none⟩) s.size (grownCap w s.size 0 el), Lib.bytesWorld w el s, _, E, by simp [execOp, hop, hx, hrun], ?_, hc, hev⟩
  refine ⟨_, _, rfl, ⟨grownCap_ge w s.size 0 el, fun h => by cases h⟩, fun _ => ⟨_, rfl, fun k hk j hj => ?_⟩⟩
  obtain rfl : j = 0 := by omega
  refine ⟨.int .u8 ((s.data.toList.getD k 0).toNat), ?_, rfl, rfl, rfl⟩
  have hcell := Lib.bytesWorld_cell w el s k hk
  have e1 : (⟨w.heap.size, 0, none⟩ : Addr).add (k * 1 + 0) = ⟨w.heap.size, k, none⟩ := by simp only [Addr.add]; split <;> simp_all
  rw [e1]
  unfold World.cell? at hcell
  unfold IH.cell?
  rw [HH.plus_same]
  rw [Lib.bytesWorld_at_new] at hcell
  simpa using hcell
def negE (o : Oper) (t : Nat → AV) : Option CE := match o.op with
  | .unOp .neg _ x => (match scV (ev t x) with
    | some (.int k n) => some ⟨.y (.int k (k.wrap (0 - n))), [], [], [], []⟩
    | _ => none)
  | _ => none
theorem negE_ok {P : Program} {o : Oper} {t : Nat → AV} {rd : Nat → Blk} {e : CE} (h : negE o t = some e) : CE.Good P o t rd e := by
  unfold negE at h
  split at h
  case h_2 => cases h
  rename_i ty x hop
  split at h
  case h_2 => cases h
  rename_i k n hs
  cases h
  intro M hM
  refine runs_stepZ fun H E w a hC hT => ?_
  have hx := scV_ok hs (rel_ev hT x)
  exact ⟨.int k (k.wrap (0 - n)), w, H, E, by simp [execOp, hop, hx, Op.unary, Op.intArith], ⟨rfl, rfl⟩, hC, Evol.refl _ _ _ _⟩
theorem grow_any {H : HH} {E : Env} {w w' : World} {M : List Blk} {el : TypeId} {a n m sz : Nat} {B' : Blk} {v' : Value} {xs news : List Value} (hC : Conc H E w M) (hl : E.lv a = true) (hxs : ones xs) (hones : ones news)
    (hown' : w'.ownsRow 0 el sz v' (n + m) (xs ++ news)) (hgrow : w.grownBy w' (E.ι a)) (hat : ∀ g, v'.ownBlock = some g → E.ι a = some g ∨ w.heap.size ≤ g) (hc2 : Cont H E sz (n + m) el B' (xs ++ news)) (hcap : capOf B' = none) :
    ∃ E', Rel (.own a sz 0 (n + m)) H E' v' ∧ Conc H E' w' (killM [a] (putM M a B')) ∧ Evol [a] H E w H E' w' := by
  obtain ⟨bo, κ, hbo, hnκ, hκm, hv', hblk, hbn⟩ := owns_form hown'
  obtain ⟨e1, e2, e3, e4⟩ := E.set_same a bo κ (n + m)
  have hvia : E.via (E.set a bo κ (n + m)) (keepOf [a]) := by
    intro p q hpq hlp
    unfold keepOf at hpq
    split at hpq
    · cases hpq
    · rename_i hn
      cases hpq
      obtain ⟨f1, f2, f3⟩ := E.set_ne a p bo κ (n + m) (by simpa using hn)
      exact ⟨f1.trans hlp, f2, f3⟩
  have hB : BlkOk H (E.set a bo κ (n + m)) w' a (renB (keepOf [a]) B') := by
    refine cont_blk (cont_ren hvia hc2) (by rw [capOf_ren]; exact hcap) e1 (by rw [e3, e4]; exact ⟨rfl, hnκ⟩) (by rw [e3]; exact hκm) (fun y hy => ?_) (by rw [e2, e3]; exact hblk)
    rcases List.mem_append.1 hy with hy | hy
    · exact hxs y hy
    · exact hones y hy
  obtain ⟨hconc, hev⟩ := hC.move hl hgrow (bo' := bo) (κ' := κ) (η' := n + m) (fun g hg => hat g (hbo.trans hg)) hB
  refine ⟨E.set a bo κ (n + m), ⟨e1, by rw [e3, e4]; omega, ?_⟩, hconc, hev⟩
  rw [e2, e3]
  cases bo with
  | none => exact ⟨rfl, by have := hbn rfl; omega, hv'⟩
  | some b => exact ⟨_, hv', ⟨fun _ => by simp, by simp⟩⟩
theorem appS_run {P : Program} {w : World} {t u ty e : TypeId} {i : TypeInfo} (ht : P.underlying t = some (.slice e)) (hu : P.underlying u = some .string) (hi : P.info? e = some i) (hz : i.zero = some (.int .u8 0)) (hsize : i.size = 1) (hby : i.bytes = 1)
    {v : Value} {n : Nat} {xs : List Value} (hown : w.ownsRow 0 e 1 v n xs) (s : ByteArray) (h63 : n + s.size ≤ maxLen) (hbytes : n + s.size ≤ 140737488355328) :
    ∃ v' w', (Builtin.append_ #[t, u] ty #[v, .string s]).run P w = .ok v' w' ∧ w'.ownsRow 0 e 1 v' (n + s.size) (xs ++ Lib.strCells s) ∧ w.grownBy w' v.ownBlock ∧ ∀ g, v'.ownBlock = some g → v.ownBlock = some g ∨ w.heap.size ≤ g := by
  have hsmall : n + s.size ≤ 9223372036854775807 := by simp only [maxLen] at h63; omega
  have hxl : xs.length = n := by simpa using hown.1
  rcases hown.2 with ⟨rfl, rfl⟩ | ⟨g, cap, cur, rfl, hbg, hg, hnc, hcm, hcs, htake⟩
  · have hx : xs = [] := List.eq_nil_of_length_eq_zero hxl
    subst hx
    obtain ⟨v', w', h1, h2, h3, _⟩ := Lib.run_append_own_string (P := P) w w.heap.size t u ty e i ht hu hi hz hsize hby (.slice none 0 0) 0 [] (World.ownsRow_nil w _ e 1) s h63 hbytes (Nat.le_refl _)
    refine ⟨v', w', h1, ⟨h2.1, ?_⟩, h3, fun g hg => ?_⟩
    · rcases h2.2 with h | ⟨g, cap, cur, a1, _, a3⟩
      · exact .inl h
      · exact .inr ⟨g, cap, cur, a1, Nat.zero_le _, a3⟩
    · rcases h2.2 with ⟨rfl, _⟩ | ⟨g', cap, cur, rfl, hb, _⟩
      · cases hg
      · have hg : some g' = some g := hg
        cases hg
        exact .inr hb
  · obtain ⟨v', w', h1, h2, h3, _⟩ := Lib.run_append_own_string (P := P) w 0 t u ty e i ht hu hi hz hsize hby (.slice (some ⟨g, 0, none⟩) n cap) n xs hown s h63 hbytes (Nat.zero_le _)
    refine ⟨v', w', h1, h2, h3, fun g' hg' => ?_⟩
    by_cases hroom : n + s.size ≤ cap
    · have hcs' : cur.size = cap := by simpa using hcs
      have hr := Lib.run_append_room_string (P := P) w t u ty e i ht hu hi hsize g n cap cur hg s hroom (by omega)
      rw [hr] at h1
      cases h1
      exact .inl hg'
    · have holds : ∀ j u, xs[j]? = some u → w.cell? ((⟨g, 0, none⟩ : Addr).add j) = some u := hown.cells (g := g) rfl
      have hr := Lib.run_append_grow_string (P := P) w t u ty e i (.int .u8 0) ht hu hi hz ⟨g, 0, none⟩ n cap xs (by rw [hsize]; simpa using hxl) holds s (by omega) (by omega) (by rw [hby]; exact growslice_fits (by omega) (by omega))
      rw [hr] at h1
      cases h1
      have hg' : some w.heap.size = some g' := hg'
      cases hg'
      exact .inr (Nat.le_refl _)
def zeroU8 (i : TypeInfo) : Bool := match i.zero with | some (.int .u8 z) => decide (z = 0) | _ => false
theorem zeroU8_ok {i : TypeInfo} (h : zeroU8 i = true) : i.zero = some (.int .u8 0) := by
  unfold zeroU8 at h
  split at h
  · rename_i z hz
    have : z = 0 := by simpa using h
    rw [hz, this]
  · cases h
def appSE (P : Program) (rd : Nat → Blk) (o : Oper) (t : Nat → AV) : Option CE := match o.op with
  | .call { callee := .builtin .append, args, argTypes } => (match argTypes.toList, args.toList with
    | [t1, t2], [s, x] => (match P.underlying t1, P.underlying t2, sv (ev t s), scV (ev t x) with
      | some (.slice e), some .string, .own a 1 0 n, some (.string str) => (match P.info? e, partB (rd a) 1 n with
        | some inf, some (ty, B) => (match Nat.beq inf.size 1 && Nat.beq inf.bytes 1 && ty == e && zeroU8 inf, appBlk B n 1 (str.size, none, bytesC str) with
          | true, some B' => some ⟨.own a 1 0 (n + str.size), [a], killW [a] [(a, B')], [a], [n + str.size ≤ 140737488355328]⟩
          | _, _ => none)
        | _, _ => none)
      | _, _, _, _ => none)
    | _, _ => none)
  | _ => none
theorem appSE_ok {P : Program} {o : Oper} {t : Nat → AV} {rd : Nat → Blk} {e : CE} (h : appSE P rd o t = some e) (ho : Hold e.ob) : CE.Good P o t rd e := by
  unfold appSE at h
  split at h
  case h_2 => cases h
  rename_i args ats hop
  split at h
  case h_2 => cases h
  rename_i t1 t2 s x hty hargs
  have h1 : args = #[s, x] := Array.ext' hargs
  have h2 : ats = #[t1, t2] := Array.ext' hty
  subst h1; subst h2
  split at h
  case h_2 => cases h
  rename_i el a n str hu hu2 hs0 hx0
  split at h
  case h_2 => cases h
  rename_i inf ty B hi hp
  split at h
  case h_2 => cases h
  rename_i B' hb happ
  cases h
  simp only [Bool.and_eq_true, beq_iff_eq, Nat.beq_eq] at hb
  obtain ⟨⟨⟨hsz, hby⟩, rfl⟩, hz⟩ := hb
  have hz := zeroU8_ok hz
  have o1 := ho (n + str.size ≤ 140737488355328) (by simp)
  intro M hM
  refine runs_stepZ fun H E w ac hC hT => ?_
  have hs := rel_sv (rel_ev hT s)
  rw [hs0] at hs
  have hx := scV_ok hx0 (rel_ev hT x)
  have hB := hC.blk a
  rw [hM a (by simp)] at hB
  obtain ⟨hlv, hη, hm⟩ := hs
  obtain ⟨hκ, hnκ, hcont⟩ := partB_ok hB hp (by omega)
  have fin : ∀ xs : List Value, w.ownsRow 0 ty 1 (ac.eval s) n xs → (ac.eval s).ownBlock = E.ι a → ones xs → Cont H E 1 n ty B xs →
      ∃ v w' H' E', (execOp ac.eval o).run P w = .ok (.value v) w' ∧ Rel (.own a 1 0 (n + str.size)) H' E' v ∧ Conc H' E' w' (applyW (killW [a] [(a, B')]) (killM [a] M)) ∧ Evol [a] H E w H' E' w' := by
    intro xs hown hob hxs hct
    obtain ⟨v', w', hrun, hown', hgrow, hat⟩ := appS_run (ty := o.type) hu hu2 hi hz hsz hby hown str (by unfold maxLen; omega) o1
    have hr2 : ∀ k, k < str.size → ∀ j, j < 1 → ∃ u, (Lib.strCells str)[k * 1 + j]? = some u ∧ Rel (bytesC str k j) H E0 u := by
      intro k hk j hj
      obtain rfl : j = 0 := by omega
      have hk2 : k < str.data.toList.length := by simpa using hk
      refine ⟨.int .u8 ((str.data.toList.getD k 0).toNat), ?_, rfl, rfl⟩
      simp [Lib.strCells, List.getD, hk2, hk]
    obtain ⟨hc2, hcap⟩ := appBlk_ok (src := (str.size, none, bytesC str)) hct hown.1 (by rw [Lib.strCells_length]; simp) (fun l hl => by cases hl) (fun _ => hr2) happ
    rw [hob] at hgrow hat
    obtain ⟨E', hr, hc, hev⟩ := grow_any hC hlv hxs (fun y hy => Lib.strCells_oneCell str y hy) hown' hgrow hat hc2 hcap
    refine ⟨v', w', H, E', by simp [execOp, hop, resolve, invoke, builtin, hx, hrun], hr, hc.eqv fun k => ?_, hev⟩
    exact killW_eqv [a] [(a, B')] M k
  cases hι : E.ι a with
  | none =>
    rw [hι] at hm hcont
    obtain ⟨_, rfl, hv⟩ := hm
    exact fin [] (by rw [hv]; exact ⟨by simp, .inl ⟨rfl, rfl⟩⟩) (by rw [hv]; exact hι.symm) (fun y hy => by cases hy) (hcont rfl)
  | some b =>
    rw [hι] at hm hcont
    obtain ⟨ad, hv, had⟩ := hm
    obtain ⟨vs, g1, g2, g3, g4⟩ := hcont
    rw [had.1 (.inl rfl)] at hv
    have hle : n * 1 ≤ E.κ a * 1 := Nat.mul_le_mul_right _ hnκ
    refine fin _ ?_ (by rw [hv]; exact hι.symm) g3 g4
    rw [hv]
    exact ⟨by simp; omega, .inr ⟨b, E.κ a, vs, by simp, Nat.zero_le _, g1, by omega, hκ, g2, rfl⟩⟩
end Go.Ax

namespace Go.Ax
open Go
variable [Inhabited Gl0]
open Go.MapKept (IsKey run_checkKey run_findKey heap_set)
def taM (P : Program) (o : Oper) (t : Nat → AV) : Option CE :=
  match o.op with
  | .typeAssert x _ asserted ok => (match ev t x with
    | .ifc ty v => (match P.underlying asserted with
      | some (.interface want) => (match P.info? ty with
        | some i => (match (lacking want i.methods).isEmpty with
          | true => some ⟨tupOk ok (.ifc ty v) (.s (.bool true)), [], [], [], []⟩
          | false => (match ok, zeroAV P asserted with
            | true, some z => some ⟨tupOk true z (.s (.bool false)), [], [], [], []⟩
            | _, _ => none))
        | none => none)
      | some d => (match Nat.beq ty asserted with
        | true => some ⟨tupOk ok v (.s (.bool true)), [], [], [], []⟩
        | false => (match ok, zeroAV P asserted with
            | true, some z => some ⟨tupOk true z (.s (.bool false)), [], [], [], []⟩
            | _, _ => none))
      | none => none)
    | .s .nilIface => (match ok, P.underlying asserted, zeroAV P asserted with
      | true, some _, some z => some ⟨tupOk true z (.s (.bool false)), [], [], [], []⟩
      | _, _, _ => none)
    | _ => none)
  | _ => none
theorem taM_ok {P : Program} {rd : Nat → Blk} {o : Oper} {t : Nat → AV} {e : CE} (h : taM P o t = some e) : CE.Good P o t rd e := by
  unfold taM at h
  split at h
  case h_2 => cases h
  rename_i x xt asserted ok hop
  have go : ∀ {r : AV}, (∀ H E (w : World) (u : Value), Rel (ev t x) H E u → ∃ v, (Instr.typeAssert u xt asserted ok).run P w = .ok v w ∧ Rel r H E v) → CE.Good P o t rd ⟨r, [], [], [], []⟩ := by
    intro r hr M hM
    refine runs_stepZ fun H E w a hC hT => ?_
    obtain ⟨v, q1, q2⟩ := hr H E w (a.eval x) (rel_ev hT x)
    exact ⟨v, w, H, E, by simp [execOp, hop, q1, Result.andThen], q2, hC, Evol.refl _ _ _ _⟩
  split at h
  · rename_i ty v hx
    rw [hx] at go
    split at h
    · rename_i want hu
      split at h
      case h_2 => cases h
      rename_i i hi
      split at h
      · rename_i hl
        cases h
        refine go fun H E w u hr => ?_
        obtain ⟨x', rfl, hx'⟩ := hr
        have hl : lacking want i.methods = [] := by simpa using hl
        cases ok with
        | true => exact ⟨_, run_typeAssert_has hu hi hl, ⟨#[.iface ty x', .bool true], rfl, _, [.bool true], rfl, ⟨x', rfl, hx'⟩, .bool true, [], rfl, ⟨rfl, rfl⟩, rfl⟩⟩
        | false => exact ⟨.iface ty x', by simp [Instr.typeAssert, run_underlying hu, typeInfo, hi, missingMethod_none hl, Result.andThen], ⟨x', rfl, hx'⟩⟩
      · rename_i hl
        split at h
        case h_2 => cases h
        rename_i z hz
        cases h
        refine go fun H E w u hr => ?_
        obtain ⟨x', rfl, hx'⟩ := hr
        have hl : lacking want i.methods ≠ [] := by simpa using hl
        obtain ⟨m, hm⟩ := missingMethod_some hl
        obtain ⟨zv, hz1, hz2⟩ := zeroAV_ok H E w hz
        exact ⟨.tuple #[zv, .bool false], by simp [Instr.typeAssert, run_underlying hu, typeInfo, hi, hm, hz1, Result.andThen], ⟨#[zv, .bool false], rfl, zv, [.bool false], rfl, hz2, .bool false, [], rfl, ⟨rfl, rfl⟩, rfl⟩⟩
    · rename_i d hu hd
      split at h
      · rename_i ht
        have ht := Nat.eq_of_beq_eq_true ht
        subst ht
        cases h
        refine go fun H E w u hr => ?_
        obtain ⟨x', rfl, hx'⟩ := hr
        have hne : ∀ ms, d ≠ .interface ms := fun ms e => hu ms e
        cases ok with
        | true => exact ⟨.tuple #[x', .bool true], by cases d <;> first | exact absurd rfl (hne _) | simp [Instr.typeAssert, run_underlying hd, Result.andThen], ⟨#[x', .bool true], rfl, _, [.bool true], rfl, hx', .bool true, [], rfl, ⟨rfl, rfl⟩, rfl⟩⟩
        | false => exact ⟨x', by cases d <;> first | exact absurd rfl (hne _) | simp [Instr.typeAssert, run_underlying hd, Result.andThen], hx'⟩
      · rename_i ht
        have ht : ty ≠ asserted := fun e => by subst e; simp at ht
        split at h
        case h_2 => cases h
        rename_i z hz
        cases h
        refine go fun H E w u hr => ?_
        obtain ⟨x', rfl, hx'⟩ := hr
        have hne : ∀ ms, d ≠ .interface ms := fun ms e => hu ms e
        obtain ⟨zv, hz1, hz2⟩ := zeroAV_ok H E w hz
        refine ⟨.tuple #[zv, .bool false], ?_, ⟨#[zv, .bool false], rfl, zv, [.bool false], rfl, hz2, .bool false, [], rfl, ⟨rfl, rfl⟩, rfl⟩⟩
        cases d <;> first | exact absurd rfl (hne _) | simp [Instr.typeAssert, run_underlying hd, ht, hz1, Result.andThen]
    · cases h
  · rename_i hx
    rw [hx] at go
    split at h
    case h_2 => cases h
    rename_i d z hd hz
    cases h
    refine go fun H E w u hr => ?_
    have hu : u = .nilIface := hr.1
    subst hu
    obtain ⟨zv, hz1, hz2⟩ := zeroAV_ok H E w hz
    refine ⟨.tuple #[zv, .bool false], ?_, ⟨#[zv, .bool false], rfl, zv, [.bool false], rfl, hz2, .bool false, [], rfl, ⟨rfl, rfl⟩, rfl⟩⟩
    cases d <;> simp [Instr.typeAssert, run_underlying hd, hz1, Result.andThen]
  · cases h
def delM (P : Program) (rd : Nat → Blk) (o : Oper) (t : Nat → AV) : Option CE :=
  match o.op with
  | .call { callee := .builtin .delete, args, argTypes } => (match args.toList, argTypes.toList with
    | [m, k], [mt, _] => (match keyD P mt, scV (ev t k), ev t m with
      | some (d, _, _), some kv, .mref i => (match keyIs d kv, rd i with
        | true, .mp es ck => (match allKeys d es && isS (ev t k) with
          | true => some ⟨.tup [], [i], [(i, .mp (match mfindE kv es 0 with | some (j, _) => delEs es j | none => es) ck)], [], []⟩
          | false => none)
        | _, _ => none)
      | _, _, _ => none)
    | _, _ => none)
  | _ => none
theorem del_ok {H : HH} {E : Env} : ∀ {es : List (Value × AV × Nat)} {l : List MapEntry} (j : Nat), entsM l = ents es → RelL (vals es) H E (valsM l) →
    entsM (l.eraseIdx j) = ents (delEs es j) ∧ RelL (vals (delEs es j)) H E (valsM (l.eraseIdx j))
  | [], l, j, h, _ => by
    have : l = [] := by simpa using h
    subst this
    exact ⟨rfl, rfl⟩
  | x :: r, l, j, h, hr => by
    cases l with
    | nil => simp at h
    | cons y l =>
      simp only [entsM, ents, List.map_cons, List.cons.injEq, Prod.mk.injEq] at h
      obtain ⟨u, q, hu, h1, h2⟩ := hr
      simp only [valsM, List.map_cons, List.cons.injEq] at hu
      obtain ⟨rfl, rfl⟩ := hu
      cases j with
      | zero => exact ⟨h.2, h2⟩
      | succ j =>
        obtain ⟨g1, g2⟩ := del_ok j h.2 h2
        refine ⟨?_, ⟨_, _, rfl, h1, g2⟩⟩
        simp only [List.eraseIdx_cons_succ, entsM, ents, delEs, List.map_cons, h.1.1, h.1.2]
        exact congrArg (_ :: ·) g1
theorem delM_ok {P : Program} {rd : Nat → Blk} {o : Oper} {t : Nat → AV} {e : CE} (h : delM P rd o t = some e) : CE.Good P o t rd e := by
  unfold delM at h
  split at h
  case h_2 => cases h
  rename_i args ats hop
  split at h
  case h_2 => cases h
  rename_i m k mt kt' hm hk
  have e1 : args = #[m, k] := Array.ext' hm
  have e2 : ats = #[mt, kt'] := Array.ext' hk
  subst e1; subst e2
  split at h
  case h_2 => cases h
  rename_i d kt et kv i hkd hkv hx
  obtain ⟨hm, hk⟩ := keyD_ok hkd
  split at h
  case h_2 => cases h
  rename_i es ck hkis hg
  have hkey := keyIs_ok hkis
  split at h
  case h_2 => cases h
  rename_i hall
  simp only [Bool.and_eq_true] at hall
  cases h
  intro M hM
  refine runs_stepZ fun H E w a hC hT => ?_
  have h1 := rel_ev hT m
  rw [hx] at h1
  obtain ⟨hl, b, hb, hv⟩ := h1
  have h2 := scV_ok hkv (rel_ev hT k)
  have hB := hC.blk i
  rw [hM i (by simp), hg] at hB
  obtain ⟨_, b', ms, g1, g2, g3, g4⟩ := hB
  rw [hb] at g1; cases g1
  rcases find_ok hkey 0 g3 g4 hall.1 with ⟨q1, q2⟩ | ⟨j, e', a', q1, q2, q3, q4, q5⟩
  · obtain ⟨hc, hev⟩ := hC.upd hl hb (upd_setO g2) (B := .mp es ck) ⟨hl, b, ms, hb, (heap_set g2).1, g3, g4⟩
    refine ⟨.tuple #[], _, H, E, ?_, ⟨#[], rfl, rfl⟩, ?_, hev⟩
    · simp [execOp, hop, resolve, invoke, builtin, hv, h2, Builtin.delete_, run_underlying hm, Go.MapKept.run_getObj_map g2, run_checkKey hk hkey, run_findKey hk q2, Go.MapKept.run_setObj_map _ g2, Result.andThen, World.setO]
    · simp only [killM, applyW]
      rw [q1]
      exact hc
  · simp only [Nat.zero_add] at q1 q2
    obtain ⟨m1, m2⟩ := del_ok j g3 g4
    have hlist : (ms.eraseIdxIfInBounds j).toList = ms.toList.eraseIdx j := by
      unfold Array.eraseIdxIfInBounds
      split
      · simp
      · rename_i hj
        rw [List.eraseIdx_of_length_le]
        simpa using hj
    obtain ⟨hc, hev⟩ := hC.upd hl hb (upd_setO g2) (B := .mp (delEs es j) ck) ⟨hl, b, ms.eraseIdxIfInBounds j, hb, (heap_set g2).1, by rw [hlist]; exact m1, by rw [hlist]; exact m2⟩
    refine ⟨.tuple #[], _, H, E, ?_, ⟨#[], rfl, rfl⟩, ?_, hev⟩
    · simp [execOp, hop, resolve, invoke, builtin, hv, h2, Builtin.delete_, run_underlying hm, Go.MapKept.run_getObj_map g2, run_checkKey hk hkey, run_findKey hk q2, Go.MapKept.run_setObj_map _ g2, Result.andThen, World.setO]
    · simp only [killM, applyW]
      rw [q1]
      exact hc
def rangeM (P : Program) (rd : Nat → Blk) (nid : Nat) (o : Oper) (t : Nat → AV) : Option CE :=
  match o.op with
  | .range ty x => (match P.underlying ty, ev t x with
    | some (.map _ _), .mref i => (match rd i with
      | .mp _ ck => some ⟨.ptr nid 0 1 0, [i, nid], [(nid, .mit i ck [] ck)], [], []⟩
      | _ => none)
    | _, _ => none)
  | _ => none
theorem rangeM_ok {P : Program} {rd : Nat → Blk} {nid : Nat} {o : Oper} {t : Nat → AV} {e : CE} (hd : ∀ k, nid ≤ k → rd k = .dead) (h : rangeM P rd nid o t = some e) : CE.Good P o t rd e := by
  unfold rangeM at h
  split at h
  case h_2 => cases h
  rename_i ty x hop
  split at h
  case h_2 => cases h
  rename_i kt et i hu hx
  split at h
  case h_2 => cases h
  rename_i es ck hg
  cases h
  intro M hM
  refine runs_stepZ fun H E w a hC hT => ?_
  have h1 := rel_ev hT x
  rw [hx] at h1
  obtain ⟨hl, b, hb, hv⟩ := h1
  have hB := hC.blk i
  rw [hM i (by simp), hg] at hB
  obtain ⟨_, b', ms, g1, g2, g3, g4⟩ := hB
  rw [hb] at g1; cases g1
  have hdn : getM M nid = .dead := (hM nid (by simp)).trans (hd nid (Nat.le_refl _))
  have hdl : E.lv nid = false := by have := hC.blk nid; rw [hdn] at this; exact this
  have hne : i ≠ nid := fun e => by subst e; rw [hl] at hdl; cases hdl
  obtain ⟨s1, s2, _⟩ := E.set_same nid (some w.heap.size) 0 0
  obtain ⟨o1, o2, _⟩ := E.set_ne nid i (some w.heap.size) 0 0 hne
  obtain ⟨hc, hev⟩ := hC.new (w' := w.alloc (.mapIter (some b) ck #[] ck)) (i := nid) (κ := 0) (η := 0) (bo := some w.heap.size) (B := .mit i ck [] ck) hdn rfl rfl rfl (by simp) (fun b hb => Go.RowKit.Below.heap_alloc w _ b hb) (fun b hb => by cases hb; exact Nat.le_refl _)
    ⟨s1, o1.trans hl, w.heap.size, b, s2, o2.trans hb, heap_alloc_new w _⟩
  refine ⟨.pointer (some ⟨w.heap.size, 0, none⟩), _, H, _, ?_, ⟨s1, w.heap.size, s2, by simp⟩, hc, hev⟩
  simp [execOp, hop, hv, Instr.range, run_underlying hu, Go.MapKept.run_getObj_map g2, Result.andThen]
def leftE (seen : List Nat) : List (Value × AV × Nat) → List (Value × AV × Nat)
  | [] => []
  | e :: r => match mem seen e.2.2 with | true => leftE seen r | false => e :: leftE seen r
def splitN (b : Bool) (since : Nat) : List (Value × AV × Nat) → List (Value × AV × Nat)
  | [] => []
  | e :: r => match Nat.blt e.2.2 since == b with | true => e :: splitN b since r | false => splitN b since r
def allGe (last : Nat) : List (Value × AV × Nat) → Bool
  | [] => true
  | e :: r => Nat.ble last e.2.2 && allGe last r
def isE {α : Type} : List α → Bool
  | [] => true
  | _ => false
def nextM (rd : Nat → Blk) (o : Oper) (t : Nat → AV) : Option CE :=
  match o.op with
  | .next it false => (match ev t it with
    | .ptr j 0 _ 0 => (match rd j with
      | .mit m since seen last => (match rd m with
        | .mp es ck => (match isE seen || isE es || !allGe last es with
          | true => (match splitN true since (leftE seen es), splitN false since (leftE seen es) with
            | [], [] => some ⟨.tup [.s (.bool false)], [j, m], [], [], []⟩
            | [e], [] => some ⟨.tup [.s (.bool true), toAV e.1, e.2.1], [j, m], [(j, .mit m since (seen ++ [e.2.2]) ck)], [], []⟩
            | _, _ => none)
          | false => none)
        | _ => none)
      | _ => none)
    | _ => none)
  | _ => none
theorem filt_ok {H : HH} {E : Env} {q : Nat → Bool} : ∀ {es : List (Value × AV × Nat)} {l : List MapEntry}, entsM l = ents es → RelL (vals es) H E (valsM l) →
    entsM (l.filter fun e => q e.born) = ents (es.filter fun e => q e.2.2) ∧ RelL (vals (es.filter fun e => q e.2.2)) H E (valsM (l.filter fun e => q e.born))
  | [], l, h, _ => by
    have : l = [] := by simpa using h
    subst this
    exact ⟨rfl, rfl⟩
  | x :: r, l, h, hr => by
    cases l with
    | nil => simp at h
    | cons y l =>
      simp only [entsM, ents, List.map_cons, List.cons.injEq, Prod.mk.injEq] at h
      obtain ⟨u, p, hu, h1, h2⟩ := hr
      simp only [valsM, List.map_cons, List.cons.injEq] at hu
      obtain ⟨rfl, rfl⟩ := hu
      obtain ⟨g1, g2⟩ := filt_ok (q := q) h.2 h2
      simp only [List.filter_cons, h.1.2]
      cases q x.2.2 with
      | false => exact ⟨g1, g2⟩
      | true =>
        refine ⟨?_, ⟨_, _, rfl, h1, g2⟩⟩
        simp only [entsM, ents, if_true, List.map_cons, h.1.1, h.1.2]
        exact congrArg (_ :: ·) g1
theorem leftE_eq (seen : List Nat) : ∀ es, leftE seen es = es.filter fun e => !mem seen e.2.2
  | [] => rfl
  | e :: r => by
    simp only [leftE, List.filter_cons, leftE_eq seen r]
    cases mem seen e.2.2 <;> rfl
theorem splitN_eq (b : Bool) (since : Nat) : ∀ es, splitN b since es = es.filter fun e => Nat.blt e.2.2 since == b
  | [] => rfl
  | e :: r => by
    simp only [splitN, List.filter_cons, splitN_eq b since r]
    cases (Nat.blt e.2.2 since == b) <;> rfl
theorem allGe_eq (last : Nat) : ∀ es, allGe last es = (ents es).all fun e => decide (e.2 ≥ last)
  | [] => rfl
  | e :: r => by
    simp only [allGe, allGe_eq last r, ents, List.map_cons, List.all_cons]
    congr 1
    rw [Bool.eq_iff_iff]
    simp [Nat.ble_eq]
theorem mem_contains (seen : List Nat) (n : Nat) : seen.toArray.contains n = mem seen n := by
  rw [Bool.eq_iff_iff]
  simp [mem_iff]
theorem run_getObj_iter {P : Program} {w : World} {r : Nat} {m : Option Nat} {s : Nat} {a : Array Nat} {l : Nat} (hb : w.heap[r]? = some (.mapIter m s a l)) : (getObj r).run P w = .ok (.mapIter m s a l) w := by
  simp [getObj, Sem.run, hb]
theorem run_setObj_iter {P : Program} {w : World} {r : Nat} {m : Option Nat} {s : Nat} {a : Array Nat} {l : Nat} (o : Obj) (hb : w.heap[r]? = some (.mapIter m s a l)) : (setObj r o).run P w = .ok () (World.setO w r o) := by
  simp [setObj, Sem.run, hb, World.setO]
theorem nextM_ok {P : Program} {rd : Nat → Blk} {o : Oper} {t : Nat → AV} {e : CE} (h : nextM rd o t = some e) : CE.Good P o t rd e := by
  unfold nextM at h
  split at h
  case h_2 => cases h
  rename_i it hop
  split at h
  case h_2 => cases h
  rename_i j sz hx
  split at h
  case h_2 => cases h
  rename_i m since seen last hj
  split at h
  case h_2 => cases h
  rename_i es ck hm
  split at h
  case h_2 => cases h
  rename_i hok
  have key : ∀ (H : HH) (E : Env) (w : World) (M : List Blk) (a : Act), Conc H E w M → RelT t H E a → getM M j = rd j → getM M m = rd m → ∃ b bm ms, E.lv j = true ∧ E.lv m = true ∧ E.ι j = some b ∧ E.ι m = some bm ∧ w.heap[b]? = some (.mapIter (some bm) since seen.toArray last) ∧ w.heap[bm]? = some (.map ms ck) ∧ a.eval it = .pointer (some ⟨b, 0, none⟩) ∧
      (!seen.toArray.isEmpty && !ms.isEmpty && ms.all (fun e => decide (e.born ≥ last))) = false ∧
      entsM ((ms.filter fun e => !seen.toArray.contains e.born).filter (fun e => decide (e.born < since))).toList = ents (splitN true since (leftE seen es)) ∧
      RelL (vals (splitN true since (leftE seen es))) H E (valsM ((ms.filter fun e => !seen.toArray.contains e.born).filter (fun e => decide (e.born < since))).toList) ∧
      entsM ((ms.filter fun e => !seen.toArray.contains e.born).filter (fun e => decide (e.born ≥ since))).toList = ents (splitN false since (leftE seen es)) := by
    intro H E w M a hC hT hMj hMm
    have h1 := rel_ev hT it
    rw [hx] at h1
    obtain ⟨hl, b, hb, hv⟩ := h1
    have hB := hC.blk j
    rw [hMj, hj] at hB
    obtain ⟨_, hlm, b', bm, g1, g2, g3⟩ := hB
    rw [hb] at g1; cases g1
    have hB2 := hC.blk m
    rw [hMm, hm] at hB2
    obtain ⟨_, bm', ms, k1, k2, k3, k4⟩ := hB2
    rw [g2] at k1; cases k1
    obtain ⟨f1, f2⟩ := filt_ok (q := fun n => !mem seen n) k3 k4
    obtain ⟨f3, f4⟩ := filt_ok (q := fun n => Nat.blt n since == true) f1 f2
    obtain ⟨f5, _⟩ := filt_ok (q := fun n => Nat.blt n since == false) f1 f2
    have c1 : (ms.filter fun e => !seen.toArray.contains e.born).toList = ms.toList.filter fun e => !mem seen e.born := by
      rw [Array.toList_filter]
      congr 1
      funext e
      rw [mem_contains]
    have c2 : (fun e : MapEntry => decide (e.born < since)) = fun e => Nat.blt e.born since == true := by
      funext e
      rw [Bool.eq_iff_iff]
      simp [Nat.blt_eq]
    have c3 : (fun e : MapEntry => decide (e.born ≥ since)) = fun e => Nat.blt e.born since == false := by
      funext e
      have : Nat.blt e.born since = decide (e.born < since) := by rw [Bool.eq_iff_iff]; simp [Nat.blt_eq]
      rw [this]
      by_cases h : e.born < since
      · simp [h]
      · simp [h, Nat.le_of_not_lt h]
    refine ⟨b, bm, ms, hl, hlm, hb, g2, g3, k2, by simpa using hv, ?_, ?_, ?_, ?_⟩
    · have e1 : seen.toArray.isEmpty = isE seen := by cases seen <;> rfl
      have e2 : ms.isEmpty = isE es := by
        have : ms.toList.isEmpty = es.isEmpty := by
          have := congrArg List.isEmpty k3
          simpa using this
        rw [← Array.isEmpty_toList, this]
        cases es <;> rfl
      have e3 : (ms.all fun e => decide (e.born ≥ last)) = allGe last es := by
        have k3' : ents es = entsM ms.toList := k3.symm
        rw [allGe_eq, k3', ← Array.all_toList]
        simp only [List.all_map]
        rfl
      rw [e1, e2, e3]
      revert hok
      generalize isE seen = x
      generalize isE es = y
      generalize allGe last es = z
      cases x <;> cases y <;> cases z <;> simp
    · rw [Array.toList_filter, c1, c2, splitN_eq, leftE_eq]; exact f3
    · rw [Array.toList_filter, c1, c2, splitN_eq, leftE_eq]; exact f4
    · rw [Array.toList_filter, c1, c3, splitN_eq, leftE_eq]; exact f5
  split at h
  · rename_i ho hn
    cases h
    intro M hM
    refine runs_stepZ fun H E w a hC hT => ?_
    obtain ⟨b, bm, ms, q1, q2, q3, q4, q5, q6, q7, q8, q9, q10, q11⟩ := key H E w M a hC hT (hM j (by simp)) (hM m (by simp))
    rw [ho] at q9
    rw [hn] at q11
    have r1 : (ms.filter fun e => !seen.toArray.contains e.born).filter (fun e => decide (e.born < since)) = #[] := Array.ext' (by simpa using q9)
    have r2 : (ms.filter fun e => !seen.toArray.contains e.born).filter (fun e => decide (e.born ≥ since)) = #[] := Array.ext' (by simpa using q11)
    refine ⟨.tuple #[.bool false], w, H, E, ?_, ⟨#[.bool false], rfl, _, [], rfl, ⟨rfl, rfl⟩, rfl⟩, hC, Evol.refl _ _ _ _⟩
    have := Instr.next
    simp only [execOp, hop, q7, Instr.next, Sem.run_bind, run_getObj_iter q5, Go.MapKept.run_getObj_map q6, Result.andThen, q8, r1, r2]
    simp [Question.forced, Result.andThen]
  · rename_i en ho hn
    cases h
    intro M hM
    refine runs_stepZ fun H E w a hC hT => ?_
    obtain ⟨b, bm, ms, q1, q2, q3, q4, q5, q6, q7, q8, q9, q10, q11⟩ := key H E w M a hC hT (hM j (by simp)) (hM m (by simp))
    rw [ho] at q9 q10
    rw [hn] at q11
    obtain ⟨u, r, hu, h1, h2⟩ := q10
    cases h2
    generalize hF : (ms.filter fun e => !seen.toArray.contains e.born).filter (fun e => decide (e.born < since)) = F at q9 hu
    have r2 : (ms.filter fun e => !seen.toArray.contains e.born).filter (fun e => decide (e.born ≥ since)) = #[] := Array.ext' (by simpa using q11)
    obtain ⟨x, hFx⟩ : ∃ x, F = #[x] := by
      obtain ⟨L⟩ := F
      cases L with
      | nil => simp at hu
      | cons x L =>
        cases L with
        | nil => exact ⟨x, rfl⟩
        | cons y L => simp at hu
    subst hFx
    simp only [entsM, ents, List.map_cons, List.map_nil, List.cons.injEq, Prod.mk.injEq] at q9
    simp only [valsM, List.map_cons, List.map_nil, List.cons.injEq] at hu
    obtain ⟨⟨w1, w2⟩, _⟩ := q9
    obtain ⟨rfl, _⟩ := hu
    obtain ⟨hc, hev⟩ := hC.upd q1 q3 (upd_setO q5) (o := .mapIter (some bm) since (seen ++ [en.2.2]).toArray ck) (B := .mit m since (seen ++ [en.2.2]) ck) ⟨q1, q2, b, bm, q3, q4, (heap_set q5).1⟩
    refine ⟨.tuple #[.bool true, x.key, x.val], _, H, E, ?_, ⟨#[.bool true, x.key, x.val], rfl, _, _, rfl, ⟨rfl, rfl⟩, _, _, rfl, by rw [w1]; exact rel_toAV _ H E, _, _, rfl, h1, rfl⟩, hc, hev⟩
    simp only [execOp, hop, q7, Instr.next, Sem.run_bind, run_getObj_iter q5, Go.MapKept.run_getObj_map q6, Result.andThen, q8, hF, r2]
    have hpush : seen.toArray.push x.born = (seen ++ [en.2.2]).toArray := by rw [w2]; simp
    simp [Question.forced, Result.andThen, run_setObj_iter _ q5, w2]
  · cases h
def entryM (rd : Nat → Blk) (o : Oper) (t : Nat → AV) : Option CE :=
  match o.op with
  | .entry it => (match ev t it with
    | .ptr j 0 _ 0 => (match rd j with
      | .mit m _ seen last => (match rd m with
        | .mp es ck => (match Nat.beq ck last, seen.getLast? with
          | true, some n => (match es.filter fun e => e.2.2 == n with
            | e :: _ => some ⟨.tup [toAV e.1, e.2.1], [j, m], [], [], []⟩
            | [] => none)
          | _, _ => none)
        | _ => none)
      | _ => none)
    | _ => none)
  | _ => none
theorem entryM_ok {P : Program} {rd : Nat → Blk} {o : Oper} {t : Nat → AV} {e : CE} (h : entryM rd o t = some e) : CE.Good P o t rd e := by
  unfold entryM at h
  split at h
  case h_2 => cases h
  rename_i it hop
  split at h
  case h_2 => cases h
  rename_i j sz hx
  split at h
  case h_2 => cases h
  rename_i m since seen last hj
  split at h
  case h_2 => cases h
  rename_i es ck hm
  split at h
  case h_2 => cases h
  rename_i n hck hs
  split at h
  case h_2 => cases h
  rename_i en er hf
  cases h
  have hck := Nat.eq_of_beq_eq_true hck
  subst hck
  intro M hM
  refine runs_stepZ fun H E w a hC hT => ?_
  have h1 := rel_ev hT it
  rw [hx] at h1
  obtain ⟨hl, b, hb, hv⟩ := h1
  have hB := hC.blk j
  rw [hM j (by simp), hj] at hB
  obtain ⟨_, hlm, b', bm, g1, g2, g3⟩ := hB
  rw [hb] at g1; cases g1
  have hB2 := hC.blk m
  rw [hM m (by simp), hm] at hB2
  obtain ⟨_, bm', ms, k1, k2, k3, k4⟩ := hB2
  rw [g2] at k1; cases k1
  obtain ⟨f1, f2⟩ := filt_ok (q := fun k => k == n) k3 k4
  rw [hf] at f1 f2
  obtain ⟨u, r, hu, r1, _⟩ := f2
  obtain ⟨x, xs, hxs⟩ : ∃ x xs, (ms.toList.filter fun e => e.born == n) = x :: xs := by
    cases hq : (ms.toList.filter fun e => e.born == n) with
    | nil => rw [hq] at hu; cases hu
    | cons x xs => exact ⟨x, xs, rfl⟩
  rw [hxs] at f1 hu
  simp only [entsM, ents, List.map_cons, List.cons.injEq, Prod.mk.injEq] at f1
  simp only [valsM, List.map_cons, List.cons.injEq] at hu
  obtain ⟨⟨w1, w2⟩, _⟩ := f1
  obtain ⟨rfl, _⟩ := hu
  have hfind : ms.find? (fun e => e.born == n) = some x := by
    rw [← Array.find?_toList, ← List.head?_filter, hxs]
    rfl
  have hback : seen.toArray.back? = some n := by simpa using hs
  refine ⟨.tuple #[x.key, x.val], w, H, E, ?_, ⟨#[x.key, x.val], rfl, _, _, rfl, by rw [w1]; exact rel_toAV _ H E, _, _, rfl, r1, rfl⟩, hC, Evol.refl _ _ _ _⟩
  have hv' : a.eval it = .pointer (some ⟨b, 0, none⟩) := by simpa using hv
  simp [execOp, hop, hv', Instr.entry, run_getObj_iter g3, Go.MapKept.run_getObj_map k2, hback, hfind, Result.andThen]
def glM (P : Program) (o : Oper) : Option CE :=
  match o.op with
  | .load ty (.global g) => (match isAgg P ty, P.underlying ty, (default : Gl0).hs.find? fun p => Nat.beq p.1 g with
    | false, some _, some p => some ⟨.ifc p.2.1 (.agg [.s p.2.2]), [], [], [], []⟩
    | _, _, _ => none)
  | _ => none
theorem glM_ok {P : Program} {rd : Nat → Blk} {o : Oper} {t : Nat → AV} {e : CE} (h : glM P o = some e) : CE.Good P o t rd e := by
  unfold glM at h
  split at h
  case h_2 => cases h
  rename_i ty g hop
  split at h
  case h_2 => cases h
  rename_i d p hagg hu hp
  cases h
  have hmem := List.mem_of_find?_eq_some hp
  have hg := List.find?_some hp
  have hg := Nat.eq_of_beq_eq_true hg
  intro M hM
  refine runs_stepZ fun H E w a hC hT => ?_
  obtain ⟨hs, hx⟩ := hC.tf.2 p hmem
  have hcell := imm_cell (b := true) hC.imm hC.tf.1 hx
  rw [hg] at hcell
  refine ⟨_, w, H, E, ?_, ⟨_, rfl, _, rfl, _, [], rfl, ⟨rfl, hs⟩, rfl⟩, hC, Evol.refl _ _ _ _⟩
  have h1 := run_isAgg' w ⟨d, hu⟩
  rw [hagg] at h1
  simp [execOp, hop, Act.eval, Instr.loadAt, Instr.sureAddr, loadVar, h1, hcell, Result.andThen]
def moreM (P : Program) (rd : Nat → Blk) (nid : Nat) (o : Oper) (t : Nat → AV) : Option CE :=
  match o.op with
  | .lookup .. => lookE P rd o t
  | .mapUpdate .. => updE P rd o t
  | .insert .. => updE P rd o t
  | .makeMap .. => mkM P rd nid o t
  | .typeAssert .. => taM P o t
  | .range .. => rangeM P rd nid o t
  | .next .. => nextM rd o t
  | .load .. => glM P o
  | .entry .. => entryM rd o t
  | .call { callee := .builtin .len, .. } => lenM P rd o t
  | .call { callee := .builtin .delete, .. } => delM P rd o t
  | _ => none
theorem moreM_ok {P : Program} {rd : Nat → Blk} {nid : Nat} {o : Oper} {t : Nat → AV} {e : CE} (hd : ∀ k, nid ≤ k → rd k = .dead) (h : moreM P rd nid o t = some e) : CE.Good P o t rd e := by
  unfold moreM at h
  split at h
  · exact lookE_ok h
  · exact updE_ok h
  · exact updE_ok h
  · exact mkM_ok hd h
  · exact taM_ok h
  · exact rangeM_ok hd h
  · exact nextM_ok h
  · exact glM_ok h
  · exact entryM_ok h
  · exact lenM_ok h
  · exact delM_ok h
  · cases h
end Go.Ax

namespace Go.Ax
open Go
variable [Inhabited Gl0]
def Env.give (E : Env) (i d : Nat) (b : Option Nat) (κ η : Nat) : Env :=
  ⟨fun j => if j = d then true else E.lv j, fun j => if j = d then b else E.ι j, fun j => if j = d then κ else E.κ j, fun j => if j = d then η else E.η j,
    fun j x => j ≠ d ∧ E.σ j x ∧ (j = i → b ≠ some x)⟩
theorem Env.give_same (E : Env) (i d : Nat) (b : Option Nat) (κ η : Nat) : (E.give i d b κ η).lv d = true ∧ (E.give i d b κ η).ι d = b ∧ (E.give i d b κ η).κ d = κ ∧ (E.give i d b κ η).η d = η := by simp [Env.give]
theorem Env.give_ne (E : Env) (i d j : Nat) (b : Option Nat) (κ η : Nat) (h : j ≠ d) : (E.give i d b κ η).lv j = E.lv j ∧ (E.give i d b κ η).ι j = E.ι j ∧ (E.give i d b κ η).κ j = E.κ j ∧ (E.give i d b κ η).η j = E.η j := by simp [Env.give, h]
structure Opn (i : Nat) (S : Nat → Prop) (E E' : Env) : Prop where
  ids : ∀ j, E.lv j = true → E'.lv j = true ∧ E'.ι j = E.ι j ∧ E'.κ j = E.κ j ∧ E'.η j = E.η j
  keep : ∀ j, E.lv j = true → j ≠ i → ∀ x, E'.σ j x ↔ E.σ j x
  sub : ∀ x, E'.σ i x → E.σ i x
  rest : ∀ x, E.σ i x → ¬ S x → E'.σ i x
theorem Opn.refl (i : Nat) (S : Nat → Prop) (E : Env) : Opn i S E E := ⟨fun _ h => ⟨h, rfl, rfl, rfl⟩, fun _ _ _ _ => Iff.rfl, fun _ h => h, fun _ h _ => h⟩
theorem Opn.via {i : Nat} {S : Nat → Prop} {E E' : Env} (h : Opn i S E E') : E.via E' some := fun a c hc hl => by cases hc; exact h.ids a hl
theorem Opn.trans {i : Nat} {S S1 S2 : Nat → Prop} {E E1 E2 : Env} (h : Opn i S1 E E1) (k : Opn i S2 E1 E2) (h1 : ∀ x, S1 x → S x) (h2 : ∀ x, S2 x → S x) : Opn i S E E2 where
  ids := fun j hl => by
    obtain ⟨a1, a2, a3, a4⟩ := h.ids j hl
    obtain ⟨b1, b2, b3, b4⟩ := k.ids j a1
    exact ⟨b1, b2.trans a2, b3.trans a3, b4.trans a4⟩
  keep := fun j hl hj x => (k.keep j (h.ids j hl).1 hj x).trans (h.keep j hl hj x)
  sub := fun x hx => h.sub x (k.sub x hx)
  rest := fun x hx hn => k.rest x (h.rest x hx fun hs => hn (h1 x hs)) fun hs => hn (h2 x hs)
theorem Conc.split {H : HH} {E : Env} {w : World} {M : List Blk} (hC : Conc H E w M) {i d κ η : Nat} {bo : Option Nat} {B : Blk} (hd : getM M d = .dead) (hi : getM M i = .any) (hσ : ∀ b, bo = some b → E.σ i b) (hroot : ∀ x, E.ι i = some x → ¬ E.σ i x)
    (hB : BlkOk H (E.give i d bo κ η) w d B) : Conc H (E.give i d bo κ η) w (putM M d B) ∧ Evol [] H E w H (E.give i d bo κ η) w ∧ Opn i (fun x => bo = some x) E (E.give i d bo κ η) := by
  have hdead : E.lv d = false := by have := hC.blk d; rw [hd] at this; exact this
  have hli : E.lv i = true := by have := hC.blk i; rw [hi] at this; exact this.1
  have hne : ∀ j, E.lv j = true → j ≠ d := by rintro j hj rfl; rw [hdead] at hj; cases hj
  have hid := hne i hli
  have hop : Opn i (fun x => bo = some x) E (E.give i d bo κ η) := by
    refine ⟨fun j hl => ?_, fun j hl hj x => ?_, fun x hx => hx.2.1, fun x hx hn => ⟨hid, hx, fun _ => hn⟩⟩
    · obtain ⟨e1, e2, e3, e4⟩ := E.give_ne i d j bo κ η (hne j hl)
      exact ⟨e1.trans hl, e2, e3, e4⟩
    · exact ⟨fun h => h.2.1, fun h => ⟨hne j hl, h, fun e => absurd e hj⟩⟩
  have hhas : ∀ j x, (E.give i d bo κ η).has j x → (j = d ∧ bo = some x ∧ E.has i x) ∨ (j ≠ d ∧ E.has j x ∧ (j = i → bo ≠ some x)) := by
    rintro j x ⟨h1, h2⟩
    by_cases hj : j = d
    · subst hj
      rcases h2 with h2 | h2
      · have h2 : bo = some x := by simpa [Env.give] using h2
        exact .inl ⟨rfl, h2, hli, .inr (hσ x h2)⟩
      · exact absurd rfl h2.1
    · obtain ⟨e1, e2, _⟩ := E.give_ne i d j bo κ η hj
      rcases h2 with h2 | h2
      · refine .inr ⟨hj, ⟨e1 ▸ h1, .inl (e2 ▸ h2)⟩, ?_⟩
        rintro rfl hb
        exact hroot x (e2 ▸ h2) (hσ x hb)
      · exact .inr ⟨hj, ⟨e1 ▸ h1, .inr h2.2.1⟩, h2.2.2⟩
  refine ⟨⟨hC.imm, hC.tf, fun j => ?_, fun a c x ha hc => ?_, fun a x ha => ?_, fun a x ha hx => ?_⟩, ⟨rfl, rfl, rfl, Nat.le_refl _, fun _ _ _ => rfl, fun a x ha => ?_, HH.le_refl _, fun _ _ _ h => .inl h, fun j hl _ => hop.ids j hl⟩, hop⟩
  · by_cases hj : d = j
    · subst hj; rw [getM_put_same]; exact hB
    · rw [getM_put_ne _ _ _ _ hj]
      have hj' : j ≠ d := fun e => hj e.symm
      obtain ⟨e1, e2, e3, e4⟩ := E.give_ne i d j bo κ η hj'
      by_cases hji : j = i
      · subst hji
        rw [hi]
        have := hC.blk j
        rw [hi] at this
        obtain ⟨g1, b, o, g2, g3⟩ := this
        exact ⟨e1.trans g1, b, o, e2.trans g2, g3⟩
      · have := (hC.blk j).move (f := some) (H' := H) (E' := E.give i d bo κ η) (w' := w) (i' := j) (HH.le_refl _) hop.via e1 e2 e3 e4 (fun x => by simp [Env.give, hj', hji]) fun _ _ => rfl
        rwa [renB_some] at this
  · rcases hhas a x ha with ⟨rfl, a1, a2⟩ | ⟨a0, a1, a2⟩ <;> rcases hhas c x hc with ⟨rfl, b1, b2⟩ | ⟨b0, b1, b2⟩
    · rfl
    · have := hC.injH i c x a2 b1
      exact absurd a1 (b2 this.symm)
    · have := hC.injH a i x a1 b2
      exact absurd b1 (a2 this)
    · exact hC.injH a c x a1 b1
  · rcases hhas a x ha with ⟨rfl, a1, a2⟩ | ⟨a0, a1, a2⟩
    · exact hC.sepH i x a2
    · exact hC.sepH a x a1
  · rcases hhas a x ⟨ha, .inr hx⟩ with ⟨rfl, a1, a2⟩ | ⟨a0, a1, a2⟩
    · exact hC.ltH a2
    · exact hC.ltH a1
  · rcases hhas a x ha with ⟨rfl, a1, a2⟩ | ⟨a0, a1, a2⟩
    · exact .inl ⟨i, a2⟩
    · exact .inl ⟨a, a1⟩
def avOf : Tr → AV
  | .av a => a
  | _ => .junk
theorem avOf_ok {H : HH} {hp : Nat → Option Obj} {t : Tr} {v : Value} {S : Nat → Prop} (h : TrOk H hp t v S) : Rel (avOf t) H E0 v := by
  cases t with
  | av a => exact h
  | _ => trivial
mutual
def openV : Tr → Nat → AV × List Blk
  | .av a, _ => (a, [])
  | .box ty sz cs, d => (.ptr (d + len (openL cs d).2) 0 sz 0, (openL cs d).2 ++ [.box ty (openL cs d).1])
  | .row ty sz n c, d => (.own d sz 0 n, [.row ty sz n none fun k j => avOf (c k j)])
  | .frow ty sz n c, d => (.own d sz 0 n, [.row ty sz n none c])
def openL : List Tr → Nat → List AV × List Blk
  | [], _ => ([], [])
  | t :: ts, d => ((openV t d).1 :: (openL ts (d + len (openV t d).2)).1, (openV t d).2 ++ (openL ts (d + len (openV t d).2)).2)
end
def puts : List Blk → Nat → List Blk → List Blk
  | M, _, [] => M
  | M, d, B :: r => puts (putM M d B) (d + 1) r
theorem getM_puts : ∀ (L M : List Blk) (d j : Nat), getM (puts M d L) j = if d ≤ j ∧ j < d + len L then getM L (j - d) else getM M j
  | [], M, d, j => by
    have h : ¬ (d ≤ j ∧ j < d + len ([] : List Blk)) := by simp [len]
    rw [if_neg h]; rfl
  | B :: r, M, d, j => by
    simp only [puts]
    rw [getM_puts r]
    by_cases h1 : d = j
    · subst h1
      rw [if_neg (by omega), getM_put_same, if_pos ⟨Nat.le_refl _, by simp [len]⟩]
      simp [getM]
    · by_cases h2 : d + 1 ≤ j ∧ j < d + 1 + len r
      · rw [if_pos h2, if_pos (by simp [len]; omega)]
        obtain ⟨m, rfl⟩ : ∃ m, j = d + 1 + m := ⟨j - (d + 1), by omega⟩
        have e1 : d + 1 + m - (d + 1) = m := by omega
        have e2 : d + 1 + m - d = m + 1 := by omega
        rw [e1, e2]; rfl
      · rw [if_neg h2, if_neg (by simp [len]; omega), getM_put_ne _ _ _ _ h1]
theorem puts_append : ∀ (L R M : List Blk) (d : Nat), puts M d (L ++ R) = puts (puts M d L) (d + len L) R
  | [], R, M, d => rfl
  | B :: r, R, M, d => by
    simp only [List.cons_append, puts, puts_append r, len]
    congr 1
    omega
theorem Evol.trans0 {H H1 H2 : HH} {E E1 E2 : Env} {w w1 w2 : World} (h : Evol [] H E w H1 E1 w1) (k : Evol [] H1 E1 w1 H2 E2 w2) : Evol [] H E w H2 E2 w2 := h.trans k fun _ h => h
structure Pool (H : HH) (E : Env) (w : World) (M : List Blk) (i d top : Nat) : Prop where
  conc : Conc H E w M
  any : getM M i = .any
  lt : i < d
  dead : ∀ k, d ≤ k → k < top → getM M k = .dead
  root : ∀ x, E.ι i = some x → ¬ E.σ i x
theorem Pool.next {H : HH} {E E' : Env} {w : World} {M : List Blk} {i d top : Nat} {S : Nat → Prop} {L : List Blk} (h : Pool H E w M i d top) (hC : Conc H E' w (puts M d L)) (ho : Opn i S E E') : Pool H E' w (puts M d L) i (d + len L) top where
  conc := hC
  any := by rw [getM_puts, if_neg (by have := h.lt; omega)]; exact h.any
  lt := by have := h.lt; omega
  dead := fun k hk ht => by rw [getM_puts, if_neg (by omega)]; exact h.dead k (by omega) ht
  root := fun x hx hs => by
    have hl : E.lv i = true := by have := h.conc.blk i; rw [h.any] at this; exact this.1
    have := (ho.ids i hl).2.1
    exact h.root x (this ▸ hx) (ho.sub x hs)
mutual
theorem openV_ok {H : HH} {w : World} {i top : Nat} : ∀ (t : Tr) {E : Env} {M : List Blk} {d : Nat} {S : Nat → Prop} {v : Value}, Pool H E w M i d top → d + len (openV t d).2 ≤ top → (∀ x, S x → E.σ i x) → TrOk H (fun b => w.heap[b]?) t v S →
    ∃ E', Conc H E' w (puts M d (openV t d).2) ∧ Evol [] H E w H E' w ∧ Opn i S E E' ∧ Rel (openV t d).1 H E' v
  | .av a, E, M, d, S, v, hp, _, _, h => ⟨E, hp.conc, Evol.refl _ _ _ _, Opn.refl _ _ _, Rel.env (fun a c hc hl => by simp [E0] at hl) h⟩
  | .box ty sz cs, E, M, d, S, v, hp, htop, hS, h => by
    obtain ⟨b, vs, rfl, h2, h3, h4, h5⟩ := h
    have hlen : ∀ A B : List Blk, len (A ++ B) = len A + len B := fun A B => by simp [len_eq]
    simp only [openV, hlen, len] at htop
    obtain ⟨E1, g1, g2, g3, g4⟩ := openL_ok cs hp (by omega) (fun x hx => hS x hx.1) h5
    have hq := hp.next g1 g3
    generalize hd' : d + len (openL cs d).2 = d' at *
    have hdd : getM (puts M d (openL cs d).2) d' = .dead := by rw [getM_puts, if_neg (by omega)]; exact hp.dead d' (by omega) (by omega)
    have hb1 : E1.σ i b := g3.rest b (hS b h2) fun hx => hx.2 rfl
    obtain ⟨s1, s2, s3, s4⟩ := E1.give_same i d' (some b) 0 0
    have hlt := hp.lt
    have hdead1 : E1.lv d' = false := by have := g1.blk d'; rw [hdd] at this; exact this
    have hvia : E1.via (E1.give i d' (some b) 0 0) some := fun a c hc hl => by
      cases hc
      have : a ≠ d' := by rintro rfl; rw [hdead1] at hl; cases hl
      obtain ⟨e1, e2, e3, e4⟩ := E1.give_ne i d' a (some b) 0 0 this
      exact ⟨e1.trans hl, e2, e3, e4⟩
    obtain ⟨c1, c2, c3⟩ := g1.split (κ := 0) (η := 0) (bo := some b) (B := .box ty (openL cs d).1) hdd hq.any (fun x hx => by cases hx; exact hb1) hq.root
      ⟨s1, b, vs, s2, h3, h4, RelL.env hvia g4⟩
    refine ⟨_, ?_, g2.trans0 c2, g3.trans c3 (fun x hx => hx.1) (fun x hx => by cases hx; exact h2), ?_⟩
    · simp only [openV, puts_append, puts, hd']
      exact c1
    · simp only [openV, hd']
      exact ⟨s1, b, s2, by simp⟩
  | .row ty sz n c, E, M, d, S, v, hp, htop, hS, h => by
    simp only [openV, len] at htop
    obtain ⟨κ, h1, h2, ⟨rfl, rfl, rfl⟩ | ⟨b, vs, rfl, h4, h5, h6, h7, F, h8, h9, h10⟩⟩ := h
    · obtain ⟨s1, s2, s3, s4⟩ := E.give_same i d none 0 0
      obtain ⟨c1, c2, c3⟩ := hp.conc.split (κ := 0) (η := 0) (bo := none) (B := .row ty sz 0 none fun k j => avOf (c k j)) (hp.dead d (Nat.le_refl _) (by omega)) hp.any (fun x hx => by cases hx) hp.root
        ⟨s1, by rw [s3, s4]; exact ⟨rfl, Nat.le_refl _⟩, by rw [s3]; exact Nat.zero_le _, (fun q hq => by cases hq), by rw [s2]; exact s3⟩
      exact ⟨_, c1, c2, (Opn.refl i S E).trans c3 (fun _ h => h) (fun x hx => by cases hx), ⟨s1, by rw [s3, s4]; exact ⟨Nat.le_refl _, Nat.le_refl _⟩, by rw [s2]; exact ⟨rfl, rfl, rfl⟩⟩⟩
    · obtain ⟨s1, s2, s3, s4⟩ := E.give_same i d (some b) κ n
      obtain ⟨c1, c2, c3⟩ := hp.conc.split (κ := κ) (η := n) (bo := some b) (B := .row ty sz n none fun k j => avOf (c k j)) (hp.dead d (Nat.le_refl _) (by omega)) hp.any (fun x hx => by cases hx; exact hS b h4) hp.root
        ⟨s1, by rw [s3, s4]; exact ⟨rfl, h1⟩, by rw [s3]; exact h2, (fun q hq => by cases hq), by
          rw [s2, s3]
          refine ⟨vs, h5, h6, h7, fun k hk j hj => ?_⟩
          obtain ⟨x, g1, g2⟩ := h10 k hk j hj
          refine ⟨x, g1, ?_⟩
          exact avOf_ok g2⟩
      refine ⟨_, c1, c2, (Opn.refl i S E).trans c3 (fun _ h => h) (fun x hx => by cases hx; exact h4), ⟨s1, by rw [s3, s4]; exact ⟨by omega, h1⟩, ?_⟩⟩
      rw [s2, s3]
      exact ⟨_, rfl, fun _ => by simp, by simp⟩
  | .frow ty sz n c, E, M, d, S, v, hp, htop, hS, h => by
    simp only [openV, len] at htop
    obtain ⟨κ, h1, h2, ⟨rfl, rfl, rfl⟩ | ⟨b, vs, rfl, h4, h5, h6, h7, h10⟩⟩ := h
    · obtain ⟨s1, s2, s3, s4⟩ := E.give_same i d none 0 0
      obtain ⟨c1, c2, c3⟩ := hp.conc.split (κ := 0) (η := 0) (bo := none) (B := .row ty sz 0 none c) (hp.dead d (Nat.le_refl _) (by omega)) hp.any (fun x hx => by cases hx) hp.root
        ⟨s1, by rw [s3, s4]; exact ⟨rfl, Nat.le_refl _⟩, by rw [s3]; exact Nat.zero_le _, (fun q hq => by cases hq), by rw [s2]; exact s3⟩
      exact ⟨_, c1, c2, (Opn.refl i S E).trans c3 (fun _ h => h) (fun x hx => by cases hx), ⟨s1, by rw [s3, s4]; exact ⟨Nat.le_refl _, Nat.le_refl _⟩, by rw [s2]; exact ⟨rfl, rfl, rfl⟩⟩⟩
    · obtain ⟨s1, s2, s3, s4⟩ := E.give_same i d (some b) κ n
      obtain ⟨c1, c2, c3⟩ := hp.conc.split (κ := κ) (η := n) (bo := some b) (B := .row ty sz n none c) (hp.dead d (Nat.le_refl _) (by omega)) hp.any (fun x hx => by cases hx; exact hS b h4) hp.root
        ⟨s1, by rw [s3, s4]; exact ⟨rfl, h1⟩, by rw [s3]; exact h2, (fun q hq => by cases hq), by
          rw [s2, s3]
          refine ⟨vs, h5, h6, h7, fun k hk j hj => ?_⟩
          obtain ⟨x, g1, g2⟩ := h10 k hk j hj
          exact ⟨x, g1, g2⟩⟩
      refine ⟨_, c1, c2, (Opn.refl i S E).trans c3 (fun _ h => h) (fun x hx => by cases hx; exact h4), ⟨s1, by rw [s3, s4]; exact ⟨by omega, h1⟩, ?_⟩⟩
      rw [s2, s3]
      exact ⟨_, rfl, fun _ => by simp, by simp⟩
theorem openL_ok {H : HH} {w : World} {i top : Nat} : ∀ (l : List Tr) {E : Env} {M : List Blk} {d : Nat} {S : Nat → Prop} {vs : List Value}, Pool H E w M i d top → d + len (openL l d).2 ≤ top → (∀ x, S x → E.σ i x) → TrOkL H (fun b => w.heap[b]?) l vs S →
    ∃ E', Conc H E' w (puts M d (openL l d).2) ∧ Evol [] H E w H E' w ∧ Opn i S E E' ∧ RelL (openL l d).1 H E' vs
  | [], E, M, d, S, vs, hp, _, _, h => ⟨E, hp.conc, Evol.refl _ _ _ _, Opn.refl _ _ _, h⟩
  | t :: ts, E, M, d, S, vs, hp, htop, hS, h => by
    obtain ⟨v, r, S1, S2, rfl, h2, h3, h4, h5, h6⟩ := h
    have hlen : ∀ A B : List Blk, len (A ++ B) = len A + len B := fun A B => by simp [len_eq]
    simp only [openL, hlen] at htop
    obtain ⟨E1, g1, g2, g3, g4⟩ := openV_ok t hp (by omega) (fun x hx => hS x (h2 x hx)) h5
    obtain ⟨E2, k1, k2, k3, k4⟩ := openL_ok ts (hp.next g1 g3) (by omega) (fun x hx => g3.rest x (hS x (h3 x hx)) fun hx1 => h4 x hx1 hx) h6
    refine ⟨E2, ?_, g2.trans0 k2, g3.trans k3 h2 h3, v, r, rfl, Rel.env k3.via g4, k4⟩
    simp only [openL, puts_append]
    exact k1
end
end Go.Ax
