import Derived.Laws.MakeOwn
import Derived.Laws.BytesString
import Derived.Laws.AppendOwn
import Derived.Laws.CopyRow
import Derived.Test.YtjmdejbijigfjaaDoorE6
set_option linter.unusedVariables false
set_option linter.unusedSimpArgs false
/-! More operations: bytes of strings, integers, what is made. -/
namespace Go.Ax
open Go

theorem runs_stepZ {P : Program} {o : Oper} {t : Nat → AV} {M : List Blk} {e : CE}
    (h : ∀ H E w a, Conc H E w M → RelT t H E a → ∃ v w' H' E', (execOp a.eval o).run P w = .ok (.value v) w' ∧ Rel e.r H' E' v ∧ Conc H' E' w' (applyW e.wr (killM e.kl M)) ∧ Evol e.kl H E w H' E' w') : StepT P o t M e := by
  intro H E w a K Q hC hT hd hk
  obtain ⟨v, w', H', E', hv, h1, h2, h3⟩ := h H E w a hC hT
  unfold Oper.wp
  rw [hv]
  exact hk v w' H' E' h1 h2 h3

/-- a scalar, known or not -/
def scV : AV → Option Value
  | .s v => some v
  | .y v => some v
  | _ => none
theorem scV_ok {x : AV} {v : Value} (h : scV x = some v) {H : HH} {E : Env} {u : Value} (hr : Rel x H E u) : u = v := by
  cases x <;> simp only [scV] at h <;> first | (cases h; exact hr.1) | cases h
def isS : AV → Bool
  | .s _ => true
  | _ => false
/-- the answer is known if it is reckoned out of what is known; what must be so is then looked at -/
def ansV (known : Bool) (b : Bool) (v : Value) (rd : List Nat) : Option CE := match known with
  | true => (match b with | true => some ⟨.s v, rd, [], [], []⟩ | false => none)
  | false => some ⟨.y v, rd, [], [], [b = true]⟩
theorem ansV_ok {P : Program} {o : Oper} {t : Nat → AV} {rdf : Nat → Blk} {known b : Bool} {v : Value} {rd : List Nat} {e : CE} (h : ansV known b v rd = some e) (hs : scalar v = true) (ho : Hold e.ob)
    (hr : b = true → ∀ M, (∀ i ∈ rd, getM M i = rdf i) → ∀ H E w a, Conc H E w M → RelT t H E a → (execOp a.eval o).run P w = .ok (.value v) w) : CE.Good P o t rdf e := by
  intro M hM
  cases known with
  | true =>
    cases b with
    | false => cases h
    | true =>
      cases h
      exact runs_stepZ fun H E w a hC hT => ⟨v, w, H, E, hr rfl M hM H E w a hC hT, ⟨rfl, hs⟩, hC, Evol.refl _ _ _ _⟩
  | false =>
    cases h
    exact runs_stepZ fun H E w a hC hT => ⟨v, w, H, E, hr (ho (b = true) (by simp)) M hM H E w a hC hT, ⟨rfl, hs⟩, hC, Evol.refl _ _ _ _⟩

/-! integers -/
def ibV (op : BinOp) (k : IntKind) (a b : Int) : Option (Bool × Int) := match op with
  | .quo => some (decide (b ≠ 0), k.wrap (a.tdiv b))
  | .rem => some (decide (b ≠ 0), a.tmod b)
  | .and => some (true, k.wrap (BitVec.ofInt k.bits a &&& BitVec.ofInt k.bits b).toNat)
  | .or => some (true, k.wrap (BitVec.ofInt k.bits a ||| BitVec.ofInt k.bits b).toNat)
  | .xor => some (true, k.wrap (BitVec.ofInt k.bits a ^^^ BitVec.ofInt k.bits b).toNat)
  | _ => none
def shV (op : BinOp) (k : IntKind) (a b : Int) : Option (Bool × Int) := match op with
  | .shl => some (decide (0 ≤ b), k.wrap (a * 2 ^ (min b.toNat k.bits)))
  | .shr => some (decide (0 ≤ b), a.fdiv (2 ^ (min b.toNat k.bits)))
  | _ => none
def binZ (o : Oper) (t : Nat → AV) : Option CE :=
  match o.op with
  | .binOp op _ x y _ => (match scV (ev t x), scV (ev t y) with
    | some (.int k a), some (.int k' b) => (match shV op k a b with
      | some (c, v) => ansV (isS (ev t x) && isS (ev t y)) c (.int k v) []
      | none => if k = k' then (match ibV op k a b with | some (c, v) => ansV (isS (ev t x) && isS (ev t y)) c (.int k v) [] | none => none) else none)
    | some (.string a), some (.string b) => (match op with
      | .add => ansV (isS (ev t x) && isS (ev t y)) (decide (a.size + b.size ≤ 9223372036854775807)) (.string (a ++ b)) []
      | _ => none)
    | _, _ => none)
  | _ => none
theorem binZ_ok {P : Program} {o : Oper} {t : Nat → AV} {rd : Nat → Blk} {e : CE} (h : binZ o t = some e) (ho : Hold e.ob) : CE.Good P o t rd e := by
  unfold binZ at h
  split at h
  case h_2 => cases h
  rename_i op ty x y f hop
  split at h
  · rename_i k a k' b hx hy
    split at h
    · rename_i c v hv
      refine ansV_ok h rfl ho fun hc M _ H E w ac hC hT => ?_
      have h1 := scV_ok hx (rel_ev hT x)
      have h2 := scV_ok hy (rel_ev hT y)
      unfold shV at hv
      split at hv
      · obtain ⟨rfl, rfl⟩ := Prod.mk.inj (Option.some.inj hv)
        have hb : 0 ≤ b := of_decide_eq_true hc
        simp [execOp, hop, h1, h2, eqGuard, binOp, Op.shift, Int.not_lt.2 hb]
      · obtain ⟨rfl, rfl⟩ := Prod.mk.inj (Option.some.inj hv)
        have hb : 0 ≤ b := of_decide_eq_true hc
        simp [execOp, hop, h1, h2, eqGuard, binOp, Op.shift, Int.not_lt.2 hb]
      · cases hv
    · split at h
      case isFalse => cases h
      rename_i hk
      subst hk
      split at h
      case h_2 => cases h
      rename_i c v hv
      refine ansV_ok h rfl ho fun hc M _ H E w ac hC hT => ?_
      have h1 := scV_ok hx (rel_ev hT x)
      have h2 := scV_ok hy (rel_ev hT y)
      unfold ibV at hv
      split at hv
      · obtain ⟨rfl, rfl⟩ := Prod.mk.inj (Option.some.inj hv)
        have hb : b ≠ 0 := of_decide_eq_true hc
        simp [execOp, hop, h1, h2, eqGuard, binOp, Op.intDiv, hb]
      · obtain ⟨rfl, rfl⟩ := Prod.mk.inj (Option.some.inj hv)
        have hb : b ≠ 0 := of_decide_eq_true hc
        simp [execOp, hop, h1, h2, eqGuard, binOp, Op.intDiv, hb]
      · cases hv
        simp [execOp, hop, h1, h2, eqGuard, binOp, Op.intBits]
      · cases hv
        simp [execOp, hop, h1, h2, eqGuard, binOp, Op.intBits]
      · cases hv
        simp [execOp, hop, h1, h2, eqGuard, binOp, Op.intBits]
      · cases hv
  · rename_i a b hx hy
    split at h
    case h_2 => cases h
    refine ansV_ok h rfl ho fun hc M _ H E w ac hC hT => ?_
    have h1 := scV_ok hx (rel_ev hT x)
    have h2 := scV_ok hy (rel_ev hT y)
    have hb := of_decide_eq_true hc
    have hm : IntKind.i64.max = 9223372036854775807 := by decide
    have hn : ¬ (9223372036854775807 < ((a.size : Int) + (b.size : Int))) := by omega
    simp [execOp, hop, h1, h2, eqGuard, binOp, Op.stringOp, hm, hn]
  · cases h

/-! the bytes of a string -/
def byteAt (s : ByteArray) (q : Int) : Int := ((s.data.toList.getD q.toNat 0).toNat : Nat)
def idxZ (P : Program) (o : Oper) (t : Nat → AV) : Option CE :=
  match o.op with
  | .index ty x i => (match P.underlying ty, scV (ev t x), scV (ev t i) with
    | some .string, some (.string s), some (.int _ q) => ansV (isS (ev t x) && isS (ev t i)) (decide (0 ≤ q) && decide (q < (s.size : Nat))) (.int .u8 (byteAt s q)) []
    | _, _, _ => none)
  | _ => none
theorem idxZ_ok {P : Program} {o : Oper} {t : Nat → AV} {rd : Nat → Blk} {e : CE} (h : idxZ P o t = some e) (ho : Hold e.ob) : CE.Good P o t rd e := by
  unfold idxZ at h
  split at h
  case h_2 => cases h
  rename_i ty x i hop
  split at h
  case h_2 => cases h
  rename_i s k q hu hx hi
  refine ansV_ok h rfl ho fun hc M _ H E w ac hC hT => ?_
  have h1 := scV_ok hx (rel_ev hT x)
  have h2 := scV_ok hi (rel_ev hT i)
  simp only [Bool.and_eq_true, decide_eq_true_eq] at hc
  have hlt : q.toNat < s.size := by omega
  have hb : s[q.toNat]? = some (s[q.toNat]'hlt) := getElem?_pos s q.toNat hlt
  have hv : byteAt s q = (s[q.toNat]'hlt).toNat := by
    unfold byteAt
    rw [List.getD, Array.getElem?_toList, Array.getElem?_eq_getElem (by simpa using hlt)]
    rfl
  simp [execOp, hop, h1, h2, Instr.index, run_underlying hu, asIntOf, hc.1, hb, hv]

/-! bytes as a string -/
def u8Of : AV → Option Int
  | .s (.int .u8 n) => some n
  | .y (.int .u8 n) => some n
  | _ => none
def isU8 (a : AV) : Bool := match u8Of a with | some _ => true | none => false
def byteOf (a : AV) : UInt8 := match u8Of a with | some n => UInt8.ofNat n.toNat | none => 0
def strL (l : List AV) : ByteArray := ⟨(l.map byteOf).toArray⟩
def allU8 : List AV → Bool
  | [] => true
  | a :: l => isU8 a && allU8 l
def allS : List AV → Bool
  | [] => true
  | a :: l => isS a && allS l
/-- the first n of a row of bytes -/
def bytesN (n : Nat) (d : Nat → Nat → AV) : List AV := (List.range n).map fun k => d k 0
/-- the string of n bytes -/
def strN (n : Nat) (d : Nat → Nat → AV) : ByteArray := strL (bytesN n d)
def tabZ (d : Nat → Nat → AV) : Nat → Nat → List AV
  | _, 0 => []
  | k, n + 1 => d k 0 :: tabZ d (k + 1) n
def strE (known : Bool) (l : List AV) (rd : List Nat) : Option CE := match allU8 l with
  | true => (match known && allS l with | true => some ⟨.s (.string (strL l)), rd, [], [], []⟩ | false => some ⟨.y (.string (strL l)), rd, [], [], []⟩)
  | false => none
def closedB (rd : Nat → Blk) : AV → Bool
  | .sl .. => true
  | .own i _ _ _ => (match rd i with | .lst .. => true | _ => false)
  | .s _ => true
  | _ => false
def toStr (P : Program) (rd : Nat → Blk) (o : Oper) (t : Nat → AV) : Option CE :=
  match o.op with
  | .convert src dst x => (match P.underlying src, P.underlying dst with
    | some (.slice el), some .string => (match P.underlying el, srcOf rd 1 (sv (ev t x)) with
      | some (.int .u8), some (n, some l, _) => (match Nat.beq (len l) n with | true => strE true l (refOf (sv (ev t x))) | false => none)
      | some (.int .u8), some (n, none, d) => (match closedB rd (ev t x) with
        | true => strE true (tabZ d 0 n) (refOf (sv (ev t x)))
        | false => some ⟨.y (.string (strN n d)), refOf (sv (ev t x)), [], [], [∀ k, k < n → isU8 (d k 0) = true]⟩)
      | _, _ => none)
    | _, _ => none)
  | _ => none
theorem u8Of_ok {a : AV} {n : Int} (h : u8Of a = some n) {H : HH} {E : Env} {v : Value} (hr : Rel a H E v) : v = .int .u8 n := by
  unfold u8Of at h
  split at h
  · cases h; exact hr.1
  · cases h; exact hr.1
  · cases h
theorem bytes_run {P : Program} {w : World} {A : Option Addr} {m c : Nat} {news : List Value} {L : List AV} {H : HH} {E : Env} (hl : news.length = m) (hA : A = none → m = 0) (hcell : ∀ ad, A = some ad → ∀ j u, news[j]? = some u → w.cell? (ad.add j) = some u)
    (hr : RelL L H E news) (hu : allU8 L = true) : (Conv.bytesToString (.slice A m c)).run P w = .ok (.string (strL L)) w := by
  have key : ∀ (L : List AV) (news : List Value), RelL L H E news → allU8 L = true → ∃ ns : List Int, news = ns.map (Value.int .u8) ∧ ns.map (fun n => UInt8.ofNat n.toNat) = L.map byteOf := by
    intro L
    induction L with
    | nil => intro news h _; have h : news = [] := h; subst h; exact ⟨[], rfl, rfl⟩
    | cons a L ih =>
      intro news h hu
      obtain ⟨v, r, rfl, h1, h2⟩ := h
      simp only [allU8, Bool.and_eq_true] at hu
      obtain ⟨ns, rfl, hns⟩ := ih r h2 hu.2
      obtain ⟨n, hn⟩ : ∃ n, u8Of a = some n := by
        have := hu.1
        unfold isU8 at this
        cases hq : u8Of a with
        | some n => exact ⟨n, rfl⟩
        | none => rw [hq] at this; cases this
      exact ⟨n :: ns, by rw [u8Of_ok hn h1]; rfl, by simp [hns, byteOf, hn]⟩
  obtain ⟨ns, rfl, hns⟩ := key L news hr hu
  have fold : ∀ (ns : List Int) (s : ByteArray), ns.foldl (fun r n => r.push (UInt8.ofNat n.toNat)) s = ⟨s.data ++ (ns.map fun n => UInt8.ofNat n.toNat).toArray⟩ := by
    intro ns
    induction ns with
    | nil => intro s; simp
    | cons n ns ih =>
      intro s
      rw [List.foldl_cons, ih]
      simp [ByteArray.push]
  cases A with
  | none =>
    have hm := hA rfl
    subst hm
    have : ns = [] := by simpa using hl
    subst this
    simp only [List.map_nil] at hns
    simp only [strL, ← hns]
    simp [Conv.bytesToString, Sem.run_pure]
    rfl
  | some ad =>
    have hload : (loadCells ad m).run P w = .ok (ns.map (Value.int .u8)).toArray w := by
      have := run_loadCells_list (P := P) w ad (ns.map (Value.int .u8)) fun j u hj => hcell ad rfl j u hj
      rw [hl] at this
      exact this
    rw [run_bytesToString w ad m c ns hload, fold]
    simp only [strL, hns]
    simp
theorem tabZ_get (d : Nat → Nat → AV) : ∀ (n q k : Nat), k < n → get (tabZ d q n) k = d (q + k) 0
  | 0, _, _, h => absurd h (Nat.not_lt_zero _)
  | n + 1, q, 0, _ => rfl
  | n + 1, q, k + 1, h => by
    show get (tabZ d (q + 1) n) k = _
    rw [tabZ_get d n (q + 1) k (by omega)]
    congr 1; omega
theorem tabZ_eq (d : Nat → Nat → AV) : ∀ (n q : Nat), tabZ d q n = (List.range' q n).map fun k => d k 0
  | 0, _ => rfl
  | n + 1, q => by rw [tabZ, tabZ_eq d n (q + 1), List.range'_succ]; rfl
theorem bytesN_eq (n : Nat) (d : Nat → Nat → AV) : bytesN n d = tabZ d 0 n := by rw [bytesN, tabZ_eq, List.range_eq_range']
theorem relL_tabZ {H : HH} {E : Env} {d : Nat → Nat → AV} : ∀ (n q : Nat) (news : List Value), news.length = n → (∀ k, k < n → ∃ u, news[k]? = some u ∧ Rel (d (q + k) 0) H E u) → RelL (tabZ d q n) H E news
  | 0, _, news, hl, _ => by have : news = [] := by simpa using hl
                            exact this
  | n + 1, q, news, hl, h => by
    obtain ⟨v, r, rfl⟩ : ∃ v r, news = v :: r := by
      cases news with
      | nil => simp at hl
      | cons v r => exact ⟨v, r, rfl⟩
    refine ⟨v, r, rfl, ?_, relL_tabZ n (q + 1) r (by simpa using hl) fun k hk => ?_⟩
    · obtain ⟨u, hu, hr⟩ := h 0 (by omega)
      simp at hu
      subst hu
      exact hr
    · obtain ⟨u, hu, hr⟩ := h (k + 1) (by omega)
      refine ⟨u, by simpa using hu, ?_⟩
      rw [show q + 1 + k = q + (k + 1) by omega]; exact hr
theorem allU8_tabZ (d : Nat → Nat → AV) : ∀ (n q : Nat), (∀ k, k < n → isU8 (d (q + k) 0) = true) → allU8 (tabZ d q n) = true
  | 0, _, _ => rfl
  | n + 1, q, h => by
    simp only [tabZ, allU8, Bool.and_eq_true]
    exact ⟨h 0 (by omega), allU8_tabZ d n (q + 1) fun k hk => by rw [show q + 1 + k = q + (k + 1) by omega]; exact h (k + 1) (by omega)⟩
theorem toStr_ok {P : Program} {o : Oper} {t : Nat → AV} {rd : Nat → Blk} {e : CE} (h : toStr P rd o t = some e) (ho : Hold e.ob) : CE.Good P o t rd e := by
  unfold toStr at h
  split at h
  case h_2 => cases h
  rename_i src dst x hop
  split at h
  case h_2 => cases h
  rename_i el hsrc hdst
  have go : ∀ (L : List AV) (v : AV) (rds : List Nat), P.underlying el = some (.int .u8) → allU8 L = true → (v = .s (.string (strL L)) ∨ v = .y (.string (strL L))) →
      (∀ M, (∀ i ∈ rds, getM M i = rd i) → ∀ H E w a, Conc H E w M → RelT t H E a → ∃ A m c, ∃ news : List Value, a.eval x = .slice A m c ∧ news.length = m ∧ (A = none → m = 0) ∧ (∀ ad, A = some ad → ∀ j u, news[j]? = some u → w.cell? (ad.add j) = some u) ∧ ∃ E', RelL L H E' news) →
      ∀ ob, CE.Good P o t rd ⟨v, rds, [], [], ob⟩ := by
    intro L v rds hel hu hv hsrc2 ob M hM
    refine runs_stepZ fun H E w a hC hT => ?_
    obtain ⟨A, m, c, news, hx, hl, hA, hcell, E', hr⟩ := hsrc2 M hM H E w a hC hT
    have hrun := bytes_run (P := P) (c := c) hl hA hcell hr hu
    refine ⟨.string (strL L), w, H, E, ?_, ?_, hC, Evol.refl _ _ _ _⟩
    · simp [execOp, hop, hx, run_convert_bytes_string w src dst el A m c hsrc hel hdst, hrun]
    · rcases hv with rfl | rfl <;> exact ⟨rfl, rfl⟩
  have hcong : ∀ M, (∀ i ∈ refOf (sv (ev t x)), getM M i = rd i) → srcOf (getM M) 1 (sv (ev t x)) = srcOf rd 1 (sv (ev t x)) := fun M hM => srcOf_congr hM
  split at h
  · rename_i n l d hel hs
    split at h
    case h_2 => cases h
    rename_i hn
    unfold strE at h
    split at h
    case h_2 => cases h
    rename_i hu
    have hsrc2 : ∀ M, (∀ i ∈ refOf (sv (ev t x)), getM M i = rd i) → ∀ H E w a, Conc H E w M → RelT t H E a → ∃ A m c, ∃ news : List Value, a.eval x = .slice A m c ∧ news.length = m ∧ (A = none → m = 0) ∧ (∀ ad, A = some ad → ∀ j u, news[j]? = some u → w.cell? (ad.add j) = some u) ∧ ∃ E', RelL l H E' news := by
      intro M hM H E w a hC hT
      obtain ⟨A, c, news, h1, h2, h3, h4, h5, h6, h7⟩ := srcOf_ok hC (rel_sv (rel_ev hT x)) (Nat.zero_lt_one) ((hcong M hM).trans hs)
      exact ⟨A, n, c, news, h1, by simpa using h2, h3, h4, E, h6 l rfl⟩
    split at h
    · cases h; exact go l _ _ hel hu (.inl rfl) hsrc2 _
    · cases h; exact go l _ _ hel hu (.inr rfl) hsrc2 _
  · rename_i n d hel hs
    have hsrc2 : ∀ M, (∀ i ∈ refOf (sv (ev t x)), getM M i = rd i) → ∀ H E w a, Conc H E w M → RelT t H E a → ∃ A m c, ∃ news : List Value, a.eval x = .slice A m c ∧ news.length = m ∧ (A = none → m = 0) ∧ (∀ ad, A = some ad → ∀ j u, news[j]? = some u → w.cell? (ad.add j) = some u) ∧ ∃ E', RelL (tabZ d 0 n) H E' news := by
      intro M hM H E w a hC hT
      obtain ⟨A, c, news, h1, h2, h3, h4, h5, h6, h7⟩ := srcOf_ok hC (rel_sv (rel_ev hT x)) (Nat.zero_lt_one) ((hcong M hM).trans hs)
      refine ⟨A, n, c, news, h1, by simpa using h2, h3, h4, E0, relL_tabZ n 0 news (by simpa using h2) fun k hk => ?_⟩
      obtain ⟨u, hu, hr⟩ := h7 rfl k hk 0 (by omega)
      refine ⟨u, by simpa using hu, ?_⟩
      rw [Nat.zero_add]; exact hr
    split at h
    · unfold strE at h
      split at h
      case h_2 => cases h
      rename_i hu
      split at h
      · cases h; exact go _ _ _ hel hu (.inl rfl) hsrc2 _
      · cases h; exact go _ _ _ hel hu (.inr rfl) hsrc2 _
    · cases h
      have hob := ho _ (List.mem_singleton.2 rfl)
      refine go (tabZ d 0 n) _ _ hel (allU8_tabZ d n 0 fun k hk => by rw [Nat.zero_add]; exact hob k hk) (.inr ?_) hsrc2 _
      rw [strN, bytesN_eq]
  · cases h

/-! what is made -/
def mkZ (P : Program) (nid : Nat) (o : Oper) (t : Nat → AV) : Option CE :=
  match o.op with
  | .makeSlice ty l c => (match P.underlying ty, scV (ev t l), scV (ev t c) with
    | some (.slice el), some (.int _ a), some (.int _ b) => (match P.info? el, zeroL P el with
      | some i, some z => (match Nat.ble 1 i.size && Nat.beq (len z) i.size && noRefL z with
        | true => (match isS (ev t l) && isS (ev t c) with
          | true => (match decide (0 ≤ a) && decide (a ≤ b) && decide ((i.bytes : Int) * b ≤ 281474976710656) && decide (b ≤ 9223372036854775807) with
            | true => some ⟨.own nid i.size 0 a.toNat, [nid], [(nid, .lst el i.size a.toNat (some b.toNat) (rep z a.toNat))], [], []⟩
            | false => none)
          | false => some ⟨.own nid i.size 0 a.toNat, [nid], [(nid, .row el i.size a.toNat (some b.toNat) fun _ j => get z j)], [], [0 ≤ a, a ≤ b, (i.bytes : Int) * b ≤ 281474976710656, b ≤ 9223372036854775807]⟩)
        | false => none)
      | _, _ => none)
    | _, _, _ => none)
  | _ => none
theorem made_take {zc : Array Value} {m n sz : Nat} (h : m ≤ n) : (madeCells zc (n * sz)).toList.take (m * sz) = (madeCells zc (m * sz)).toList := by
  have hle : m * sz ≤ n * sz := Nat.mul_le_mul_right _ h
  apply List.ext_getElem?
  intro j
  rw [List.getElem?_take]
  by_cases hj : j < m * sz
  · rw [if_pos hj]
    simp [madeCells, hj, Nat.lt_of_lt_of_le hj hle]
  · rw [if_neg hj]
    simp [madeCells, Nat.le_of_not_lt hj]
theorem mkZ_ok {P : Program} {rd : Nat → Blk} {nid : Nat} {o : Oper} {t : Nat → AV} {e : CE} (hd : ∀ k, nid ≤ k → rd k = .dead) (h : mkZ P nid o t = some e) (ho : Hold e.ob) : CE.Good P o t rd e := by
  unfold mkZ at h
  split at h
  case h_2 => cases h
  rename_i ty l c hop
  split at h
  case h_2 => cases h
  rename_i el k1 a k2 b hu hl hc
  split at h
  case h_2 => cases h
  rename_i i z hi hz
  split at h
  case h_2 => cases h
  rename_i hb
  simp only [Bool.and_eq_true, Nat.ble_eq, Nat.beq_eq, len_eq] at hb
  obtain ⟨⟨hs1, hzl⟩, hnz⟩ := hb
  have go : ∀ (B : Blk), 0 ≤ a → a ≤ b → (i.bytes : Int) * b ≤ 281474976710656 → b ≤ 9223372036854775807 →
      (B = .lst el i.size a.toNat (some b.toNat) (rep z a.toNat) ∨ B = .row el i.size a.toNat (some b.toNat) fun _ j => get z j) → ∀ ob, CE.Good P o t rd ⟨.own nid i.size 0 a.toNat, [nid], [(nid, B)], [], ob⟩ := by
    intro B h0 h1 h2 h3 hB ob M hM
    refine runs_stepZ fun H E w ac hC hT => ?_
    have hdn : getM M nid = .dead := (hM nid (by simp)).trans (hd nid (Nat.le_refl _))
    have e1 := scV_ok hl (rel_ev hT l)
    have e2 := scV_ok hc (rel_ev hT c)
    obtain ⟨i', zv, hi', hz', hrz, hoz⟩ := zeroL_ok H E hz
    rw [hi] at hi'
    cases hi'
    have hzs : zv.cells.size = i.size := by have := RelL.length hrz; simp at this; omega
    have hrun := run_make (P := P) w ty el i zv hu hi hz' k1 k2 a b h0 h1 h2 h3
    have hle : a.toNat ≤ b.toNat := by omega
    have hmul : a.toNat * i.size ≤ b.toNat * i.size := Nat.mul_le_mul_right _ hle
    obtain ⟨s1, s2, s3, s4⟩ := E.set_same nid (some w.heap.size) b.toNat a.toNat
    have hones : ones (madeCells zv.cells (b.toNat * i.size)).toList := ones_rep hoz (by omega) _
    have hBok : BlkOk H (E.set nid (some w.heap.size) b.toNat a.toNat) (w.alloc (.cells (madeCells zv.cells (b.toNat * i.size)) el)) nid B := by
      rcases hB with rfl | rfl
      · refine ⟨s1, by rw [s3, s4]; exact ⟨rfl, hle⟩, by rw [s3]; unfold maxLen; omega, fun q hq => by cases hq; exact s3, ?_⟩
        rw [s2]
        refine ⟨_, heap_alloc_new w _, fun x hx => hones x (List.mem_of_mem_take hx), by rw [s3]; exact size_madeCells _ _, ?_⟩
        rw [made_take hle]
        exact RelL.env (set_via hC hdn) (rep_ok hrz hzs hs1 a.toNat)
      · refine ⟨s1, by rw [s3, s4]; exact ⟨rfl, hle⟩, by rw [s3]; unfold maxLen; omega, fun q hq => by cases hq; exact s3, ?_⟩
        rw [s2]
        refine ⟨_, heap_alloc_new w _, fun x hx => hones x (List.mem_of_mem_take hx), by rw [s3]; exact size_madeCells _ _, fun k hk j hj => ?_⟩
        have hlt : k * i.size + j < b.toNat * i.size := by
          have : (k + 1) * i.size ≤ b.toNat * i.size := Nat.mul_le_mul_right _ (by omega)
          rw [Nat.add_mul] at this; omega
        have hjz : j < zv.cells.size := by omega
        have hmod : (k * i.size + j) % zv.cells.size = j := by
          rw [hzs, Nat.mul_comm, Nat.mul_add_mod]; exact Nat.mod_eq_of_lt hj
        refine ⟨zv.cells[j], ?_, ?_⟩
        · simp only [madeCells, Array.getElem?_map, Array.getElem?_range, hlt, if_pos, Option.map_some]
          rw [hmod]
          simp [hjz]
        · have hz2 : RelL z H E0 zv.cells.toList := RelL.noRef _ hnz hrz
          exact relL_get hz2 j _ (by simp [hjz])
    have hconc := alloc_conc (κ := b.toNat) (η := a.toNat) (B := B) hC hdn (madeCells zv.cells (b.toNat * i.size)) el hBok
    refine ⟨.slice (some ⟨w.heap.size, 0, none⟩) a.toNat b.toNat, _, H, _, by simp [execOp, hop, e1, e2, hrun], ⟨s1, by rw [s3, s4]; omega, ?_⟩, hconc.1, hconc.2⟩
    rw [s2]
    exact ⟨some ⟨w.heap.size, 0, none⟩, by rw [s3]; simp, by simp⟩
  split at h
  · split at h
    case h_2 => cases h
    rename_i hcond
    cases h
    simp only [Bool.and_eq_true, decide_eq_true_eq] at hcond
    exact go _ hcond.1.1.1 hcond.1.1.2 hcond.1.2 hcond.2 (.inl rfl) _
  · cases h
    exact go _ (ho _ (by simp)) (ho _ (by simp)) (ho _ (by simp)) (ho _ (by simp)) (.inr rfl) _

/-! how much room a row has -/
def capZ (P : Program) (rd : Nat → Blk) (o : Oper) (t : Nat → AV) : Option CE :=
  match o.op with
  | .call { callee := .builtin .cap, args, argTypes } => (match args.toList, argTypes.toList with
    | [x], [ty] => (match P.underlying ty, ev t x with
      | some (.slice _), .own i _ lo _ => (match rd i with
        | .lst _ _ _ (some q) _ => some ⟨.s (.int .i64 ((q - lo : Nat) : Int)), [i], [], [], []⟩
        | .row _ _ _ (some q) _ => some ⟨.y (.int .i64 ((q - lo : Nat) : Int)), [i], [], [], []⟩
        | _ => none)
      | some (.slice _), .s (.slice none 0 0) => some ⟨.s (.int .i64 0), [], [], [], []⟩
      | _, _ => none)
    | _, _ => none)
  | _ => none
theorem capZ_ok {P : Program} {rd : Nat → Blk} {o : Oper} {t : Nat → AV} {e : CE} (h : capZ P rd o t = some e) : CE.Good P o t rd e := by
  unfold capZ at h
  split at h
  case h_2 => cases h
  rename_i args ats hop
  split at h
  case h_2 => cases h
  rename_i x ty hx hty
  have h1 : args = #[x] := Array.ext' hx
  have h2 : ats = #[ty] := Array.ext' hty
  subst h1; subst h2
  have run : ∀ (a : Act) (w : World) (A : Option Addr) (n c : Nat) (el : TypeId), P.underlying ty = some (.slice el) → a.eval x = .slice A n c → (execOp a.eval o).run P w = .ok (.value (.int .i64 (c : Int))) w := by
    intro a w A n c el hu hv
    simp [execOp, hop, resolve, invoke, builtin, hv, Builtin.cap_, run_underlying hu, goInt]
  split at h
  · rename_i el i sz lo n hu he
    have go : ∀ (q : Nat) (r : AV), (r = .s (.int .i64 ((q - lo : Nat) : Int)) ∨ r = .y (.int .i64 ((q - lo : Nat) : Int))) → (∀ H E w, BlkOk H E w i (rd i) → E.κ i = q) → CE.Good P o t rd ⟨r, [i], [], [], []⟩ := by
      intro q r hr hq M hM
      refine runs_stepZ fun H E w a hC hT => ?_
      have hv := rel_ev hT x
      rw [he] at hv
      obtain ⟨hl, hη, hm⟩ := hv
      have hκ := hq H E w (by have := hC.blk i; rwa [hM i (by simp)] at this)
      have hv2 : ∃ A, a.eval x = .slice A n (q - lo) := by
        rw [hκ] at hm hη
        split at hm
        · obtain ⟨A, h, _⟩ := hm; exact ⟨A, h⟩
        · rename_i hι
          obtain ⟨h0, h1, h⟩ := hm
          have hb := hC.blk i
          rw [hM i (by simp)] at hb
          refine ⟨none, ?_⟩
          rw [h, h1]
          have hq0 : q = 0 := by
            cases hB : rd i with
            | dead => rw [hB] at hb; simp [BlkOk, hl] at hb
            | box ty' cs => rw [hB] at hb; obtain ⟨_, b, vs, hb1, _⟩ := hb; rw [hι] at hb1; cases hb1
            | lst ty' s2 n' cap cs => rw [hB] at hb; obtain ⟨_, _, _, _, hb1⟩ := hb; rw [hι] at hb1; rw [← hκ]; exact hb1.1
            | row ty' s2 n' cap cs => rw [hB] at hb; obtain ⟨_, _, _, _, hb1⟩ := hb; rw [hι] at hb1; rw [← hκ]; exact hb1
          rw [hq0]; simp
      obtain ⟨A, hv2⟩ := hv2
      refine ⟨_, w, H, E, run a w A n (q - lo) el hu hv2, ?_, hC, Evol.refl _ _ _ _⟩
      rcases hr with rfl | rfl <;> exact ⟨rfl, rfl⟩
    split at h
    · rename_i q cs hg
      cases h
      exact go q _ (.inl rfl) fun H E w hb => by rw [hg] at hb; exact hb.2.2.2.1 q rfl
    · rename_i q cs hg
      cases h
      exact go q _ (.inr rfl) fun H E w hb => by rw [hg] at hb; exact hb.2.2.2.1 q rfl
    · cases h
  · rename_i el hu he
    cases h
    intro M hM
    refine runs_stepZ fun H E w a hC hT => ?_
    have hv := rel_ev hT x
    rw [he] at hv
    exact ⟨_, w, H, E, run a w none 0 0 el hu hv.1, ⟨rfl, rfl⟩, hC, Evol.refl _ _ _ _⟩
  · cases h

/-! nils in a new struct as rows of one's own -/
def leafTy (P : Program) : Nat → TypeId → Nat → Option TypeId
  | 0, _, _ => none
  | n + 1, ty, k => (match P.underlying ty with
    | some (.struct fs) => (fs.toList.foldl (fun r f => match r with
      | some x => some x
      | none => (match sizeT P f.type with
        | some s => (match Nat.ble f.offset k && Nat.ble (k + 1) (f.offset + s) with | true => leafTy P n f.type (k - f.offset) | false => none)
        | none => none)) none)
    | some (.slice el) => (match k with | 0 => some el | _ + 1 => none)
    | _ => none)
def aggGo (P : Program) (ty : TypeId) (mask : Nat) : List AV → Nat → Nat → Option (List AV × List (Nat × Blk))
  | [], _, _ => some ([], [])
  | a :: r, k, nid => (match mask.testBit k with
    | false => (match aggGo P ty mask r (k + 1) nid with | some (l, wr) => some (a :: l, wr) | none => none)
    | true => (match a, leafTy P 8 ty k with
      | .s (.slice none 0 0), some el => (match P.info? el, aggGo P ty mask r (k + 1) (nid + 1) with
        | some i, some (l, wr) => some (.own nid i.size 0 0 :: l, (nid, .row el i.size 0 none (fun _ _ => .junk)) :: wr)
        | _, _ => none)
      | _, _ => none))
def news (nid : Nat) : Nat → List Nat
  | 0 => []
  | n + 1 => nid :: news (nid + 1) n
def aggZ (P : Program) (rd : Nat → Blk) (nid : Nat) (o : Oper) (t : Nat → AV) (mask : Nat) : Option CE :=
  match o.op with
  | .build ty _ => (match yop P rd nid o t with
    | some e => (match e.r, e.wr, e.kl with
      | .agg cs, [], [] => (match aggGo P ty mask cs 0 nid with
        | some (l, wr) => some ⟨.agg l, e.rd ++ news nid (len wr), wr, [], e.ob⟩
        | none => none)
      | _, _, _ => none)
    | none => none)
  | _ => none
theorem mem_news : ∀ {n nid j : Nat}, nid ≤ j → j < nid + n → j ∈ news nid n
  | 0, _, _, h1, h2 => by omega
  | n + 1, nid, j, h1, h2 => by
    rw [news]
    rcases Nat.eq_or_lt_of_le h1 with e | e
    · subst e; exact List.mem_cons_self
    · exact List.mem_cons_of_mem _ (mem_news (n := n) e (by omega))
theorem aggGo_dead {P : Program} {ty : TypeId} {mask : Nat} : ∀ {cells : List AV} {k nid : Nat} {l : List AV} {wr : List (Nat × Blk)} {H : HH} {E : Env} {w : World} {M : List Blk} {vs : List Value}, aggGo P ty mask cells k nid = some (l, wr) → Conc H E w M → RelL cells H E vs → (∀ j, nid ≤ j → j < nid + wr.length → getM M j = .dead) →
    ∃ E', RelL l H E' vs ∧ Conc H E' w (applyW wr M) ∧ Evol [] H E w H E' w
  | [], _, _, l, wr, H, E, w, M, vs, h, hC, hr, _ => by
    simp only [aggGo] at h
    cases h
    exact ⟨E, hr, hC, Evol.refl _ _ _ _⟩
  | a :: r, k, nid, l, wr, H, E, w, M, vs, h, hC, hr, hd => by
    obtain ⟨v, q, rfl, h1, h2⟩ := hr
    simp only [aggGo] at h
    split at h
    · split at h
      case h_2 => cases h
      rename_i l' wr' hg
      cases h
      obtain ⟨E', g1, g2, g3⟩ := aggGo_dead hg hC h2 hd
      refine ⟨E', ⟨v, q, rfl, ?_, g1⟩, g2, g3⟩
      have := g3.rel h1
      rwa [kill] at this
    · split at h
      case h_2 => cases h
      rename_i el hel
      split at h
      case h_2 => cases h
      rename_i i l' wr' hi hg
      cases h
      have hdn := hd nid (Nat.le_refl _) (by simp)
      obtain ⟨e1, e2, e3, e4⟩ := E.set_same nid none 0 0
      have hvia := set_via (bo := none) (κ := 0) (η := 0) hC hdn
      obtain ⟨hc, hev⟩ := hC.new (w' := w) (i := nid) (κ := 0) (η := 0) (bo := none) (B := .row el i.size 0 none (fun _ _ => .junk)) hdn rfl rfl rfl (Nat.le_refl _) (fun _ _ => rfl) (fun b hb => by cases hb)
        ⟨e1, by rw [e3, e4]; exact ⟨rfl, Nat.le_refl _⟩, by rw [e3]; exact Nat.zero_le _, (fun q hq => by cases hq), by rw [e2]; exact e3⟩
      obtain ⟨E', g1, g2, g3⟩ := aggGo_dead hg hc (RelL.env hvia h2) fun j hj hl => by
        rw [getM_put_ne _ _ _ _ (by omega)]
        exact hd j (by omega) (by simp; omega)
      refine ⟨E', ⟨v, q, rfl, ?_, g1⟩, g2, hev.trans g3 fun _ h => h⟩
      have hv : v = .slice none 0 0 := h1.1
      have : Rel (.own nid i.size 0 0) H (E.set nid none 0 0) v := by
        rw [hv]
        exact ⟨e1, by rw [e3, e4]; exact ⟨Nat.le_refl _, Nat.le_refl _⟩, by rw [e2]; exact ⟨rfl, rfl, rfl⟩⟩
      have := g3.rel this
      rwa [kill] at this
theorem aggZ_ok {P : Program} {rd : Nat → Blk} {nid : Nat} {o : Oper} {t : Nat → AV} {mask : Nat} {e : CE} (hd : ∀ k, nid ≤ k → rd k = .dead) (h : aggZ P rd nid o t mask = some e) (ho : Hold e.ob) : CE.Good P o t rd e := by
  intro M hM H E w a K Q hC hT hdf hkk
  unfold aggZ at h
  split at h
  case h_2 => cases h
  rename_i ty parts hop
  split at h
  case h_2 => cases h
  rename_i g hg
  split at h
  case h_2 => cases h
  rename_i cs hr hw hk
  split at h
  case h_2 => cases h
  rename_i l wr hag
  cases h
  have hs := yop_ok hg ho hd (M := M) (fun i hi => hM i (List.mem_append_left _ hi))
  refine hs H E w a K Q hC hT hdf fun v w' H' E' hr' hc hev => ?_
  rw [hw, hk] at hc
  rw [hk] at hev
  rw [hr] at hr'
  have hc : Conc H' E' w' M := hc
  obtain ⟨vs, rfl, hrl⟩ := hr'
  obtain ⟨E2, q1, q2, q3⟩ := aggGo_dead hag hc hrl fun j h1 h2 => (hM j (List.mem_append_right _ (mem_news h1 (by rw [len_eq wr]; exact h2)))).trans (hd j h1)
  exact hkk (.agg vs) w' H' E2 ⟨vs, rfl, q1⟩ q2 (hev.trans q3 fun _ h => h)
/-- the operations of this text -/
def moreE (P : Program) (rd : Nat → Blk) (nid : Nat) (o : Oper) (t : Nat → AV) : Option CE :=
  match o.op with
  | .binOp .. => binZ o t
  | .index .. => idxZ P o t
  | .convert .. => toStr P rd o t
  | .makeSlice .. => mkZ P nid o t
  | .call _ => capZ P rd o t
  | _ => none
theorem moreE_ok {P : Program} {rd : Nat → Blk} {nid : Nat} {o : Oper} {t : Nat → AV} {e : CE} (hd : ∀ k, nid ≤ k → rd k = .dead) (h : moreE P rd nid o t = some e) (ho : Hold e.ob) : CE.Good P o t rd e := by
  unfold moreE at h
  split at h
  · exact binZ_ok h ho
  · exact idxZ_ok h ho
  · exact toStr_ok h ho
  · exact mkZ_ok hd h ho
  · exact capZ_ok h
  · cases h
end Go.Ax

/-! A row of zeros appended to nothing; what is cut of nothing. -/
namespace Go.Ax
open Go
theorem run_append_zeros {P : Program} (w : World) (t tx ty e : TypeId) (i : TypeInfo) (z : Value) (k kx : IntKind) (ht : P.underlying t = some (.slice e)) (hx : P.underlying tx = some (.int kx)) (hi : P.info? e = some i) (hz : i.zero = some z) (hs : 1 ≤ i.size)
    (n : Nat) (h0 : 0 < n) (h63 : (n : Int) ≤ 9223372036854775807) (h48 : n * i.bytes ≤ 281474976710656) :
    (Builtin.append_ #[t, tx] ty #[.slice none 0 0, .int k n]).run P w =
      .ok (.slice (some ⟨w.heap.size, 0, none⟩) n (grownCap w n 0 e)) (w.drew.alloc (.cells (Builtin.zeroCells z.cells n ++ Builtin.zeroCells z.cells (grownCap w n 0 e - n)) e)) := by
  have hn : n ≠ 0 := by omega
  have hn2 : ¬ (n * i.size = 0) := by
    have : 1 * 1 ≤ n * i.size := Nat.mul_le_mul h0 hs
    omega
  have h63' : ¬ (9223372036854775807 < (n : Int)) := by omega
  have h48' : ¬ (281474976710656 < Builtin.nextslicecap n 0 * i.bytes) := by rw [nextslicecap_zero h0]; omega
  have hw : IntKind.i64.wrap (n : Int) = n := by rw [IntKind.wrap_i64]; omega
  have hneg : ¬ ((n : Int) < 0) := by omega
  have hbig : ¬ (281474976710656 < (n : Int) * (i.bytes : Int)) := by
    have : ((n * i.bytes : Nat) : Int) ≤ 281474976710656 := by omega
    rw [Int.natCast_mul] at this; omega
  have hs1 : ¬ (i.size = 0) := by omega
  simp [Builtin.append_, run_underlying ht, run_underlying hx, sizeOf, typeInfo, zeroValue, hi, hz, asInt, asIntOf, hw, hneg, hbig, hn, hs1, h63', h48', Question.forced, run_firstCells_none, newRow, grownCap]
  exact fun e => absurd e hn2
def zerosE (P : Program) (nid : Nat) (o : Oper) (t : Nat → AV) : Option CE :=
  match o.op with
  | .call { callee := .builtin .append, args, argTypes } => (match args.toList, argTypes.toList with
    | [s, x], [ty, tx] => (match ev t s, scV (ev t x), P.underlying ty, P.underlying tx with
      | .s (.slice none 0 0), some (.int _ n), some (.slice el), some (.int _) => (match P.info? el, zeroL P el with
        | some i, some z => (match Nat.ble 1 i.size && Nat.beq (len z) i.size && noRefL z with
          | true => some ⟨.own nid i.size 0 n.toNat, [nid], [(nid, .row el i.size n.toNat none fun _ j => get z j)], [], [0 < n, n ≤ 9223372036854775807, n * (i.bytes : Int) ≤ 281474976710656]⟩
          | false => none)
        | _, _ => none)
      | _, _, _, _ => none)
    | _, _ => none)
  | .slice ty x lo hi mx => (match P.underlying ty, ev t x, lo, mx, hi.map fun q => scV (ev t q) with
    | some (.slice el), .s (.slice none 0 0), none, none, some (some (.int _ 0)) => (match sizeT P el with | some _ => some ⟨.s (.slice none 0 0), [], [], [], []⟩ | none => none)
    | _, _, _, _, _ => none)
  | _ => none
theorem zeros_cell (zc : Array Value) (n m k j : Nat) (h : 0 < zc.size) (hk : k < n) (hj : j < zc.size) : (Builtin.zeroCells zc n ++ Builtin.zeroCells zc m)[k * zc.size + j]? = zc[j]? := by
  have hlt : k * zc.size + j < n * zc.size := by
    have : (k + 1) * zc.size ≤ n * zc.size := Nat.mul_le_mul_right _ hk
    rw [Nat.add_mul] at this; omega
  have hmod : (k * zc.size + j) % zc.size = j := by rw [Nat.mul_comm, Nat.mul_add_mod]; exact Nat.mod_eq_of_lt hj
  rw [Array.getElem?_append_left (by simpa [Builtin.zeroCells] using hlt)]
  simp [Builtin.zeroCells, hlt, hmod, hj]
theorem zerosE_ok {P : Program} {rd : Nat → Blk} {nid : Nat} {o : Oper} {t : Nat → AV} {e : CE} (hd : ∀ k, nid ≤ k → rd k = .dead) (h : zerosE P nid o t = some e) (ho : Hold e.ob) : CE.Good P o t rd e := by
  unfold zerosE at h
  split at h
  · rename_i args ats hop
    split at h
    case h_2 => cases h
    rename_i s x ty tx hargs hats
    have h1 : args = #[s, x] := Array.ext' hargs
    have h2 : ats = #[ty, tx] := Array.ext' hats
    subst h1; subst h2
    split at h
    case h_2 => cases h
    rename_i k n el kx hs hx hu hux
    split at h
    case h_2 => cases h
    rename_i i z hi hz
    split at h
    case h_2 => cases h
    rename_i hb
    cases h
    simp only [Bool.and_eq_true, Nat.ble_eq, Nat.beq_eq, len_eq] at hb
    obtain ⟨⟨hs1, hzl⟩, hnz⟩ := hb
    have o1 := ho (0 < n) (by simp)
    have o2 := ho (n ≤ 9223372036854775807) (by simp)
    have o3 := ho (n * (i.bytes : Int) ≤ 281474976710656) (by simp)
    intro M hM
    refine runs_stepZ fun H E w ac hC hT => ?_
    have hdn : getM M nid = .dead := (hM nid (by simp)).trans (hd nid (Nat.le_refl _))
    have e1 := rel_ev hT s
    rw [hs] at e1
    have e1 := e1.1
    have e2 := scV_ok hx (rel_ev hT x)
    obtain ⟨N, rfl⟩ := Int.eq_ofNat_of_zero_le (Int.le_of_lt o1)
    have hN0 : 0 < N := by omega
    obtain ⟨i', zv, hi', hz', hrz, hoz⟩ := zeroL_ok H E hz
    rw [hi] at hi'
    cases hi'
    have hzs : zv.cells.size = i.size := by have := RelL.length hrz; simp at this; omega
    have hb48 : N * i.bytes ≤ 281474976710656 := by
      rw [← Int.natCast_mul] at o3; omega
    have hrun := run_append_zeros (P := P) w ty tx o.type el i zv k kx hu hux hi hz' hs1 N hN0 o2 hb48
    have hge := grownCap_ge w N 0 el
    have hle := grownCap_le_maxLen w N 0 el (by unfold maxLen; omega)
    obtain ⟨s1, s2, s3, s4⟩ := E.set_same nid (some w.heap.size) (grownCap w N 0 el) N
    let vs := Builtin.zeroCells zv.cells N ++ Builtin.zeroCells zv.cells (grownCap w N 0 el - N)
    have hvs : vs.size = grownCap w N 0 el * i.size := by
      show (Builtin.zeroCells zv.cells N ++ Builtin.zeroCells zv.cells (grownCap w N 0 el - N)).size = _
      simp only [Array.size_append, Builtin.zeroCells, Array.size_map, Array.size_range, hzs, ← Nat.add_mul]
      congr 1; omega
    have hones : ones vs.toList := by
      intro y hy
      simp only [vs, Array.toList_append, List.mem_append] at hy
      rcases hy with hy | hy
      · exact ones_rep hoz (by omega) _ y (by simpa [Builtin.zeroCells] using hy)
      · exact ones_rep hoz (by omega) _ y (by simpa [Builtin.zeroCells] using hy)
    have hBok : BlkOk H (E.set nid (some w.heap.size) (grownCap w N 0 el) N) (w.drew.alloc (.cells vs el)) nid (.row el i.size N none fun _ j => get z j) := by
      refine ⟨s1, by rw [s3, s4]; exact ⟨rfl, hge⟩, by rw [s3]; exact hle, (fun q hq => by cases hq), ?_⟩
      rw [s2]
      refine ⟨vs, by have := heap_alloc_new w.drew (.cells vs el); simpa using this, fun y hy => hones y (List.mem_of_mem_take hy), by rw [s3]; exact hvs, fun k hk j hj => ?_⟩
      refine ⟨zv.cells[j]'(by omega), ?_, ?_⟩
      · have := zeros_cell zv.cells N (grownCap w N 0 el - N) k j (by omega) hk (by omega)
        rw [hzs] at this
        rw [show vs = Builtin.zeroCells zv.cells N ++ Builtin.zeroCells zv.cells (grownCap w N 0 el - N) from rfl, this]
        exact Array.getElem?_eq_getElem (by omega)
      · have hz2 : RelL z H E0 zv.cells.toList := RelL.noRef _ hnz hrz
        exact relL_get hz2 j _ (by simp; done)
    obtain ⟨hconc, hev⟩ := hC.new (w' := w.drew.alloc (.cells vs el)) (i := nid) (κ := grownCap w N 0 el) (η := N) (bo := some w.heap.size) (B := .row el i.size N none fun _ j => get z j) hdn rfl rfl rfl (by simp) (fun b hb => Go.RowKit.Below.heap_alloc w.drew (.cells vs el) b hb) (fun b hb => by cases hb; exact Nat.le_refl _) hBok
    refine ⟨.slice (some ⟨w.heap.size, 0, none⟩) N (grownCap w N 0 el), _, H, _, by simp only [execOp, hop]; simp [resolve, invoke, builtin, e1, e2, hrun]; rfl, ⟨s1, by rw [s3, s4]; simp; omega, ?_⟩, hconc, hev⟩
    rw [s2]
    exact ⟨some ⟨w.heap.size, 0, none⟩, by rw [s3]; simp, by simp⟩
  · rename_i ty x lo hi mx hop
    split at h
    case h_2 => cases h
    rename_i el k hu hx hhi
    split at h
    case h_2 => cases h
    rename_i sz hsz
    cases h
    intro M hM
    refine runs_stepZ fun H E w ac hC hT => ?_
    have e1 := rel_ev hT x
    rw [hx] at e1
    have e1 := e1.1
    cases hi with
    | none => cases hhi
    | some q =>
      have hq : scV (ev t q) = some (.int k 0) := by simpa using hhi
      have e2 := scV_ok hq (rel_ev hT q)
      refine ⟨.slice none 0 0, w, H, E, ?_, ⟨rfl, rfl⟩, hC, Evol.refl _ _ _ _⟩
      simp [execOp, hop, e1, e2, Instr.sliceAt, Instr.slice, Instr.sliceBounds, Instr.sliceBound, run_underlying hu, asIntOf, run_sizeOf' w hsz]
  · cases h
end Go.Ax

/-! Operations on rows of any length: is it nil, clear, what is cut off. -/
namespace Go.Ax
open Go

theorem runs_step {P : Program} {o : Oper} {t : Nat → AV} {M : List Blk} {e : CE}
    (h : ∀ H E w a, Conc H E w M → RelT t H E a → ∃ v w' H' E', (execOp a.eval o).run P w = .ok (.value v) w' ∧ Rel e.r H' E' v ∧ Conc H' E' w' (applyW e.wr (killM e.kl M)) ∧ Evol e.kl H E w H' E' w') : StepT P o t M e := by
  intro H E w a K Q hC hT hd hk
  obtain ⟨v, w', H', E', hv, h1, h2, h3⟩ := h H E w a hC hT
  unfold Oper.wp
  rw [hv]
  exact hk v w' H' E' h1 h2 h3

/-! nil -/
def isNilOp : AV → Bool
  | .s (.slice none 0 0) => true
  | _ => false
def isYn : AV → Bool
  | .yn .. => true
  | _ => false
def boolE (b : Bool) : CE := ⟨.s (.bool b), [], [], [], []⟩
def nilQ (P : Program) (o : Oper) (t : Nat → AV) : Option CE :=
  match o.op with
  | .binOp .eql ty x y _ => (match P.underlying ty, isYn (ev t x) && isNilOp (ev t y) with
    | some (.slice _), true => some (boolE false)
    | _, _ => none)
  | .binOp .neq ty x y _ => (match P.underlying ty, isYn (ev t x) && isNilOp (ev t y) with
    | some (.slice _), true => some (boolE true)
    | _, _ => none)
  | _ => none
theorem isYn_ok {x : AV} (h : isYn x = true) {H : HH} {E : Env} {v : Value} (hr : Rel x H E v) : ∃ a m c, v = .slice (some a) m c := by
  unfold isYn at h
  split at h
  · obtain ⟨a, cap, rfl, _⟩ := hr; exact ⟨a, _, cap, rfl⟩
  · cases h
theorem isNilOp_ok {x : AV} (h : isNilOp x = true) {H : HH} {E : Env} {v : Value} (hr : Rel x H E v) : v = .slice none 0 0 := by
  unfold isNilOp at h
  split at h
  · exact hr.1
  · cases h
theorem nil_run {P : Program} {ty el : TypeId} {w : World} {a : Addr} {m c d : Nat} (hu : P.underlying ty = some (.slice el)) : (Op.equalIn (d + 1) ty (.slice (some a) m c) (.slice none 0 0)).run P w = .ok false w := by
  simp [Op.equalIn, run_underlying hu]
theorem nil_guard {P : Program} {op : BinOp} {t : TypeId} {x y : Operand} {w : World} {a : Addr} {m c : Nat} (hop : op = .eql ∨ op = .neq) : (eqGuard op t x y (.slice (some a) m c) (.slice none 0 0)).run P w = .ok () w := by
  rcases hop with rfl | rfl <;> simp [eqGuard]
theorem nilQ_ok {P : Program} {o : Oper} {t : Nat → AV} {rd : Nat → Blk} {e : CE} (h : nilQ P o t = some e) : CE.Good P o t rd e := by
  intro M _
  have key : ∀ (q : Bool), (∀ (a : Act) (w : World) (ad : Addr) (m c : Nat) (x y : Operand) (ty f : TypeId), (o.op = .binOp .eql ty x y f ∧ q = false) ∨ (o.op = .binOp .neq ty x y f ∧ q = true) → ∀ el, P.underlying ty = some (.slice el) → a.eval x = .slice (some ad) m c → a.eval y = .slice none 0 0 → (execOp a.eval o).run P w = .ok (.value (.bool q)) w) := by
    intro q a w ad m c x y ty f hop el hu hx hy
    have hr := run_eq_of (P := P) (t := ty) (u := .slice (some ad) m c) (v := .slice none 0 0) (w := w) (q := false) (by simp) (by simp) (by simp) (by simp) (nil_run (d := 9999) hu)
    rcases hop with ⟨hop, rfl⟩ | ⟨hop, rfl⟩
    · simp [execOp, hop, hx, hy, nil_guard (P := P) (op := .eql) (.inl rfl), hr.1]
    · simp [execOp, hop, hx, hy, nil_guard (P := P) (op := .neq) (.inr rfl), hr.2]
  unfold nilQ at h
  split at h
  case h_3 => cases h
  all_goals
    rename_i ty x y f hop
    split at h
    case h_2 => cases h
    rename_i el hu hb
    cases h
    simp only [Bool.and_eq_true] at hb
    refine runs_step fun H E w a hC hT => ?_
    obtain ⟨ad, m, c, hx⟩ := isYn_ok hb.1 (rel_ev hT x)
    have hy := isNilOp_ok hb.2 (rel_ev hT y)
    refine ⟨.bool _, w, H, E, key _ a w ad m c x y ty f ?_ el hu hx hy, ⟨rfl, rfl⟩, hC, Evol.refl _ _ _ _⟩
  · exact .inl ⟨hop, rfl⟩
  · exact .inr ⟨hop, rfl⟩

/-- a slice of which is not known whether it is nil: by both cases -/
theorem nil_cases {P : Program} {f : FuncId} {pre post : List AV} {b : Bool} {sz n : Nat} {c : Nat → Nat → AV} {M : List Blk} {t : T An} (h1 : n = 0 → t.Sat (ACall' P f (pre ++ .s (.slice none 0 0) :: post) M)) (h2 : t.Sat (ACall' P f (pre ++ .yn b sz n c :: post) M))
    (hd : ∃ a, t = .ret a) : t.Sat (ACall' P f (pre ++ .ys b sz n c :: post) M) := by
  obtain ⟨a, rfl⟩ := hd
  refine T.Sat.ret ?_
  have key : ∀ {l : List AV}, (T.ret a : T An).Sat (ACall' P f l M) → ACall' P f l M a := fun h => by
    obtain ⟨a', ha, e⟩ := h (fun x => x = a) rfl
    rw [← e]; exact ha
  intro H E w vals hC hargs
  have hsplit : ∀ (p : List AV) {vs : List Value} {x : AV}, RelL (p ++ x :: post) H E vs → ∃ v1 v v2, vs = v1 ++ v :: v2 ∧ RelL p H E v1 ∧ Rel x H E v ∧ RelL post H E v2 := by
    intro p
    induction p with
    | nil => intro vs x h; obtain ⟨v, r, rfl, h1, h2⟩ := h; exact ⟨[], v, r, rfl, rfl, h1, h2⟩
    | cons q p ih =>
      intro vs x h
      obtain ⟨v, r, rfl, h1, h2⟩ := h
      obtain ⟨v1, v', v2, rfl, g1, g2, g3⟩ := ih h2
      exact ⟨v :: v1, v', v2, rfl, ⟨v, v1, rfl, h1, g1⟩, g2, g3⟩
  have hjoin : ∀ (p : List AV) {v1 v2 : List Value} {x : AV} {v : Value}, RelL p H E v1 → Rel x H E v → RelL post H E v2 → RelL (p ++ x :: post) H E (v1 ++ v :: v2) := by
    intro p
    induction p with
    | nil => intro v1 v2 x v h1 h2 h3; have h1 : v1 = [] := h1; subst h1; exact ⟨v, v2, rfl, h2, h3⟩
    | cons q p ih =>
      intro v1 v2 x v h1 h2 h3
      obtain ⟨u, r, rfl, g1, g2⟩ := h1
      exact ⟨u, r ++ v :: v2, rfl, g1, ih g2 h2 h3⟩
  obtain ⟨v1, v, v2, hv, g1, g2, g3⟩ := hsplit pre hargs
  obtain ⟨ad, cap, rfl, hn, hk⟩ := g2
  cases ad with
  | some ad =>
    refine key h2 H E w vals hC ?_
    rw [hv]
    refine hjoin pre g1 ⟨ad, cap, rfl, hn.1, fun k hkn j hj => ?_⟩ g3
    obtain ⟨ad', had, hk⟩ := hk (by omega)
    cases had
    exact hk k hkn j hj
  | none =>
    have hn0 : n = 0 := by
      rcases Nat.eq_zero_or_pos n with h0 | h0
      · exact h0
      · obtain ⟨_, h, _⟩ := hk h0; cases h
    have hc0 := hn.2 rfl
    subst hn0; subst hc0
    refine key (h1 rfl) H E w vals hC ?_
    rw [hv]
    exact hjoin pre g1 ⟨rfl, rfl⟩ g3

/-! what is cut off -/
def shrinkE (rd : Nat → Blk) : AV → Option CE
  | .own a sz 0 j => (match rd a with
    | .row ty s2 _ cap c => (match s2 == sz with
      | true => some ⟨.own a sz 0 j, [a], [(a, .row ty sz j cap c)], [a], []⟩
      | false => none)
    | _ => none)
  | _ => none
theorem shrinkE_ok {P : Program} {o : Oper} {t : Nat → AV} {rd : Nat → Blk} {x : Operand} {e : CE} (hop : o.op = .move x ∨ o.op = .assign x) (h : shrinkE rd (ev t x) = some e) : CE.Good P o t rd e := by
  intro M hM
  refine runs_step fun H E w a hC hT => ?_
  have hx := rel_ev hT x
  unfold shrinkE at h
  split at h
  case h_2 => cases h
  rename_i i sz j he
  rw [he] at hx
  split at h
  case h_2 => cases h
  rename_i ty s2 n cap c hg
  split at h
  case h_2 => cases h
  rename_i hs
  have hs : s2 = sz := by simpa using hs
  subst hs
  cases h
  obtain ⟨hl, hη, hm⟩ := hx
  have hB := hC.blk i
  rw [hM i (by simp), hg] at hB
  obtain ⟨_, hn, hκ, hcap, hb⟩ := hB
  obtain ⟨e1, e2, e3, e4⟩ := E.set_same i (E.ι i) (E.κ i) j
  have hB' : BlkOk H (E.set i (E.ι i) (E.κ i) j) w i (renB (keepOf [i]) (.row ty s2 j cap c)) := by
    refine ⟨e1, by rw [e3, e4]; omega, by rw [e3]; exact hκ, by rw [e3]; exact hcap, ?_⟩
    rw [e2, e3]
    cases hι : E.ι i with
    | none => rw [hι] at hb; exact hb
    | some b =>
      rw [hι] at hb
      obtain ⟨vs, g1, g2, g3, g4⟩ := hb
      refine ⟨vs, g1, fun x hx => g2 x ?_, g3, fun k hk => g4 k (by omega)⟩
      have : j * s2 ≤ n * s2 := Nat.mul_le_mul_right _ (by omega)
      exact List.take_subset_take_left _ this hx
  obtain ⟨hc, hev⟩ := hC.move (bo' := E.ι i) (κ' := E.κ i) (η' := j) hl (w' := w) ⟨rfl, rfl, rfl, Nat.le_refl _, fun _ _ _ => rfl⟩ (fun g hg => .inl hg) hB'
  refine ⟨a.eval x, w, H, _, ?_, ⟨e1, by rw [e3, e4]; omega, by rw [e2, e3]; exact hm⟩, hc.eqv fun k => ?_, hev⟩
  · rcases hop with hop | hop <;> simp [execOp, hop]
  · exact killW_eqv [i] [(i, .row ty s2 j cap c)] M k

/-! clear -/
def clrRow (lo n : Nat) (c : Nat → Nat → AV) (k j : Nat) : AV := if lo ≤ k ∧ k < lo + n then .junk else c k j
def clearE (P : Program) (rd : Nat → Blk) (ty : TypeId) (x : AV) : Option CE :=
  match P.underlying ty, x with
  | some (.slice el), .own i sz lo n => (match rd i, zeroL P el with
    | .row ty' s2 m cap c, some z => (match s2 == sz && len z == sz && Nat.ble 1 sz with
      | true => some ⟨.tup [], [i], [(i, .row ty' sz m cap (clrRow lo n c))], [], []⟩
      | false => none)
    | _, _ => none)
  | _, _ => none
theorem zeroCells_len (z : Array Value) (n : Nat) : (Builtin.zeroCells z n).toList.length = n * z.size := by simp [Builtin.zeroCells]
theorem zeroCells_ones (z : Array Value) (n : Nat) (h : ones z.toList) (h0 : 0 < z.size) : ∀ x ∈ (Builtin.zeroCells z n).toList, x.oneCell' = true := by
  intro x hx
  simp only [Builtin.zeroCells, Array.toList_map, List.mem_map] at hx
  obtain ⟨i, _, rfl⟩ := hx
  have hlt : i % z.size < z.size := Nat.mod_lt _ h0
  rw [getElem!_pos z _ hlt]
  exact h _ (by simp)
theorem clearE_ok {P : Program} {o : Oper} {t : Nat → AV} {rd : Nat → Blk} {ty : TypeId} {x : Operand} {e : CE} (hop : o.op = .call { callee := .builtin .clear, args := #[x], argTypes := #[ty] }) (h : clearE P rd ty (ev t x) = some e) : CE.Good P o t rd e := by
  intro M hM
  refine runs_step fun H E w a hC hT => ?_
  have hx := rel_ev hT x
  unfold clearE at h
  split at h
  case h_2 => cases h
  rename_i el i sz lo n hu he
  rw [he] at hx
  split at h
  case h_2 => cases h
  rename_i ty' s2 m cap c z hg hz
  split at h
  case h_2 => cases h
  rename_i hs
  simp only [Bool.and_eq_true, beq_iff_eq, Nat.ble_eq] at hs
  obtain ⟨⟨rfl, hzl⟩, hs0⟩ := hs
  cases h
  obtain ⟨hl, hη, hm⟩ := hx
  have hB := hC.blk i
  rw [hM i (by simp), hg] at hB
  obtain ⟨hlv, hn, hκ, hcap, hb⟩ := hB
  obtain ⟨zi, zv, hi, hz', hrz, h1⟩ := zeroL_ok H E hz
  have hzs : zv.cells.size = s2 := by
    have := RelL.length hrz
    rw [len_eq] at hzl
    rw [← hzl, ← this, Array.length_toList]
  have hstay : (∀ v, a.eval x = v → (Builtin.clear_ #[ty] o.type #[v]).run P w = .ok (.tuple #[]) w) → n = 0 ∨ E.ι i = none → ∃ v w' H' E', (execOp a.eval o).run P w = .ok (.value v) w' ∧ Rel (.tup []) H' E' v ∧ Conc H' E' w' (applyW [(i, .row ty' s2 m cap (clrRow lo n c))] (killM [] M)) ∧ Evol [] H E w H' E' w' := by
    intro hrun h0
    refine ⟨.tuple #[], w, H, E, by simp [execOp, hop, resolve, invoke, builtin, hrun _ rfl], ⟨#[], rfl, rfl⟩, ?_, Evol.refl _ _ _ _⟩
    refine ⟨hC.imm, hC.tf, fun k => ?_, hC.inj, hC.sep⟩
    show BlkOk H E w k (getM (putM M i _) k)
    by_cases hk : i = k
    · subst hk
      rw [getM_put_same]
      refine ⟨hlv, hn, hκ, hcap, ?_⟩
      cases hι : E.ι i with
      | none => rw [hι] at hb; exact hb
      | some b =>
        rw [hι] at hb
        obtain ⟨vs, g1, g2, g3, g4⟩ := hb
        refine ⟨vs, g1, g2, g3, fun k hk j hj => ?_⟩
        obtain ⟨y, hy, hr⟩ := g4 k hk j hj
        refine ⟨y, hy, ?_⟩
        unfold clrRow
        split
        · trivial
        · exact hr
    · rw [getM_put_ne _ _ _ _ hk]
      exact hC.blk k
  cases hι : E.ι i with
  | none =>
    rw [hι] at hm
    obtain ⟨_, rfl, hv⟩ := hm
    exact hstay (fun v hv' => by rw [← hv', hv]; simp [Builtin.clear_, run_underlying hu]) (.inl rfl)
  | some b =>
    rw [hι] at hm hb
    obtain ⟨ad, hv, had⟩ := hm
    rcases Nat.eq_zero_or_pos n with h0 | h0
    · subst h0
      exact hstay (fun v hv' => by rw [← hv', hv]; cases ad <;> simp [Builtin.clear_, run_underlying hu]) (.inl rfl)
    · obtain ⟨vs, g1, g2, g3, g4⟩ := hb
      have had := had.1 (.inr h0)
      rw [had] at hv
      have hq : (lo + n) * s2 ≤ m * s2 := Nat.mul_le_mul_right _ (by omega)
      have hq2 : m * s2 ≤ E.κ i * s2 := Nat.mul_le_mul_right _ hn.2
      rw [Nat.add_mul] at hq
      have hzc : (Builtin.zeroCells zv.cells n).toList.length = n * s2 := by rw [zeroCells_len, hzs]
      have hst := run_storeCells_at P b (lo * s2) ty' (Builtin.zeroCells zv.cells n).toList 0 vs w g1 (by rw [hzc]; omega) (zeroCells_ones _ _ h1 (by omega))
      have hrun : (Builtin.clear_ #[ty] o.type #[a.eval x]).run P w = .ok (.tuple #[]) (w.setRow b (vs.toList.take (lo * s2 + 0) ++ (Builtin.zeroCells zv.cells n).toList ++ vs.toList.drop (lo * s2 + 0 + (Builtin.zeroCells zv.cells n).toList.length)).toArray) := by
        rw [hv]
        obtain ⟨n', rfl⟩ : ∃ n', n = n' + 1 := ⟨n - 1, by omega⟩
        simp [Builtin.clear_, run_underlying hu, zeroValue, typeInfo, hi, hz', hst]
      generalize hzq : (Builtin.zeroCells zv.cells n).toList = zs at hst hrun hzc
      have hzo : ∀ x ∈ zs, x.oneCell' = true := by rw [← hzq]; exact zeroCells_ones _ _ h1 (by omega)
      simp only [Nat.add_zero] at hrun
      have hget : ∀ q, (vs.toList.take (lo * s2) ++ zs ++ vs.toList.drop (lo * s2 + zs.length))[q]? = if lo * s2 ≤ q ∧ q < lo * s2 + n * s2 then zs[q - lo * s2]? else vs[q]? := by
        intro q
        have htl : (vs.toList.take (lo * s2)).length = lo * s2 := by rw [List.length_take, Array.length_toList]; omega
        by_cases hq1 : q < lo * s2
        · rw [List.append_assoc, List.getElem?_append_left (by omega), List.getElem?_take, if_pos hq1, if_neg (by omega)]; simp
        · by_cases hq2 : q < lo * s2 + n * s2
          · rw [List.append_assoc, List.getElem?_append_right (by omega), List.getElem?_append_left (by omega), if_pos ⟨by omega, hq2⟩, htl]
          · rw [List.getElem?_append_right (by rw [List.length_append]; omega), List.length_append, htl, List.getElem?_drop, if_neg (by omega), hzc]
            rw [show lo * s2 + n * s2 + (q - (lo * s2 + n * s2)) = q by omega]; simp
      generalize hnew : vs.toList.take (lo * s2) ++ zs ++ vs.toList.drop (lo * s2 + zs.length) = new at hrun hget
      have hnl : new.length = vs.size := by
        rw [← hnew]; simp [hzc]; omega
      have hB2 : BlkOk H E (w.setRow b new.toArray) i (.row ty' s2 m cap (clrRow lo n c)) := by
        refine ⟨hlv, hn, hκ, hcap, ?_⟩
        rw [hι]
        refine ⟨new.toArray, setRow_heap w b vs _ ty' (0, 0) g1, fun y hy => ?_, by simp [hnl, g3], fun k hk j hj => ?_⟩
        · obtain ⟨q, hq4⟩ := List.mem_iff_getElem?.1 hy
          rw [List.getElem?_take] at hq4
          split at hq4
          case isFalse => cases hq4
          rename_i hqm
          simp only [List.toList_toArray] at hq4
          rw [hget] at hq4
          split at hq4
          · exact hzo _ (List.mem_of_getElem? hq4)
          · refine g2 y ?_
            rw [List.mem_iff_getElem?]
            exact ⟨q, by rw [List.getElem?_take, if_pos hqm]; simpa using hq4⟩
        · have hkm : (k + 1) * s2 ≤ m * s2 := Nat.mul_le_mul_right _ hk
          rw [Nat.add_mul, Nat.one_mul] at hkm
          have hlt : k * s2 + j < new.length := by omega
          obtain ⟨y, hy, hr⟩ := g4 k hk j hj
          simp only [List.getElem?_toArray]
          rw [hget]
          unfold clrRow
          by_cases hkr : lo ≤ k ∧ k < lo + n
          · have a1 : lo * s2 ≤ k * s2 := Nat.mul_le_mul_right _ hkr.1
            have a2 : (k + 1) * s2 ≤ (lo + n) * s2 := Nat.mul_le_mul_right _ hkr.2
            rw [Nat.add_mul, Nat.one_mul, Nat.add_mul] at a2
            rw [if_pos hkr, if_pos ⟨by omega, by omega⟩]
            exact ⟨_, List.getElem?_eq_getElem (by omega), trivial⟩
          · rw [if_neg hkr, if_neg ?_]
            · exact ⟨y, hy, hr⟩
            · intro ⟨b1, b2⟩
              refine hkr ⟨?_, ?_⟩
              · rcases Nat.lt_or_ge k lo with h | h
                · have : (k + 1) * s2 ≤ lo * s2 := Nat.mul_le_mul_right _ h
                  rw [Nat.add_mul, Nat.one_mul] at this; omega
                · exact h
              · rcases Nat.lt_or_ge k (lo + n) with h | h
                · exact h
                · have : (lo + n) * s2 ≤ k * s2 := Nat.mul_le_mul_right _ h
                  rw [Nat.add_mul] at this; omega
      obtain ⟨hc, hev⟩ := hC.upd (w' := w.setRow b new.toArray) (o := .cells new.toArray ty' (0, 0)) hl hι ⟨rfl, rfl, rfl, by simp [World.setRow], setRow_heap w b vs _ ty' (0, 0) g1, fun k hk => setRow_other w b k _ hk⟩ hB2
      refine ⟨.tuple #[], _, H, E, by simp [execOp, hop, resolve, invoke, builtin, hrun], ⟨#[], rfl, rfl⟩, hc, hev⟩

/-! a block comes under another name -/
def intoE (rd : Nat → Blk) (d : Nat) : AV → Option CE
  | .own k sz lo n => (match Nat.beq k d with
    | true => none
    | false => some ⟨.own d sz lo n, [k], [(k, .dead), (d, match rd k with | .box ty cs => .box ty (renL (keepOf [k, d]) cs) | .lst ty z m cap cs => .lst ty z m cap (renL (keepOf [k, d]) cs) | B => B)], [k, d], []⟩)
  | _ => none
def Env.into (E : Env) (k d : Nat) : Env :=
  ⟨fun j => if j = d then E.lv k else if j = k then false else E.lv j, fun j => if j = d then E.ι k else E.ι j, fun j => if j = d then E.κ k else E.κ j, fun j => if j = d then E.η k else E.η j⟩
theorem intoE_ok {P : Program} {o : Oper} {t : Nat → AV} {rd : Nat → Blk} {d : Nat} {x : Operand} {e : CE} (hop : o.op = .move x ∨ o.op = .assign x) (h : intoE rd d (ev t x) = some e) : CE.Good P o t rd e := by
  intro M hM
  refine runs_step fun H E w a hC hT => ?_
  have hx := rel_ev hT x
  unfold intoE at h
  split at h
  case h_2 => cases h
  rename_i k sz lo n he
  rw [he] at hx
  split at h
  · cases h
  rename_i hkd
  have hkd : k ≠ d := fun e => by rw [e, Nat.beq_refl] at hkd; cases hkd
  cases h
  have hMk := hM k (by simp)
  obtain ⟨hl, hη, hm⟩ := hx
  have hvia : E.via (E.into k d) (keepOf [k, d]) := by
    intro i j hij hli
    unfold keepOf at hij
    split at hij
    · cases hij
    · rename_i hn
      cases hij
      simp at hn
      simp [Env.into, hn.1, hn.2, hli]
  have hed : (E.into k d).lv d = E.lv k ∧ (E.into k d).ι d = E.ι k ∧ (E.into k d).κ d = E.κ k ∧ (E.into k d).η d = E.η k := by simp [Env.into]
  have hek : (E.into k d).lv k = false := by simp [Env.into, hkd]
  have hej : ∀ j, j ≠ k → j ≠ d → (E.into k d).lv j = E.lv j ∧ (E.into k d).ι j = E.ι j ∧ (E.into k d).κ j = E.κ j ∧ (E.into k d).η j = E.η j := fun j h1 h2 => by simp [Env.into, h1, h2]
  have hB : (match rd k with | .box ty cs => Blk.box ty (renL (keepOf [k, d]) cs) | .lst ty z m cap cs => .lst ty z m cap (renL (keepOf [k, d]) cs) | B => B) = renB (keepOf [k, d]) (getM M k) := by
    rw [hMk]; cases rd k <;> rfl
  have hsrc : ∀ j b, (E.into k d).lv j = true → (E.into k d).ι j = some b → (j = d ∧ E.ι k = some b) ∨ (j ≠ k ∧ j ≠ d ∧ E.lv j = true ∧ E.ι j = some b) := by
    intro j b h1 h2
    by_cases hj : j = d
    · subst hj; exact .inl ⟨rfl, by rw [← hed.2.1]; exact h2⟩
    · by_cases hj2 : j = k
      · subst hj2; rw [hek] at h1; cases h1
      · obtain ⟨g1, g2, _⟩ := hej j hj2 hj
        exact .inr ⟨hj2, hj, g1 ▸ h1, g2 ▸ h2⟩
  refine ⟨a.eval x, w, H, E.into k d, ?_, ⟨hed.1.trans hl, by rw [hed.2.2.1, hed.2.2.2]; exact hη, by rw [hed.2.1, hed.2.2.1]; exact hm⟩, ⟨hC.imm, hC.tf, fun j => ?_, fun i j b h1 h2 h3 h4 => ?_, fun i b h1 h2 => ?_⟩, ⟨rfl, rfl, rfl, Nat.le_refl _, fun _ _ _ => rfl, fun i b h1 h2 => ?_, HH.le_refl _, fun _ _ _ h => .inl h, fun i hi hn => ?_⟩⟩
  · rcases hop with hop | hop <;> simp [execOp, hop]
  · show BlkOk H (E.into k d) w j (getM (putM (putM (killM [k, d] M) k .dead) d _) j)
    by_cases hj : d = j
    · subst hj
      rw [getM_put_same, hB]
      exact (hC.blk k).move (HH.le_refl _) hvia hed.1 hed.2.1 hed.2.2.1 hed.2.2.2 fun _ _ _ => rfl
    · rw [getM_put_ne _ _ _ _ hj]
      by_cases hj2 : k = j
      · subst hj2
        rw [getM_put_same]
        exact hek
      · rw [getM_put_ne _ _ _ _ hj2, getM_kill]
        obtain ⟨g1, g2, g3, g4⟩ := hej j (fun e => hj2 e.symm) (fun e => hj e.symm)
        exact (hC.blk j).move (HH.le_refl _) hvia g1 g2 g3 g4 fun _ _ _ => rfl
  · rcases hsrc i b h1 h3 with ⟨rfl, a1⟩ | ⟨a0, a1, a2, a3⟩ <;> rcases hsrc j b h2 h4 with ⟨rfl, b1⟩ | ⟨b0, b1, b2, b3⟩
    · rfl
    · exact absurd (hC.inj k j b hl b2 a1 b3).symm b0
    · exact absurd (hC.inj k i b hl a2 b1 a3).symm a0
    · exact hC.inj i j b a2 b2 a3 b3
  · rcases hsrc i b h1 h2 with ⟨rfl, a1⟩ | ⟨_, _, a2, a3⟩
    · exact hC.sep k b hl a1
    · exact hC.sep i b a2 a3
  · rcases hsrc i b h1 h2 with ⟨rfl, a1⟩ | ⟨_, _, a2, a3⟩
    · exact .inl ⟨k, hl, a1⟩
    · exact .inl ⟨i, a2, a3⟩
  · simp at hn
    obtain ⟨g1, g2, g3, g4⟩ := hej i hn.1 hn.2
    exact ⟨g1.trans hi, g2, g3, g4⟩

/-! shifts to the right by a known count -/
def shrE (o : Oper) (t : Nat → AV) : Option CE :=
  match o.op with
  | .binOp .shr _ x y _ => (match ev t x, ev t y with
    | .y (.int .u64 a), .s (.int .u64 (.ofNat n)) => (match Nat.blt n 64 with
      | true => some ⟨.y (.int .u64 (a / 2 ^ n)), [], [], [], []⟩
      | false => none)
    | .s (.int .u64 a), .s (.int .u64 (.ofNat n)) => (match Nat.blt n 64 with
      | true => some ⟨.s (.int .u64 (a / 2 ^ n)), [], [], [], []⟩
      | false => none)
    | _, _ => none)
  | _ => none
theorem shrE_ok {P : Program} {o : Oper} {t : Nat → AV} {rd : Nat → Blk} {e : CE} (h : shrE o t = some e) : CE.Good P o t rd e := by
  intro M _
  refine runs_step fun H E w a hC hT => ?_
  unfold shrE at h
  split at h
  case h_2 => cases h
  rename_i ty x y f hop
  have hx := rel_ev hT x
  have hy := rel_ev hT y
  have hr : ∀ (b : Int) (n : Nat), n < 64 → (binOp .shr ty (.int .u64 b) (.int .u64 (n : Int))).run P w = .ok (.int .u64 (b / 2 ^ n)) w := by
    intro b n hn
    have h1 : ¬ ((n : Int) < 0) := by omega
    have h2 : min n 64 = n := by omega
    simp [binOp, Op.shift, h1, IntKind.bits, h2]
  split at h
  · rename_i b n h1 h2
    rw [h1] at hx; rw [h2] at hy
    obtain ⟨hx, _⟩ := hx
    obtain ⟨hy, _⟩ := hy
    split at h
    case h_2 => cases h
    rename_i hn
    cases h
    refine ⟨_, w, H, E, by simp [execOp, hop, hx, hy, eqGuard, hr b n (by simpa using hn)], ⟨rfl, rfl⟩, hC, Evol.refl _ _ _ _⟩
  · rename_i b n h1 h2
    rw [h1] at hx; rw [h2] at hy
    obtain ⟨hx, _⟩ := hx
    obtain ⟨hy, _⟩ := hy
    split at h
    case h_2 => cases h
    rename_i hn
    cases h
    refine ⟨_, w, H, E, by simp [execOp, hop, hx, hy, eqGuard, hr b n (by simpa using hn)], ⟨rfl, rfl⟩, hC, Evol.refl _ _ _ _⟩
  · cases h

/-! a nil stored as a row of one's own -/
def nilStE (P : Program) (rd : Nat → Blk) (nid : Nat) (ty : TypeId) (a x : AV) : Option CE :=
  match x with
  | .s (.slice none 0 0) => (match P.underlying ty with
    | some (.slice el) => (match P.info? el with
      | some i => (match aStore P (some .ok) (fun j => match Nat.beq j nid with | true => .row el i.size 0 none (fun _ _ => .junk) | false => rd j) ty a (.own nid i.size 0 0) with
        | some e => some ⟨.junk, nid :: refOf a, (nid, .row el i.size 0 none (fun _ _ => .junk)) :: e.wr, [], e.ob.map (· = true)⟩
        | none => none)
      | none => none)
    | _ => none)
  | _ => none
theorem nilStE_ok {P : Program} {o : Oper} {t : Nat → AV} {rd : Nat → Blk} {nid : Nat} {ty : TypeId} {x y : Operand} {e : CE} (hd : ∀ k, nid ≤ k → rd k = .dead) (hop : o.op = .store ty x y) (h : nilStE P rd nid ty (ev t x) (ev t y) = some e) (ho : Hold e.ob) : CE.Good P o t rd e := by
  intro M hM H E w a K Q hC hT hdf hk
  have hx := rel_ev hT x
  have hy := rel_ev hT y
  unfold nilStE at h
  split at h
  case h_2 => cases h
  rename_i hyn
  rw [hyn] at hy
  obtain ⟨hy, _⟩ := hy
  split at h
  case h_2 => cases h
  rename_i el hu
  split at h
  case h_2 => cases h
  rename_i i hi
  split at h
  case h_2 => cases h
  rename_i ef hst
  cases h
  have hdn : getM M nid = .dead := (hM nid (by simp)).trans (hd nid (Nat.le_refl _))
  obtain ⟨e1, e2, e3, e4⟩ := E.set_same nid none 0 0
  have hvia := set_via (bo := none) (κ := 0) (η := 0) hC hdn
  obtain ⟨hc, hev⟩ := hC.new (w' := w) (i := nid) (κ := 0) (η := 0) (bo := none) (B := .row el i.size 0 none (fun _ _ => .junk)) hdn rfl rfl rfl (Nat.le_refl _) (fun _ _ => rfl) (fun b hb => by cases hb)
    ⟨e1, by rw [e3, e4]; exact ⟨rfl, Nat.le_refl _⟩, by rw [e3]; exact Nat.zero_le _, (fun q hq => by cases hq), by rw [e2]; exact e3⟩
  have hx1 : Rel (ev t x) H (E.set nid none 0 0) (a.eval x) := by
    have := Rel.ren _ hvia hx
    rwa [ren_some] at this
  have hy1 : Rel (.own nid i.size 0 0) H (E.set nid none 0 0) (a.eval y) := by
    rw [hy]
    exact ⟨e1, by rw [e3, e4]; exact ⟨Nat.le_refl _, Nat.le_refl _⟩, by rw [e2]; exact ⟨rfl, rfl, rfl⟩⟩
  have hst1 : aStore P (some .ok) (getM (putM M nid (.row el i.size 0 none (fun _ _ => .junk)))) ty (ev t x) (.own nid i.size 0 0) = some ef := by
    rw [← hst]
    refine aStore_congr fun j hj => ?_
    cases hb : Nat.beq j nid
    · have hne : nid ≠ j := fun e => by rw [e, Nat.beq_refl] at hb; cases hb
      rw [getM_put_ne _ _ _ _ hne]
      exact hM j (by simp [hj])
    · have := Nat.eq_of_beq_eq_true hb
      subst this
      rw [getM_put_same]
  obtain ⟨w', hrun, hr, hkl, hc2, hev2⟩ := store_good hc hx1 hy1 hst1 fun b hb => ho (b = true) (by simp; exact hb)
  unfold Oper.wp
  have hrun2 : (execOp a.eval o).run P w = .ok .skip w' := by simp [execOp, hop, hrun]
  rw [hrun2]
  exact hk undef w' H _ trivial hc2 (hev.trans hev2 fun _ h => h)
/-! rows of one's own that are written no more -/
structure FrOk (H : HH) (E : Env) (w : World) (i sz m : Nat) (c : Nat → Nat → AV) : Prop where
  lv : E.lv i = true
  me : m = E.η i
  val : ∀ b, E.ι i = some b → ∃ vs ty, w.heap[b]? = some (.cells vs ty (0, 0)) ∧ ∀ k, k < m → ∀ j, j < sz → ∃ x, vs[k * sz + j]? = some x ∧ x.oneCell' = true ∧ Rel (c k j) (fun _ => H true) E0 x
theorem fr_row {H : HH} {E : Env} {w : World} {i sz m : Nat} {ty : TypeId} {cap : Option Nat} {c : Nat → Nat → AV} (h : BlkOk H E w i (.row ty sz m cap c)) (ht : ∀ k, k < m → ∀ j, j < sz → tagT (c k j) = true) : FrOk H E w i sz m c := by
  obtain ⟨h1, h2, h3, h4, h5⟩ := h
  refine ⟨h1, h2.1, fun b hb => ?_⟩
  rw [hb] at h5
  obtain ⟨vs, g1, g2, g3, g4⟩ := h5
  refine ⟨vs, ty, g1, fun k hk j hj => ?_⟩
  obtain ⟨x, hx, hr⟩ := g4 k hk j hj
  refine ⟨x, hx, g2 x ?_, Rel.tag _ (ht k hk j hj) hr⟩
  have hlt : k * sz + j < m * sz := by
    have : (k + 1) * sz ≤ m * sz := Nat.mul_le_mul_right _ hk
    rw [Nat.add_mul] at this; omega
  refine List.mem_iff_getElem?.2 ⟨k * sz + j, ?_⟩
  rw [List.getElem?_take, if_pos hlt]
  simpa using hx
theorem fr_lst {H : HH} {E : Env} {w : World} {i sz m : Nat} {ty : TypeId} {cap : Option Nat} {cs : List AV} (h : BlkOk H E w i (.lst ty sz m cap cs)) (hn : noRefL cs = true) (ht : tagTL cs = true) : FrOk H E w i sz m (fun k j => get cs (k * sz + j)) := by
  obtain ⟨h1, h2, h3, h4, h5⟩ := h
  refine ⟨h1, h2.1, fun b hb => ?_⟩
  rw [hb] at h5
  obtain ⟨vs, g1, g2, g3, g4⟩ := h5
  refine ⟨vs, ty, g1, fun k hk j hj => ?_⟩
  have hlt : k * sz + j < m * sz := by
    have : (k + 1) * sz ≤ m * sz := Nat.mul_le_mul_right _ hk
    rw [Nat.add_mul] at this; omega
  have hsz : m * sz ≤ E.κ i * sz := Nat.mul_le_mul_right _ h2.2
  have hlv : k * sz + j < vs.size := by omega
  have hx : vs[k * sz + j]? = some vs[k * sz + j] := Array.getElem?_eq_getElem hlv
  have hx2 : (vs.toList.take (m * sz))[k * sz + j]? = some vs[k * sz + j] := by
    rw [List.getElem?_take, if_pos hlt]; simp
  refine ⟨_, hx, g2 _ (List.mem_iff_getElem?.2 ⟨_, hx2⟩), ?_⟩
  have hr := relL_get g4 _ _ hx2
  have htg : ∀ (l : List AV) (q : Nat), tagTL l = true → tagT (get l q) = true := by
    intro l
    induction l with
    | nil => intro q _; cases q <;> rfl
    | cons a r ih =>
      intro q hq
      simp only [tagTL, Bool.and_eq_true] at hq
      cases q with
      | zero => exact hq.1
      | succ q => exact ih q hq.2
  exact Rel.noRef _ (noRef_get hn _) (Rel.tag _ (htg cs _ ht) hr)
def HH.frz (H : HH) (w : World) (fr : Nat → Bool) : HH := fun x b => match fr b with | true => w.heap[b]? | false => H x b
def Env.drop (E : Env) (L : List Nat) : Env := ⟨fun j => !mem L j && E.lv j, E.ι, E.κ, E.η⟩
def isFr (E : Env) : List Nat → Nat → Bool
  | [], _ => false
  | i :: r, b => decide (E.ι i = some b) || isFr E r b
theorem isFr_iff {E : Env} : ∀ {L : List Nat} {b : Nat}, isFr E L b = true ↔ ∃ i ∈ L, E.ι i = some b
  | [], b => by simp [isFr]
  | a :: r, b => by simp [isFr, isFr_iff (L := r)]
def deadW : List Nat → List (Nat × Blk)
  | [] => []
  | i :: r => (i, .dead) :: deadW r
theorem lastW_dead : ∀ (L : List Nat) (j : Nat), lastW (deadW L) j = if mem L j then some .dead else none
  | [], _ => rfl
  | i :: r, j => by
    simp only [deadW, lastW, lastW_dead r j, mem]
    by_cases hm : mem r j = true
    · simp [hm]
    · have hm' : mem r j = false := by simpa using hm
      by_cases hi : i = j
      · simp [hm', hi]
      · have : Nat.beq i j = false := by
          cases hb : Nat.beq i j
          · rfl
          · exact absurd (Nat.eq_of_beq_eq_true hb) hi
        simp [hm', hi, this]
theorem freeze_ok {H : HH} {E : Env} {w : World} {M : List Blk} {L : List Nat} (hC : Conc H E w M) (hL : ∀ i ∈ L, E.lv i = true) :
    H.le (H.frz w (isFr E L)) ∧ Conc (H.frz w (isFr E L)) (E.drop L) w (applyW (deadW L) (killM L M)) ∧ Evol L H E w (H.frz w (isFr E L)) (E.drop L) w := by
  have hnone : ∀ x b, isFr E L b = true → H x b = none := by
    intro x b hb
    obtain ⟨i, hi, hib⟩ := isFr_iff.1 hb
    have h0 := hC.sep i b (hL i hi) hib
    cases x
    · exact h0
    · cases hx : H true b with
      | none => rfl
      | some o => have := hC.tf b o hx; rw [h0] at this; cases this
  have hle : H.le (H.frz w (isFr E L)) := by
    intro x b o ho
    show (match isFr E L b with | true => w.heap[b]? | false => H x b) = some o
    cases hb : isFr E L b
    · exact ho
    · rw [hnone x b hb] at ho; cases ho
  have hcase : ∀ x b o, H.frz w (isFr E L) x b = some o → (isFr E L b = true ∧ w.heap[b]? = some o) ∨ H x b = some o := by
    intro x b o ho
    have ho : (match isFr E L b with | true => w.heap[b]? | false => H x b) = some o := ho
    cases hb : isFr E L b
    · rw [hb] at ho; exact .inr ho
    · rw [hb] at ho; exact .inl ⟨rfl, ho⟩
  have hlv : ∀ j, (E.drop L).lv j = true → j ∉ L ∧ E.lv j = true := by
    intro j hj
    simp only [Env.drop, Bool.and_eq_true, Bool.not_eq_true'] at hj
    refine ⟨fun hm => ?_, hj.2⟩
    rw [mem_iff.2 hm] at hj
    cases hj.1
  have hvia : E.via (E.drop L) (keepOf L) := by
    intro i j hij hl
    have hj := keepOf_some hij
    subst hj
    unfold keepOf at hij
    split at hij
    · cases hij
    · rename_i hn
      have hm : mem L j = false := by
        cases hm : mem L j
        · rfl
        · exact absurd (List.contains_iff_mem.2 (mem_iff.1 hm)) hn
      exact ⟨by simp [Env.drop, hm, hl], rfl, rfl, rfl⟩
  refine ⟨hle, ⟨fun b o ho => ?_, fun b o ho => ?_, fun j => ?_, fun i j b hi hj hib hjb => ?_, fun i b hi hib => ?_⟩, ⟨rfl, rfl, rfl, Nat.le_refl _, fun _ _ _ => rfl, fun i b hi hib => .inl ⟨i, (hlv i hi).2, hib⟩, hle, fun x b o ho => ?_, fun i hi hn => ?_⟩⟩
  · rcases hcase false b o ho with ⟨_, h⟩ | h
    · exact h
    · exact hC.imm b o h
  · show (match isFr E L b with | true => w.heap[b]? | false => H false b) = some o
    have ho : (match isFr E L b with | true => w.heap[b]? | false => H true b) = some o := ho
    cases hb : isFr E L b
    · rw [hb] at ho; exact hC.tf b o ho
    · rw [hb] at ho; exact ho
  · rw [getM_applyW, lastW_dead, getM_kill]
    cases hm : mem L j
    · simp only [Bool.false_eq_true, if_false, Option.getD_none]
      exact (hC.blk j).move hle hvia (by simp [Env.drop, hm]) rfl rfl rfl fun _ _ _ => rfl
    · simp only [if_true, Option.getD_some]
      show (E.drop L).lv j = false
      simp [Env.drop, hm]
  · exact hC.inj i j b (hlv i hi).2 (hlv j hj).2 hib hjb
  · obtain ⟨h1, h2⟩ := hlv i hi
    show (match isFr E L b with | true => w.heap[b]? | false => H false b) = none
    cases hb : isFr E L b
    · exact hC.sep i b h2 hib
    · obtain ⟨j, hj, hjb⟩ := isFr_iff.1 hb
      have := hC.inj i j b h2 (hL j hj) hib hjb
      subst this
      exact absurd hj h1
  · rcases hcase x b o ho with ⟨h, _⟩ | h
    · obtain ⟨i, hi, hib⟩ := isFr_iff.1 h
      exact .inr (.inr ⟨i, hL i hi, hib⟩)
    · exact .inl h
  · have hm : mem L i = false := by
      cases hm : mem L i
      · rfl
      · exact absurd (mem_iff.1 hm) hn
    exact ⟨by simp [Env.drop, hm, hi], rfl, rfl, rfl⟩
theorem frz_rel {H : HH} {E : Env} {w : World} {L : List Nat} {i sz lo n m : Nat} {c : Nat → Nat → AV} {v : Value} (hi : i ∈ L) (hF : FrOk H E w i sz m c) (hle : H.le (H.frz w (isFr E L))) (h : Rel (.own i sz lo n) H E v) : Rel (.ys true sz n (rowAt lo c)) (H.frz w (isFr E L)) (E.drop L) v := by
  obtain ⟨hl, hη, hm⟩ := h
  cases hib : E.ι i with
  | none =>
    rw [hib] at hm
    obtain ⟨_, rfl, rfl⟩ := hm
    exact ⟨none, 0, rfl, ⟨Nat.le_refl _, fun _ => rfl⟩, fun h => absurd h (Nat.lt_irrefl _)⟩
  | some b =>
    rw [hib] at hm
    obtain ⟨a, rfl, ha, hne⟩ := hm
    refine ⟨a, _, rfl, ⟨by omega, fun h => absurd h hne⟩, fun h0 => ⟨_, ha (.inr h0), fun k hk j hj => ?_⟩⟩
    obtain ⟨vs, ty, h1, h2⟩ := hF.val b hib
    have hme := hF.me
    obtain ⟨x, hx, ho, hr⟩ := h2 (lo + k) (by omega) j hj
    refine ⟨x, ?_, ho, ?_⟩
    · rw [addr_add]
      have hb : isFr E L b = true := isFr_iff.2 ⟨i, hi, hib⟩
      have e : H.frz w (isFr E L) true b = some (.cells vs ty (0, 0)) := by
        show (match isFr E L b with | true => w.heap[b]? | false => H true b) = _
        rw [hb]; exact h1
      unfold IH.cell?
      simp only [e]
      rw [Nat.add_mul] at hx
      have e2 : lo * sz + (k * sz + j) = lo * sz + k * sz + j := by omega
      rw [e2]
      simpa using hx
    · rw [rowAt_eq]
      have : HH.le (fun _ => H true) (HH.at (H.frz w (isFr E L)) true) := fun _ => hle true
      exact Rel.mono _ this hr
def frzC (rd : Nat → Blk) : List AV → Option (List AV × List Nat × List Prop)
  | [] => some ([], [], [])
  | a :: r => (match frzC rd r with
    | none => none
    | some (l, L, ob) => (match a with
      | .own i sz lo n => (match rd i with
        | .row _ s2 m _ c => (match Nat.beq s2 sz && !mem L i with
          | true => some (.ys true sz n (rowAt lo c) :: l, i :: L, (∀ k, k < m → ∀ j, j < sz → tagT (c k j) = true) :: ob)
          | false => none)
        | .lst _ s2 _ _ cs => (match Nat.beq s2 sz && !mem L i && noRefL cs && tagTL cs with
          | true => some (.ys true sz n (rowAt lo fun k j => get cs (k * sz + j)) :: l, i :: L, ob)
          | false => none)
        | _ => none)
      | a => (match noRef a with | true => some (a :: l, L, ob) | false => none)))
theorem frzC_lv {rd : Nat → Blk} {H : HH} {E : Env} {w : World} {M : List Blk} : ∀ {cells : List AV} {l : List AV} {L : List Nat} {ob : List Prop} {vs : List Value}, frzC rd cells = some (l, L, ob) → RelL cells H E vs → ∀ i ∈ L, E.lv i = true
  | [], l, L, ob, vs, h, _, i, hi => by simp only [frzC] at h; cases h; cases hi
  | a :: r, l, L, ob, vs, h, hr, i, hi => by
    obtain ⟨v, s, _, h1, h2⟩ := hr
    simp only [frzC] at h
    split at h
    · cases h
    rename_i l' L' ob' hr'
    have ih := frzC_lv (M := M) (w := w) hr' h2
    split at h
    · split at h
      · split at h
        · cases h
          rcases List.mem_cons.1 hi with rfl | hi
          · exact h1.1
          · exact ih i hi
        · cases h
      · split at h
        · cases h
          rcases List.mem_cons.1 hi with rfl | hi
          · exact h1.1
          · exact ih i hi
        · cases h
      · cases h
    · split at h
      · cases h; exact ih i hi
      · cases h
theorem frzC_rel {rd : Nat → Blk} {H : HH} {E : Env} {w : World} {M : List Blk} {LL : List Nat} (hC : Conc H E w M) (hle : H.le (H.frz w (isFr E LL))) : ∀ {cells : List AV} {l : List AV} {L : List Nat} {ob : List Prop} {vs : List Value}, frzC rd cells = some (l, L, ob) → (∀ i ∈ L, i ∈ LL ∧ getM M i = rd i) → Hold ob → RelL cells H E vs → RelL l (H.frz w (isFr E LL)) (E.drop LL) vs
  | [], l, L, ob, vs, h, _, _, hr => by simp only [frzC] at h; cases h; exact hr
  | a :: r, l, L, ob, vs, h, hM, ho, hr => by
    obtain ⟨v, s, rfl, h1, h2⟩ := hr
    simp only [frzC] at h
    split at h
    · cases h
    rename_i l' L' ob' hr'
    split at h
    · rename_i i sz lo n
      split at h
      · rename_i ty s2 m cap c hrd
        split at h
        · rename_i hb
          cases h
          simp only [Bool.and_eq_true, Nat.beq_eq] at hb
          obtain ⟨rfl, _⟩ := hb
          have hB := hC.blk i
          obtain ⟨hi, hMi⟩ := hM i (by simp)
          rw [hMi, hrd] at hB
          have hF := fr_row hB (ho _ (by simp))
          exact ⟨v, s, rfl, frz_rel hi hF hle h1, frzC_rel hC hle hr' (fun j hj => hM j (by simp [hj])) (fun p hp => ho p (by simp [hp])) h2⟩
        · cases h
      · rename_i ty s2 m cap cs hrd
        split at h
        · rename_i hb
          cases h
          simp only [Bool.and_eq_true, Nat.beq_eq] at hb
          obtain ⟨⟨⟨rfl, _⟩, hn⟩, ht⟩ := hb
          have hB := hC.blk i
          obtain ⟨hi, hMi⟩ := hM i (by simp)
          rw [hMi, hrd] at hB
          have hF := fr_lst hB hn ht
          exact ⟨v, s, rfl, frz_rel hi hF hle h1, frzC_rel hC hle hr' (fun j hj => hM j (by simp [hj])) ho h2⟩
        · cases h
      · cases h
    · split at h
      · rename_i hn
        cases h
        exact ⟨v, s, rfl, Rel.mono _ hle (Rel.noRef _ hn h1), frzC_rel hC hle hr' hM ho h2⟩
      · cases h
def frzE (rd : Nat → Blk) : AV → Option CE
  | .agg cs => (match frzC rd cs with | some (l, L, ob) => some ⟨.agg l, L, deadW L, L, ob⟩ | none => none)
  | .own i sz lo n => (match frzC rd [.own i sz lo n] with | some (l, L, ob) => some ⟨get l 0, L, deadW L, L, ob⟩ | none => none)
  | _ => none
theorem frzE_ok {P : Program} {o : Oper} {t : Nat → AV} {rd : Nat → Blk} {x : Operand} {e : CE} (hop : o.op = .move x ∨ o.op = .assign x) (h : frzE rd (ev t x) = some e) (ho : Hold e.ob) : CE.Good P o t rd e := by
  intro M hM
  refine runs_step fun H E w a hC hT => ?_
  have hx := rel_ev hT x
  unfold frzE at h
  split at h
  · rename_i cs hcs
    rw [hcs] at hx
    obtain ⟨vs, hv, hr⟩ := hx
    split at h
    case h_2 => cases h
    rename_i l L ob hf
    cases h
    have hL := frzC_lv (M := M) (w := w) hf hr
    obtain ⟨hle, hC2, hE2⟩ := freeze_ok hC hL
    refine ⟨a.eval x, w, _, _, ?_, ⟨vs, hv, frzC_rel hC hle hf (fun i hi => ⟨hi, hM i hi⟩) ho hr⟩, hC2, hE2⟩
    rcases hop with hop | hop <;> simp [execOp, hop]
  · rename_i i sz lo n hcs
    rw [hcs] at hx
    split at h
    case h_2 => cases h
    rename_i l L ob hf
    cases h
    have hr : RelL [.own i sz lo n] H E [a.eval x] := ⟨_, _, rfl, hx, rfl⟩
    have hL := frzC_lv (M := M) (w := w) hf hr
    obtain ⟨hle, hC2, hE2⟩ := freeze_ok hC hL
    refine ⟨a.eval x, w, _, _, ?_, ?_, hC2, hE2⟩
    · rcases hop with hop | hop <;> simp [execOp, hop]
    · have := frzC_rel hC hle hf (fun i hi => ⟨hi, hM i hi⟩) ho hr
      have h0 := relL_get this 0 (a.eval x) (by simp)
      exact h0
  · cases h
/-- the special operations: those that a place is told to have, and those of rows -/
def mvE (rd : Nat → Blk) (h : Nat) (x : AV) : Option CE := match h with
  | 0 => none
  | 1 => (match x with | .agg _ => frzE rd x | _ => shrinkE rd x)
  | d + 2 => (match Nat.beq d 777 with | true => frzE rd x | false => intoE rd d x)
theorem mvE_ok {P : Program} {o : Oper} {t : Nat → AV} {rd : Nat → Blk} {h : Nat} {x : Operand} {e : CE} (hop : o.op = .move x ∨ o.op = .assign x) (he : mvE rd h (ev t x) = some e) (ho : Hold e.ob) : CE.Good P o t rd e := by
  unfold mvE at he
  split at he
  · cases he
  · split at he
    · exact frzE_ok hop he ho
    · exact shrinkE_ok hop he
  · split at he
    · exact frzE_ok hop he ho
    · exact intoE_ok hop he
/-- an operation that only reads, and what came of it is frozen -/
def frzAny (P : Program) (rd : Nat → Blk) (nid : Nat) (o : Oper) (t : Nat → AV) : Option CE :=
  match yop P rd nid o t with
  | some e => (match e.wr, e.kl, frzE rd e.r with
    | [], [], some f => some ⟨f.r, e.rd ++ f.rd, f.wr, f.kl, e.ob ++ f.ob⟩
    | _, _, _ => none)
  | none => none
theorem frzV {rd : Nat → Blk} {r : AV} {f : CE} (h : frzE rd r = some f) (ho : Hold f.ob) {M : List Blk} (hM : ∀ i ∈ f.rd, getM M i = rd i) {H : HH} {E : Env} {w : World} {v : Value} (hC : Conc H E w M) (hr : Rel r H E v) :
    ∃ H' E', Rel f.r H' E' v ∧ Conc H' E' w (applyW f.wr (killM f.kl M)) ∧ Evol f.kl H E w H' E' w := by
  unfold frzE at h
  split at h
  · rename_i cs
    obtain ⟨vs, hv, hr⟩ := hr
    split at h
    case h_2 => cases h
    rename_i l L ob hf
    cases h
    have hL := frzC_lv (M := M) (w := w) hf hr
    obtain ⟨hle, hC2, hE2⟩ := freeze_ok hC hL
    exact ⟨_, _, ⟨vs, hv, frzC_rel hC hle hf (fun i hi => ⟨hi, hM i hi⟩) ho hr⟩, hC2, hE2⟩
  · rename_i i sz lo n
    split at h
    case h_2 => cases h
    rename_i l L ob hf
    cases h
    have hr : RelL [.own i sz lo n] H E [v] := ⟨_, _, rfl, hr, rfl⟩
    have hL := frzC_lv (M := M) (w := w) hf hr
    obtain ⟨hle, hC2, hE2⟩ := freeze_ok hC hL
    exact ⟨_, _, relL_get (frzC_rel hC hle hf (fun i hi => ⟨hi, hM i hi⟩) ho hr) 0 v (by simp), hC2, hE2⟩
  · cases h
theorem frzAny_ok {P : Program} {rd : Nat → Blk} {nid : Nat} {o : Oper} {t : Nat → AV} {e : CE} (hd : ∀ k, nid ≤ k → rd k = .dead) (h : frzAny P rd nid o t = some e) (ho : Hold e.ob) : CE.Good P o t rd e := by
  unfold frzAny at h
  split at h
  case h_2 => cases h
  rename_i g hg
  split at h
  case h_2 => cases h
  rename_i f hw hk hf
  cases h
  obtain ⟨o1, o2⟩ := ho.append
  intro M hM H E w a K Q hC hT hdf hkk
  have hs := yop_ok hg o1 hd (M := M) (fun i hi => hM i (by simp [hi]))
  refine hs H E w a K Q hC hT hdf fun v w' H' E' hr hc hev => ?_
  rw [hw, hk] at hc
  rw [hk] at hev
  have hc : Conc H' E' w' M := hc
  obtain ⟨H2, E2, q1, q2, q3⟩ := frzV hf o2 (M := M) (fun i hi => hM i (by simp [hi])) hc hr
  exact hkk v w' H2 E2 q1 q2 (hev.trans q3 fun _ h => by cases h)
/-- zeros appended to nothing, and the others -/
def moreF (P : Program) (rd : Nat → Blk) (nid : Nat) (o : Oper) (t : Nat → AV) : Option CE := match zerosE P nid o t with
  | some e => some e
  | none => moreE P rd nid o t
theorem moreF_ok {P : Program} {rd : Nat → Blk} {nid : Nat} {o : Oper} {t : Nat → AV} {e : CE} (hd : ∀ k, nid ≤ k → rd k = .dead) (h : moreF P rd nid o t = some e) (ho : Hold e.ob) : CE.Good P o t rd e := by
  unfold moreF at h
  split at h
  · rename_i g hg
    cases h
    exact zerosE_ok hd hg ho
  · exact moreE_ok hd h ho
def spX (P : Program) (sh : Nat → Nat) : SP := fun nid p o t rd =>
  match Nat.beq (sh p) 779 with
  | true => (match frzAny P rd nid o t with | some e => some e.toT | none => none)
  | false =>
  match Nat.ble 1000 (sh p) with
  | true => (match aggZ P rd nid o t (sh p - 1000) with | some e => some e.toT | none => none)
  | false =>
  match o.op with
  | .store ty x y => (match sh p with
    | 1 => (match nilStE P rd nid ty (ev t x) (ev t y) with | some e => some e.toT | none => none)
    | _ => none)
  | .move x => (match mvE rd (sh p) (ev t x) with | some e => some e.toT | none => none)
  | .assign x => (match mvE rd (sh p) (ev t x) with | some e => some e.toT | none => none)
  | .binOp .. => (match nilQ P o t with | some e => some e.toT | none => (match shrE o t with | some e => some e.toT | none => (match moreF P rd nid o t with | some e => some e.toT | none => none)))
  | .call { callee := .builtin .clear, args, argTypes } => (match args.toList, argTypes.toList with
    | [x], [ty] => (match clearE P rd ty (ev t x) with | some e => some e.toT | none => none)
    | _, _ => none)
  | _ => (match moreF P rd nid o t with | some e => some e.toT | none => none)
theorem spX_ok (P : Program) (sh : Nat → Nat) : SpOk P (spX P sh) := by
  intro nid p o t rd T h hd
  unfold spX at h
  split at h
  · split at h
    case h_2 => cases h
    rename_i e he
    cases h
    exact CE.toT_ok fun ho => by
      have := frzAny_ok hd he (o := o) (t := t)
      exact this ho
  split at h
  · split at h
    case h_2 => cases h
    rename_i e he
    cases h
    exact CE.toT_ok fun ho => aggZ_ok hd he ho
  split at h
  · rename_i ty x y hop
    split at h
    case h_2 => cases h
    split at h
    case h_2 => cases h
    rename_i e he
    cases h
    exact CE.toT_ok fun ho => by
      have := nilStE_ok hd hop he (t := t)
      exact this ho
  · rename_i x hop
    split at h
    case h_2 => cases h
    rename_i e he
    cases h
    exact CE.toT_ok fun ho => mvE_ok (.inl hop) he ho
  · rename_i x hop
    split at h
    case h_2 => cases h
    rename_i e he
    cases h
    exact CE.toT_ok fun ho => mvE_ok (.inr hop) he ho
  · split at h
    · rename_i e he
      cases h
      exact CE.toT_ok fun _ => nilQ_ok he
    · split at h
      · rename_i e he
        cases h
        exact CE.toT_ok fun _ => shrE_ok he
      · split at h
        case h_2 => cases h
        rename_i e he
        cases h
        exact CE.toT_ok fun ho => moreF_ok hd he ho
  · rename_i args ats hop
    split at h
    case h_2 => cases h
    rename_i x ty hx hty
    split at h
    case h_2 => cases h
    rename_i e he
    cases h
    have h1 : args = #[x] := Array.ext' hx
    have h2 : ats = #[ty] := Array.ext' hty
    subst h1; subst h2
    exact CE.toT_ok fun _ => clearE_ok hop he
  · split at h
    case h_2 => cases h
    rename_i e he
    cases h
    exact CE.toT_ok fun ho => moreF_ok hd he ho
/-- the usual hints: nothing told but the special operations -/
def hT (P : Program) : HintsT P := { noHT P with sp := fun _ _ => spX P fun _ => 0, spOk := fun _ _ => spX_ok P _ }
end Go.Ax
