import Derived.Test.YtghhkabankbkoaaAxT
import Derived.Test.YtghhkabankbkoaaAxU
set_option linter.unusedVariables false
set_option linter.unusedSimpArgs false
/-! Calls, reckoned; a function's code. -/
namespace Go.Ax
open Go

def nodup : List Nat → Bool
  | [] => true
  | a :: l => !mem l a && nodup l
theorem nodup_ok : ∀ {l : List Nat}, nodup l = true → ∀ (i j a : Nat), l[i]? = some a → l[j]? = some a → i = j
  | [], _, i, _, a, h, _ => by simp at h
  | x :: l, h, i, j, a, hi, hj => by
    simp only [nodup, Bool.and_eq_true, Bool.not_eq_true'] at h
    have hx : ∀ k, l[k]? = some x → False := fun k hk => by
      have := mem_iff.2 (List.mem_of_getElem? hk)
      rw [h.1] at this; cases this
    cases i with
    | zero => cases j with
      | zero => rfl
      | succ j => simp at hi hj; subst hi; exact absurd hj (hx j)
    | succ i => cases j with
      | zero => simp at hi hj; subst hj; exact absurd hi (hx i)
      | succ j => simp at hi hj; rw [nodup_ok h.2 i j a hi hj]
def idx : List Nat → Nat → Option Nat
  | [], _ => none
  | a :: l, i => match Nat.beq a i with
    | true => some 0
    | false => (match idx l i with | some k => some (k + 1) | none => none)
theorem idx_ok : ∀ {l : List Nat} {i j : Nat}, idx l i = some j → l[j]? = some i
  | [], _, _, h => by simp [idx] at h
  | a :: l, i, j, h => by
    simp only [idx] at h
    split at h
    · rename_i hb
      cases h
      rw [Nat.eq_of_beq_eq_true hb]; rfl
    · split at h
      · rename_i k hk
        cases h
        simpa using idx_ok hk
      · cases h
def pick (L : List Nat) (M : List Blk) : List Nat → List Blk
  | [] => []
  | i :: r => renB (idx L) (getM M i) :: pick L M r
theorem getM_pick (L : List Nat) (M : List Blk) : ∀ (r : List Nat) (j : Nat), getM (pick L M r) j = match r[j]? with | some i => renB (idx L) (getM M i) | none => .dead
  | [], j => by simp [pick, getM_nil]
  | i :: r, 0 => rfl
  | i :: r, j + 1 => by simp only [pick, getM, List.getElem?_cons_succ]; exact getM_pick L M r j
def Env.pull (E : Env) (L : List Nat) : Env :=
  ⟨fun j => match L[j]? with | some i => E.lv i | none => false, fun j => match L[j]? with | some i => E.ι i | none => none, fun j => match L[j]? with | some i => E.κ i | none => 0, fun j => match L[j]? with | some i => E.η i | none => 0⟩
theorem ACall.compact {P : Program} {f : FuncId} {args : List AV} {r : AV} {M : List Blk} {mv : List Nat} {L : List Nat} (h : ACall P f args [] r M mv) (hL : nodup L = true) : ACall P f args [] (ren (idx L) r) (pick L M L) [] := by
  intro H E w vals hC hargs
  refine (h H E w vals hC hargs).mono ?_
  rintro e w1 ⟨v, H1, E1, rfl, hr, hC1, hE1⟩
  have hvia : E1.via (E1.pull L) (idx L) := fun i j hij hl => by
    have := idx_ok hij
    simp [Env.pull, this, hl]
  refine ⟨v, H1, E1.pull L, rfl, Rel.ren _ hvia hr, ⟨hC1.imm, hC1.tf, fun j => ?_, fun i j b hi hj hib hjb => ?_, fun i b hi hib => ?_⟩, ⟨hE1.os, hE1.tape, hE1.output, hE1.size, hE1.keep, fun i b hi hib => ?_, hE1.hh, hE1.new, fun i hl _ => ?_⟩⟩
  · rw [getM_pick]
    cases hj : L[j]? with
    | none => simp only [Env.pull, BlkOk, hj]
    | some i =>
      simp only []
      refine (hC1.blk i).move (HH.le_refl _) hvia ?_ ?_ ?_ ?_ fun _ _ _ => rfl <;> simp [Env.pull, hj]
  · simp only [Env.pull] at hi hj hib hjb
    cases hx : L[i]? with
    | none => rw [hx] at hi; cases hi
    | some x =>
      cases hy : L[j]? with
      | none => rw [hy] at hj; cases hj
      | some y =>
        rw [hx] at hi hib; rw [hy] at hj hjb
        have := hC1.inj x y b hi hj hib hjb
        subst this
        exact nodup_ok hL i j x hx hy
  · simp only [Env.pull] at hi hib
    cases hx : L[i]? with
    | none => rw [hx] at hi; cases hi
    | some x => rw [hx] at hi hib; exact hC1.sep x b hi hib
  · simp only [Env.pull] at hi hib
    cases hx : L[i]? with
    | none => rw [hx] at hi; cases hi
    | some x => rw [hx] at hi hib; exact hE1.own x b hi hib
  · have := hC.blk i
    rw [getM_nil] at this
    rw [show E.lv i = false from this] at hl; cases hl

mutual
/-- the ids in a value -/
def idsA : AV → List Nat
  | .ptr i _ _ _ => [i]
  | .own i _ _ _ => [i]
  | .agg cs => idsL cs
  | .tup cs => idsL cs
  | .fn _ a b => idsL a ++ idsL b
  | .ifc _ a => idsA a
  | _ => []
def idsL : List AV → List Nat
  | [] => []
  | a :: l => idsA a ++ idsL l
end
def idsB : Blk → List Nat
  | .box _ cs => idsL cs
  | .lst _ _ _ _ cs => idsL cs
  | _ => []
def fresh : List Nat → List Nat → List Nat
  | seen, [] => seen
  | seen, i :: r => match mem seen i with | true => fresh seen r | false => fresh (seen ++ [i]) r
/-- the ids that are reached -/
def reach (rd : Nat → Blk) : Nat → List Nat → List Nat
  | 0, l => l
  | n + 1, l => (fun m => match Nat.beq (len m) (len l) with | true => l | false => reach rd n m) (fresh l (l.flatMap fun i => idsB (rd i)))

def wrOf : Nat → Nat → List Blk → List (Nat × Blk)
  | _, _, [] => []
  | p, s, B :: r => (p, renB (shift s) B) :: wrOf (p + 1) s r
theorem place_eq : ∀ (L M : List Blk) (p s : Nat), place M p s L = applyW (wrOf p s L) M
  | [], _, _, _ => rfl
  | B :: r, M, p, s => by simp only [place, wrOf, applyW]; exact place_eq r _ _ _
theorem ids_wrOf : ∀ (L : List Blk) (p s k : Nat), k < len L → p + k ∈ ids (wrOf p s L)
  | [], _, _, _, h => by simp [len] at h
  | B :: r, p, s, 0, _ => by simp [wrOf, ids]
  | B :: r, p, s, k + 1, h => by
    simp only [wrOf, ids, List.mem_cons]
    right
    rw [show p + (k + 1) = p + 1 + k by omega]
    exact ids_wrOf r (p + 1) s k (by simpa [len] using h)

abbrev Ans := AV × List Blk × List Nat × List Prop
/-- a call: place, function, arguments, blocks; the answer, the blocks behind it, the ids that move, what is owed -/
def IH1 := Nat → FuncId → List AV → List Blk → Option Ans
def IH1.Ok (P : Program) (ih : IH1) : Prop := ∀ p g args M r M' mv ob, ih p g args M = some (r, M', mv, ob) → Hold ob → ACall P g args M r M' mv

def only (L : List Nat) (rd : Nat → Blk) (i : Nat) : Blk := match mem L i with | true => rd i | false => .dead
def depth : Nat := 8
def allLtL : List Nat → Nat → Bool := allLt
def callE (ih : IH1) (sub : Bool) (p : Nat) (g : FuncId) (args : List AV) (nid : Nat) (rd : Nat → Blk) : Option CE :=
  match noRefL args with
  | true => (match ih p g (viewL depth (fun _ => .dead) args) [] with
    | some (r, M2, _, ob) => some ⟨ren (shift nid) r, ids (wrOf nid nid M2), wrOf nid nid M2, [], ob⟩
    | none => none)
  | false => (fun L => match sub with
    | false => (match ih p g (viewL depth (only L rd) args) [] with
      | some (r, M2, _, ob) => (match tagT r && allB M2 with
        | true => some ⟨ren (shift nid) r, L ++ ids (wrOf nid nid M2), wrOf nid nid M2, [], ob⟩
        | false => none)
      | none => none)
    | true => (match ih p g (renL (keepIn L) args) (cutF L rd 0 nid) with
      | some (r, M2, mv, ob) => (match lowDead L nid 0 M2 && allLt L nid with
        | true => some ⟨r, L ++ ids (wrS L nid M2), wrS L nid M2, inOnly L [] mv, ob⟩
        | false => none)
      | none => none)) (reach rd depth (fresh [] (idsL args)))

theorem callE_ok {P : Program} {ih : IH1} (hih : ih.Ok P) {sub : Bool} {p nid : Nat} {g : FuncId} {args : List AV} {rd : Nat → Blk} {e : CE} (h : callE ih sub p g args nid rd = some e) (ho : Hold e.ob) (hd : ∀ k, nid ≤ k → rd k = .dead)
    {M : List Blk} (hM : ∀ i ∈ e.rd, getM M i = rd i) : ACall P g args M e.r (applyW e.wr (killM e.kl M)) e.kl := by
  unfold callE at h
  split at h
  · rename_i hno
    split at h
    case h_2 => cases h
    rename_i r M2 mv ob hc
    cases h
    have hcall := hih _ _ _ _ _ _ _ _ hc ho
    simp only [killM]
    rw [← place_eq]
    exact ACall.direct hcall hno fun k hk => (hM _ (ids_wrOf M2 nid nid k hk)).trans (hd _ (by omega))
  · simp only at h
    split at h
    · split at h
      case h_2 => cases h
      rename_i r M2 mv ob hc
      split at h
      case h_2 => cases h
      rename_i ht
      cases h
      have hcall := hih _ _ _ _ _ _ _ _ hc ho
      simp only [killM]
      rw [← place_eq]
      simp only [Bool.and_eq_true] at ht
      refine ACall.borrow (fun i => ?_) hcall ht.1 (fun i => blkT_P (allB_get ht.2 i)) fun k hk => (hM _ (List.mem_append_right _ (ids_wrOf M2 nid nid k hk))).trans (hd _ (by omega))
      unfold only
      split
      · rename_i hm
        exact .inr (hM i (List.mem_append_left _ (mem_iff.1 hm))).symm
      · exact .inl rfl
    · split at h
      case h_2 => cases h
      rename_i r M2 mv ob hc
      split at h
      case h_2 => cases h
      rename_i ht
      cases h
      have hcall := hih _ _ _ _ _ _ _ _ hc ho
      simp only [Bool.and_eq_true] at ht
      refine ACall.sub (fun i hi => hM i (List.mem_append_left _ hi)) (allLt_ok ht.2) hcall ht.1 (fun j h1 h2 => ?_) inOnly_ok.2
      refine (hM j (List.mem_append_right _ ?_)).trans (hd j h1)
      unfold wrS
      rw [ids_eq, List.map_append, ← ids_eq, ← ids_eq, ids_pairs, ids_pairs, List.mem_append]
      exact .inr (mem_iff.1 (mem_upFrom.2 (by omega)))

/-- calls of known functions -/
def plainFn (P : Program) (g : FuncId) : Bool := match P.funcs[g]? with | some fn => !(fn.name == "runtime.NumGoroutine" || fn.body.isNone) | none => false
def callF (P : Program) (ih : IH1) (sub : FuncId → Bool) : CF := fun nid p o t rd =>
  match o.op with
  | .call { callee := .value fo, args, .. } => (match ev t fo with
    | .fn (.func g) first cap => (match plainFn P g with
      | true => callE ih (sub g) p g (first ++ args.toList.map (ev t) ++ cap) nid rd
      | false => none)
    | _ => none)
  | _ => none
theorem callF_ok {P : Program} {ih : IH1} (hih : ih.Ok P) {sub : FuncId → Bool} : CfOk P (callF P ih sub) := by
  intro nid p o t rd e h ho hd M hM
  unfold callF at h
  split at h
  case h_2 => cases h
  rename_i fo args ats hop
  split at h
  case h_2 => cases h
  rename_i g first cap hf
  split at h
  case h_2 => cases h
  rename_i hp
  have hcall := callE_ok hih h ho hd hM
  unfold plainFn at hp
  split at hp
  case h_2 => cases hp
  rename_i fn hg
  simp only [Bool.not_eq_true', Bool.or_eq_false_iff] at hp
  intro H E w a K Q hC hT hdf hk
  exact call_step hop hf hg hp.1 hp.2 hcall H E w a K Q hC hT hk

abbrev ER := Exit × St × List Prop
structure Hints where
  op : FuncId → Nat → Nat → Option Hint
  lp : FuncId → Nat → Option (Exit × (St → Option St))
  sub : FuncId → Bool
  ct : FuncId → List AV → List Blk → Option Ans
def noHints : Hints := ⟨fun _ _ _ => none, fun _ _ => none, fun _ => false, fun _ _ _ => none⟩
def Hints.Ok (P : Program) (ht : Hints) : Prop := ∀ g args M r M' mv ob, ht.ct g args M = some (r, M', mv, ob) → Hold ob → ACall P g args M r M' mv
theorem noHints_ok (P : Program) : noHints.Ok P := fun _ _ _ _ _ _ _ h => by cases h
def keyOf : Code → Option Nat
  | .region id _ _ => some id
  | .seq a _ => keyOf a
  | .block _ c => keyOf c
  | .loop c => keyOf c
  | _ => none

/-- the answer of a function whose code was reckoned -/
def ansOf (P : Program) (fn : Func) (fr : Bool) (e : ER) : Option Ans :=
  match e with
  | (.ret, st, ob) | (.normal, st, ob) => (match resA P st fn.results.toList with
    | some l => (match fr with
      | false => some (resV l, st.m, st.mv, ob)
      | true => (fun L => match nodup L with
        | true => some (ren (idx L) (resV l), pick L st.m L, [], ob)
        | false => none) (reach (getM st.m) depth (fresh [] (idsL l))))
    | none => none)
  | _ => none
def noBlk (M : List Blk) : Bool := match M with | [] => true | _ => false
def inl (P : Program) (ec : FuncId → Code → St → Option ER) (g : FuncId) (args : List AV) (M : List Blk) : Option Ans :=
  match P.funcs[g]? with
  | some fn => (match fn.body with
    | some c => (match ec g c ⟨initT fn.ntmps args, M, []⟩ with
      | some e => ansOf P fn (noBlk M) e
      | none => none)
    | none => none)
  | none => none
/-- the call at a place: by its contract, or by its code -/
def callAt (P : Program) (ht : Hints) (f : FuncId) (rg : Nat) (ec : FuncId → Code → St → Option ER) : IH1 := fun p g args M =>
  match ht.op f rg p with
  | some (.res r M') => some (r, M', [], [ACall P g args M r M' []])
  | _ => (match ht.ct g args M with
    | some a => some a
    | none => inl P ec g args M)

/-- rounds of a loop, one after another -/
def eloop (ec : FuncId → Code → St → Option ER) (f : FuncId) (c : Code) : Nat → St → Option ER
  | 0, _ => none
  | n + 1, st => match ec f c st with
    | some (.normal, st1, ob) => (match eloop ec f c n st1 with
      | some (x, st2, ob2) => some (x, st2, ob ++ ob2)
      | none => none)
    | r => r
def maxRounds : Nat := 65536
def estep (P : Program) (ht : Hints) (ec : FuncId → Code → St → Option ER) (f : FuncId) (c : Code) (st : St) : Option ER :=
  match c with
  | .skip => some (.normal, st, [])
  | .ret => some (.ret, st, [])
  | .exit id => some (.exit id, st, [])
  | .region id ops false => (match ops1 P (ht.op f id) (orE (callF P (callAt P ht f id ec) ht.sub) (xops P (ht.op f id))) ops ops.toList 0 st with
    | some (st', ob) => some (.normal, st', ob)
    | none => none)
  | .region id ops true => (match edraw P (ht.op f id) (orE (callF P (callAt P ht f id ec) ht.sub) (xops P (ht.op f id))) ops ops.toList 0 [] st with
    | some (ds, st') => (match regOk st ds with | true => some (.normal, st', obsOf ds) | false => none)
    | none => none)
  | .seq a b => (match ec f a st with
    | some (.normal, st1, ob) => (match ec f b st1 with
      | some (x, st2, ob2) => some (x, st2, ob ++ ob2)
      | none => none)
    | r => r)
  | .cond c a b => (match ev (get st.t) c with
    | .s (.bool true) => ec f a st
    | .s (.bool false) => ec f b st
    | _ => none)
  | .block id c => (match ec f c st with
    | some (.exit j, st', ob) => (match Nat.beq j id with
      | true => some (.normal, st', ob)
      | false => some (.exit j, st', ob))
    | r => r)
  | .loop c => (match (match keyOf c with | some k => ht.lp f k | none => none) with
    | some (x, g) => (match g st with
      | some st' => some (x, st', [ACode P (.loop c) st x st'])
      | none => none)
    | none => eloop ec f c maxRounds st)
  | _ => none
def ecode (P : Program) (ht : Hints) (n : Nat) : FuncId → Code → St → Option ER :=
  Nat.rec (fun _ _ _ => none) (fun _ ih => estep P ht ih) n

def EcOk (P : Program) (ec : FuncId → Code → St → Option ER) : Prop := ∀ f c st x st' ob, ec f c st = some (x, st', ob) → Hold ob → ACode P c st x st'

theorem eloop_ok {P : Program} {ec : FuncId → Code → St → Option ER} (hec : EcOk P ec) {f : FuncId} {c : Code} : ∀ {n : Nat} {st st' : St} {x : Exit} {ob : List Prop}, eloop ec f c n st = some (x, st', ob) → Hold ob → ∃ m, ARounds P c m st x st'
  | 0, _, _, _, _, h, _ => by cases h
  | n + 1, st, st', x, ob, h, ho => by
    simp only [eloop] at h
    split at h
    · rename_i h1
      split at h
      case h_2 => cases h
      rename_i h2
      cases h
      obtain ⟨o1, o2⟩ := ho.append
      obtain ⟨m, hm⟩ := eloop_ok hec h2 o2
      exact ⟨m + 1, ARounds.next (hec _ _ _ _ _ _ h1 o1) hm⟩
    · rename_i hn
      refine ⟨1, ARounds.out (fun e => ?_) (hec _ _ _ _ _ _ h ho)⟩
      subst e
      exact hn _ _ h
theorem ansOf_ok {P : Program} {f : FuncId} {fn : Func} {c : Code} {args : List AV} {M0 : List Blk} {e : ER} {r : AV} {M : List Blk} {mv : List Nat} {ob : List Prop} (hf : P.funcs[f]? = some fn) (hb : fn.body = some c)
    (h : Hold e.2.2 → ACode P c ⟨initT fn.ntmps args, M0, []⟩ e.1 e.2.1) (ha : ansOf P fn (noBlk M0) e = some (r, M, mv, ob)) (ho : Hold ob) : ACall P f args M0 r M mv := by
  unfold ansOf at ha
  split at ha
  case h_3 => cases ha
  all_goals
    split at ha
    case h_2 => cases ha
    rename_i l hl
    split at ha
    · cases ha
      first
        | exact ACall.of_code hf hb (.inl rfl) (h ho) hl
        | exact ACall.of_code hf hb (.inr rfl) (h ho) hl
    · rename_i hM
      have : M0 = [] := by cases M0 with | nil => rfl | cons _ _ => simp [noBlk] at hM
      subst this
      simp only at ha
      split at ha
      case h_2 => cases ha
      rename_i hn
      cases ha
      first
        | exact ACall.compact (ACall.of_code hf hb (.inl rfl) (h ho) hl) hn
        | exact ACall.compact (ACall.of_code hf hb (.inr rfl) (h ho) hl) hn
theorem inl_ok {P : Program} {ec : FuncId → Code → St → Option ER} (hec : EcOk P ec) {g : FuncId} {args : List AV} {M0 : List Blk} {r : AV} {M : List Blk} {mv : List Nat} {ob : List Prop} (h : inl P ec g args M0 = some (r, M, mv, ob)) (ho : Hold ob) : ACall P g args M0 r M mv := by
  unfold inl at h
  split at h
  case h_2 => cases h
  rename_i fn hf
  split at h
  case h_2 => cases h
  rename_i c hb
  split at h
  case h_2 => cases h
  rename_i e he
  obtain ⟨x, st', ob'⟩ := e
  exact ansOf_ok hf hb (hec _ _ _ _ _ _ he) h ho
theorem callAt_ok {P : Program} {ht : Hints} (hct : ht.Ok P) {f : FuncId} {rg : Nat} {ec : FuncId → Code → St → Option ER} (hec : EcOk P ec) : (callAt P ht f rg ec).Ok P := by
  intro p g args M r M' mv ob h ho
  unfold callAt at h
  split at h
  · cases h
    exact ho _ (List.mem_singleton.2 rfl)
  · split at h
    · rename_i hc
      cases h
      exact hct _ _ _ _ _ _ _ hc ho
    · exact inl_ok hec h ho
theorem estep_ok {P : Program} (hm : P.follows .mixedOrders = true) {ht : Hints} (hct : ht.Ok P) {ec : FuncId → Code → St → Option ER} (hec : EcOk P ec) : EcOk P (estep P ht ec) := by
  intro f c st x st' ob h ho
  unfold estep at h
  split at h
  · cases h; exact ACode.skip
  · cases h; exact ACode.ret
  · cases h; exact ACode.exit
  · split at h
    case h_2 => cases h
    rename_i h1
    cases h
    exact ACode.straight (orE_ok (callF_ok (callAt_ok hct hec)) (xops_ok P _)) h1 ho
  · split at h
    case h_2 => cases h
    rename_i h1
    split at h
    case h_2 => cases h
    rename_i hreg
    cases h
    exact ACode.draw hm (orE_ok (callF_ok (callAt_ok hct hec)) (xops_ok P _)) h1 hreg ho
  · split at h
    · rename_i h1
      split at h
      case h_2 => cases h
      rename_i h2
      cases h
      obtain ⟨o1, o2⟩ := ho.append
      exact (hec _ _ _ _ _ _ h1 o1).seq (hec _ _ _ _ _ _ h2 o2)
    · rename_i hn
      have h1 := hec _ _ _ _ _ _ h ho
      refine ACode.seq_out (fun e => ?_) h1
      subst e
      exact hn _ _ h
  · split at h
    · rename_i hc
      exact ACode.cond hc (hec _ _ _ _ _ _ h ho)
    · rename_i hc
      exact ACode.cond hc (hec _ _ _ _ _ _ h ho)
    · cases h
  · rename_i id c
    split at h
    · rename_i j st1 ob1 h1
      split at h
      · rename_i hb
        cases h
        have := Nat.eq_of_beq_eq_true hb
        subst this
        exact ACode.block_exit (hec _ _ _ _ _ _ h1 ho)
      · rename_i hb
        cases h
        refine ACode.block (hec _ _ _ _ _ _ h1 ho) fun e => ?_
        cases e
        rw [Nat.beq_refl] at hb; cases hb
    · rename_i hn
      refine ACode.block (hec _ _ _ _ _ _ h ho) fun e => ?_
      subst e
      exact hn _ _ _ h
  · split at h
    · split at h
      case h_2 => cases h
      cases h
      exact ho _ (List.mem_singleton.2 rfl)
    · obtain ⟨m, hm⟩ := eloop_ok hec h ho
      exact ACode.loop hm
  · cases h
theorem ecode_ok {P : Program} (hm : P.follows .mixedOrders = true) {ht : Hints} (hct : ht.Ok P) : ∀ n, EcOk P (ecode P ht n)
  | 0 => fun _ _ _ _ _ _ h => by cases h
  | n + 1 => estep_ok hm hct (ecode_ok hm hct n)
end Go.Ax
