import Derived.Stop.Asserts
import Derived.Laws.Externs
import Derived.Laws.CopyRow
import Derived.Test.YtckklclehofddaaDoorE7
import Derived.Test.YtckklclehofddaaDoorE8
set_option linter.unusedVariables false
set_option linter.unusedSimpArgs false
set_option linter.unusedSectionVars false
/-! Maps that are deleted from and ranged over; assertions; Go's own handles of types. -/
namespace Go.Ax
open Go
variable [Inhabited Gl0]
open Go.MapKept (IsKey run_checkKey run_findKey heap_set)

/-! assertions -/
def taM (P : Program) (o : Oper) (t : Nat → AV) : Option CE :=
  match o.op with
  | .typeAssert x _ asserted ok => (match ev t x with
    | .ifc ty v => (match P.underlying asserted with
      | some (.interface want) => (match P.info? ty with
        | some i => (match (lacking want i.methods).isEmpty with
          | true => some ⟨tupOk ok (.ifc ty v) (.s (.bool true)), [], [], [], []⟩
          | false => (match ok, zeroAV P asserted with
            | true, some z => some ⟨tupOk true z (.s (.bool false)), [], [], [], []⟩
            | _, _ => none))
        | none => none)
      | some d => (match Nat.beq ty asserted with
        | true => some ⟨tupOk ok v (.s (.bool true)), [], [], [], []⟩
        | false => (match ok, zeroAV P asserted with
            | true, some z => some ⟨tupOk true z (.s (.bool false)), [], [], [], []⟩
            | _, _ => none))
      | none => none)
    | .s .nilIface => (match ok, P.underlying asserted, zeroAV P asserted with
      | true, some _, some z => some ⟨tupOk true z (.s (.bool false)), [], [], [], []⟩
      | _, _, _ => none)
    | _ => none)
  | _ => none
theorem taM_ok {P : Program} {rd : Nat → Blk} {o : Oper} {t : Nat → AV} {e : CE} (h : taM P o t = some e) : CE.Good P o t rd e := by
  unfold taM at h
  split at h
  case h_2 => cases h
  rename_i x xt asserted ok hop
  have go : ∀ {r : AV}, (∀ H E (w : World) (u : Value), Rel (ev t x) H E u → ∃ v, (Instr.typeAssert u xt asserted ok).run P w = .ok v w ∧ Rel r H E v) → CE.Good P o t rd ⟨r, [], [], [], []⟩ := by
    intro r hr M hM
    refine runs_stepZ fun H E w a hC hT => ?_
    obtain ⟨v, q1, q2⟩ := hr H E w (a.eval x) (rel_ev hT x)
    exact ⟨v, w, H, E, by simp [execOp, hop, q1, Result.andThen], q2, hC, Evol.refl _ _ _ _⟩
  split at h
  · rename_i ty v hx
    rw [hx] at go
    split at h
    · rename_i want hu
      split at h
      case h_2 => cases h
      rename_i i hi
      split at h
      · rename_i hl
        cases h
        refine go fun H E w u hr => ?_
        obtain ⟨x', rfl, hx'⟩ := hr
        have hl : lacking want i.methods = [] := by simpa using hl
        cases ok with
        | true => exact ⟨_, run_typeAssert_has hu hi hl, ⟨#[.iface ty x', .bool true], rfl, _, [.bool true], rfl, ⟨x', rfl, hx'⟩, .bool true, [], rfl, ⟨rfl, rfl⟩, rfl⟩⟩
        | false => exact ⟨.iface ty x', by simp [Instr.typeAssert, run_underlying hu, typeInfo, hi, missingMethod_none hl, Result.andThen], ⟨x', rfl, hx'⟩⟩
      · rename_i hl
        split at h
        case h_2 => cases h
        rename_i z hz
        cases h
        refine go fun H E w u hr => ?_
        obtain ⟨x', rfl, hx'⟩ := hr
        have hl : lacking want i.methods ≠ [] := by simpa using hl
        obtain ⟨m, hm⟩ := missingMethod_some hl
        obtain ⟨zv, hz1, hz2⟩ := zeroAV_ok H E w hz
        exact ⟨.tuple #[zv, .bool false], by simp [Instr.typeAssert, run_underlying hu, typeInfo, hi, hm, hz1, Result.andThen], ⟨#[zv, .bool false], rfl, zv, [.bool false], rfl, hz2, .bool false, [], rfl, ⟨rfl, rfl⟩, rfl⟩⟩
    · rename_i d hu hd
      split at h
      · rename_i ht
        have ht := Nat.eq_of_beq_eq_true ht
        subst ht
        cases h
        refine go fun H E w u hr => ?_
        obtain ⟨x', rfl, hx'⟩ := hr
        have hne : ∀ ms, d ≠ .interface ms := fun ms e => hu ms e
        cases ok with
        | true => exact ⟨.tuple #[x', .bool true], by cases d <;> first | exact absurd rfl (hne _) | simp [Instr.typeAssert, run_underlying hd, Result.andThen], ⟨#[x', .bool true], rfl, _, [.bool true], rfl, hx', .bool true, [], rfl, ⟨rfl, rfl⟩, rfl⟩⟩
        | false => exact ⟨x', by cases d <;> first | exact absurd rfl (hne _) | simp [Instr.typeAssert, run_underlying hd, Result.andThen], hx'⟩
      · rename_i ht
        have ht : ty ≠ asserted := fun e => by subst e; simp at ht
        split at h
        case h_2 => cases h
        rename_i z hz
        cases h
        refine go fun H E w u hr => ?_
        obtain ⟨x', rfl, hx'⟩ := hr
        have hne : ∀ ms, d ≠ .interface ms := fun ms e => hu ms e
        obtain ⟨zv, hz1, hz2⟩ := zeroAV_ok H E w hz
        refine ⟨.tuple #[zv, .bool false], ?_, ⟨#[zv, .bool false], rfl, zv, [.bool false], rfl, hz2, .bool false, [], rfl, ⟨rfl, rfl⟩, rfl⟩⟩
        cases d <;> first | exact absurd rfl (hne _) | simp [Instr.typeAssert, run_underlying hd, ht, hz1, Result.andThen]
    · cases h
  · rename_i hx
    rw [hx] at go
    split at h
    case h_2 => cases h
    rename_i d z hd hz
    cases h
    refine go fun H E w u hr => ?_
    have hu : u = .nilIface := hr.1
    subst hu
    obtain ⟨zv, hz1, hz2⟩ := zeroAV_ok H E w hz
    refine ⟨.tuple #[zv, .bool false], ?_, ⟨#[zv, .bool false], rfl, zv, [.bool false], rfl, hz2, .bool false, [], rfl, ⟨rfl, rfl⟩, rfl⟩⟩
    cases d <;> simp [Instr.typeAssert, run_underlying hd, hz1, Result.andThen]
  · cases h

/-! delete -/
def delM (P : Program) (rd : Nat → Blk) (o : Oper) (t : Nat → AV) : Option CE :=
  match o.op with
  | .call { callee := .builtin .delete, args, argTypes } => (match args.toList, argTypes.toList with
    | [m, k], [mt, _] => (match keyD P mt, scV (ev t k), ev t m with
      | some (d, _, _), some kv, .mref i => (match keyIs d kv, rd i with
        | true, .mp es ck => (match allKeys d es && isS (ev t k) with
          | true => some ⟨.tup [], [i], [(i, .mp (match mfindE kv es 0 with | some (j, _) => delEs es j | none => es) ck)], [], []⟩
          | false => none)
        | _, _ => none)
      | _, _, _ => none)
    | _, _ => none)
  | _ => none
theorem del_ok {H : HH} {E : Env} : ∀ {es : List (Value × AV × Nat)} {l : List MapEntry} (j : Nat), entsM l = ents es → RelL (vals es) H E (valsM l) →
    entsM (l.eraseIdx j) = ents (delEs es j) ∧ RelL (vals (delEs es j)) H E (valsM (l.eraseIdx j))
  | [], l, j, h, _ => by
    have : l = [] := by simpa using h
    subst this
    exact ⟨rfl, rfl⟩
  | x :: r, l, j, h, hr => by
    cases l with
    | nil => simp at h
    | cons y l =>
      simp only [entsM, ents, List.map_cons, List.cons.injEq, Prod.mk.injEq] at h
      obtain ⟨u, q, hu, h1, h2⟩ := hr
      simp only [valsM, List.map_cons, List.cons.injEq] at hu
      obtain ⟨rfl, rfl⟩ := hu
      cases j with
      | zero => exact ⟨h.2, h2⟩
      | succ j =>
        obtain ⟨g1, g2⟩ := del_ok j h.2 h2
        refine ⟨?_, ⟨_, _, rfl, h1, g2⟩⟩
        simp only [List.eraseIdx_cons_succ, entsM, ents, delEs, List.map_cons, h.1.1, h.1.2]
        exact congrArg (_ :: ·) g1
theorem delM_ok {P : Program} {rd : Nat → Blk} {o : Oper} {t : Nat → AV} {e : CE} (h : delM P rd o t = some e) : CE.Good P o t rd e := by
  unfold delM at h
  split at h
  case h_2 => cases h
  rename_i args ats hop
  split at h
  case h_2 => cases h
  rename_i m k mt kt' hm hk
  have e1 : args = #[m, k] := Array.ext' hm
  have e2 : ats = #[mt, kt'] := Array.ext' hk
  subst e1; subst e2
  split at h
  case h_2 => cases h
  rename_i d kt et kv i hkd hkv hx
  obtain ⟨hm, hk⟩ := keyD_ok hkd
  split at h
  case h_2 => cases h
  rename_i es ck hkis hg
  have hkey := keyIs_ok hkis
  split at h
  case h_2 => cases h
  rename_i hall
  simp only [Bool.and_eq_true] at hall
  cases h
  intro M hM
  refine runs_stepZ fun H E w a hC hT => ?_
  have h1 := rel_ev hT m
  rw [hx] at h1
  obtain ⟨hl, b, hb, hv⟩ := h1
  have h2 := scV_ok hkv (rel_ev hT k)
  have hB := hC.blk i
  rw [hM i (by simp), hg] at hB
  obtain ⟨_, b', ms, g1, g2, g3, g4⟩ := hB
  rw [hb] at g1; cases g1
  rcases find_ok hkey 0 g3 g4 hall.1 with ⟨q1, q2⟩ | ⟨j, e', a', q1, q2, q3, q4, q5⟩
  · obtain ⟨hc, hev⟩ := hC.upd hl hb (upd_setO g2) (B := .mp es ck) ⟨hl, b, ms, hb, (heap_set g2).1, g3, g4⟩
    refine ⟨.tuple #[], _, H, E, ?_, ⟨#[], rfl, rfl⟩, ?_, hev⟩
    · simp [execOp, hop, resolve, invoke, builtin, hv, h2, Builtin.delete_, run_underlying hm, Go.MapKept.run_getObj_map g2, run_checkKey hk hkey, run_findKey hk q2, Go.MapKept.run_setObj_map _ g2, Result.andThen, World.setO]
    · simp only [killM, applyW]
      rw [q1]
      exact hc
  · simp only [Nat.zero_add] at q1 q2
    obtain ⟨m1, m2⟩ := del_ok j g3 g4
    have hlist : (ms.eraseIdxIfInBounds j).toList = ms.toList.eraseIdx j := by
      unfold Array.eraseIdxIfInBounds
      split
      · simp
      · rename_i hj
        rw [List.eraseIdx_of_length_le]
        simpa using hj
    obtain ⟨hc, hev⟩ := hC.upd hl hb (upd_setO g2) (B := .mp (delEs es j) ck) ⟨hl, b, ms.eraseIdxIfInBounds j, hb, (heap_set g2).1, by rw [hlist]; exact m1, by rw [hlist]; exact m2⟩
    refine ⟨.tuple #[], _, H, E, ?_, ⟨#[], rfl, rfl⟩, ?_, hev⟩
    · simp [execOp, hop, resolve, invoke, builtin, hv, h2, Builtin.delete_, run_underlying hm, Go.MapKept.run_getObj_map g2, run_checkKey hk hkey, run_findKey hk q2, Go.MapKept.run_setObj_map _ g2, Result.andThen, World.setO]
    · simp only [killM, applyW]
      rw [q1]
      exact hc

/-! range -/
def rangeM (P : Program) (rd : Nat → Blk) (nid : Nat) (o : Oper) (t : Nat → AV) : Option CE :=
  match o.op with
  | .range ty x => (match P.underlying ty, ev t x with
    | some (.map _ _), .mref i => (match rd i with
      | .mp _ ck => some ⟨.ptr nid 0 1 0, [i, nid], [(nid, .mit i ck [] ck)], [], []⟩
      | _ => none)
    | _, _ => none)
  | _ => none
theorem rangeM_ok {P : Program} {rd : Nat → Blk} {nid : Nat} {o : Oper} {t : Nat → AV} {e : CE} (hd : ∀ k, nid ≤ k → rd k = .dead) (h : rangeM P rd nid o t = some e) : CE.Good P o t rd e := by
  unfold rangeM at h
  split at h
  case h_2 => cases h
  rename_i ty x hop
  split at h
  case h_2 => cases h
  rename_i kt et i hu hx
  split at h
  case h_2 => cases h
  rename_i es ck hg
  cases h
  intro M hM
  refine runs_stepZ fun H E w a hC hT => ?_
  have h1 := rel_ev hT x
  rw [hx] at h1
  obtain ⟨hl, b, hb, hv⟩ := h1
  have hB := hC.blk i
  rw [hM i (by simp), hg] at hB
  obtain ⟨_, b', ms, g1, g2, g3, g4⟩ := hB
  rw [hb] at g1; cases g1
  have hdn : getM M nid = .dead := (hM nid (by simp)).trans (hd nid (Nat.le_refl _))
  have hdl : E.lv nid = false := by have := hC.blk nid; rw [hdn] at this; exact this
  have hne : i ≠ nid := fun e => by subst e; rw [hl] at hdl; cases hdl
  obtain ⟨s1, s2, _⟩ := E.set_same nid (some w.heap.size) 0 0
  obtain ⟨o1, o2, _⟩ := E.set_ne nid i (some w.heap.size) 0 0 hne
  obtain ⟨hc, hev⟩ := hC.new (w' := w.alloc (.mapIter (some b) ck #[] ck)) (i := nid) (κ := 0) (η := 0) (bo := some w.heap.size) (B := .mit i ck [] ck) hdn rfl rfl rfl (by simp) (fun b hb => Go.RowKit.Below.heap_alloc w _ b hb) (fun b hb => by cases hb; exact Nat.le_refl _)
    ⟨s1, o1.trans hl, w.heap.size, b, s2, o2.trans hb, heap_alloc_new w _⟩
  refine ⟨.pointer (some ⟨w.heap.size, 0, none⟩), _, H, _, ?_, ⟨s1, w.heap.size, s2, by simp⟩, hc, hev⟩
  simp [execOp, hop, hv, Instr.range, run_underlying hu, Go.MapKept.run_getObj_map g2, Result.andThen]

def bornIn (seen : List Nat) (n : Nat) : Bool := mem seen n
def leftE (seen : List Nat) : List (Value × AV × Nat) → List (Value × AV × Nat)
  | [] => []
  | e :: r => match mem seen e.2.2 with | true => leftE seen r | false => e :: leftE seen r
def splitN (b : Bool) (since : Nat) : List (Value × AV × Nat) → List (Value × AV × Nat)
  | [] => []
  | e :: r => match Nat.blt e.2.2 since == b with | true => e :: splitN b since r | false => splitN b since r
def allGe (last : Nat) : List (Value × AV × Nat) → Bool
  | [] => true
  | e :: r => Nat.ble last e.2.2 && allGe last r
def isE {α : Type} : List α → Bool
  | [] => true
  | _ => false
/-- the next entry, where there is no choice -/
def nextM (rd : Nat → Blk) (o : Oper) (t : Nat → AV) : Option CE :=
  match o.op with
  | .next it false => (match ev t it with
    | .ptr j 0 _ 0 => (match rd j with
      | .mit m since seen last => (match rd m with
        | .mp es ck => (match isE seen || isE es || !allGe last es with
          | true => (match splitN true since (leftE seen es), splitN false since (leftE seen es) with
            | [], [] => some ⟨.tup [.s (.bool false)], [j, m], [], [], []⟩
            | [e], [] => some ⟨.tup [.s (.bool true), toAV e.1, e.2.1], [j, m], [(j, .mit m since (seen ++ [e.2.2]) ck)], [], []⟩
            | _, _ => none)
          | false => none)
        | _ => none)
      | _ => none)
    | _ => none)
  | _ => none
theorem filt_ok {H : HH} {E : Env} {q : Nat → Bool} : ∀ {es : List (Value × AV × Nat)} {l : List MapEntry}, entsM l = ents es → RelL (vals es) H E (valsM l) →
    entsM (l.filter fun e => q e.born) = ents (es.filter fun e => q e.2.2) ∧ RelL (vals (es.filter fun e => q e.2.2)) H E (valsM (l.filter fun e => q e.born))
  | [], l, h, _ => by
    have : l = [] := by simpa using h
    subst this
    exact ⟨rfl, rfl⟩
  | x :: r, l, h, hr => by
    cases l with
    | nil => simp at h
    | cons y l =>
      simp only [entsM, ents, List.map_cons, List.cons.injEq, Prod.mk.injEq] at h
      obtain ⟨u, p, hu, h1, h2⟩ := hr
      simp only [valsM, List.map_cons, List.cons.injEq] at hu
      obtain ⟨rfl, rfl⟩ := hu
      obtain ⟨g1, g2⟩ := filt_ok (q := q) h.2 h2
      simp only [List.filter_cons, h.1.2]
      cases q x.2.2 with
      | false => exact ⟨g1, g2⟩
      | true =>
        refine ⟨?_, ⟨_, _, rfl, h1, g2⟩⟩
        simp only [entsM, ents, if_true, List.map_cons, h.1.1, h.1.2]
        exact congrArg (_ :: ·) g1
theorem leftE_eq (seen : List Nat) : ∀ es, leftE seen es = es.filter fun e => !mem seen e.2.2
  | [] => rfl
  | e :: r => by
    simp only [leftE, List.filter_cons, leftE_eq seen r]
    cases mem seen e.2.2 <;> rfl
theorem splitN_eq (b : Bool) (since : Nat) : ∀ es, splitN b since es = es.filter fun e => Nat.blt e.2.2 since == b
  | [] => rfl
  | e :: r => by
    simp only [splitN, List.filter_cons, splitN_eq b since r]
    cases (Nat.blt e.2.2 since == b) <;> rfl
theorem allGe_eq (last : Nat) : ∀ es, allGe last es = (ents es).all fun e => decide (e.2 ≥ last)
  | [] => rfl
  | e :: r => by
    simp only [allGe, allGe_eq last r, ents, List.map_cons, List.all_cons]
    congr 1
    rw [Bool.eq_iff_iff]
    simp [Nat.ble_eq]
theorem mem_contains (seen : List Nat) (n : Nat) : seen.toArray.contains n = mem seen n := by
  rw [Bool.eq_iff_iff]
  simp [mem_iff]
theorem run_getObj_iter {P : Program} {w : World} {r : Nat} {m : Option Nat} {s : Nat} {a : Array Nat} {l : Nat} (hb : w.heap[r]? = some (.mapIter m s a l)) : (getObj r).run P w = .ok (.mapIter m s a l) w := by
  simp [getObj, Sem.run, hb]
theorem run_setObj_iter {P : Program} {w : World} {r : Nat} {m : Option Nat} {s : Nat} {a : Array Nat} {l : Nat} (o : Obj) (hb : w.heap[r]? = some (.mapIter m s a l)) : (setObj r o).run P w = .ok () (World.setO w r o) := by
  simp [setObj, Sem.run, hb, World.setO]
theorem nextM_ok {P : Program} {rd : Nat → Blk} {o : Oper} {t : Nat → AV} {e : CE} (h : nextM rd o t = some e) : CE.Good P o t rd e := by
  unfold nextM at h
  split at h
  case h_2 => cases h
  rename_i it hop
  split at h
  case h_2 => cases h
  rename_i j sz hx
  split at h
  case h_2 => cases h
  rename_i m since seen last hj
  split at h
  case h_2 => cases h
  rename_i es ck hm
  split at h
  case h_2 => cases h
  rename_i hok
  have key : ∀ (H : HH) (E : Env) (w : World) (M : List Blk) (a : Act), Conc H E w M → RelT t H E a → getM M j = rd j → getM M m = rd m → ∃ b bm ms, E.lv j = true ∧ E.lv m = true ∧ E.ι j = some b ∧ E.ι m = some bm ∧ w.heap[b]? = some (.mapIter (some bm) since seen.toArray last) ∧ w.heap[bm]? = some (.map ms ck) ∧ a.eval it = .pointer (some ⟨b, 0, none⟩) ∧
      (!seen.toArray.isEmpty && !ms.isEmpty && ms.all (fun e => decide (e.born ≥ last))) = false ∧
      entsM ((ms.filter fun e => !seen.toArray.contains e.born).filter (fun e => decide (e.born < since))).toList = ents (splitN true since (leftE seen es)) ∧
      RelL (vals (splitN true since (leftE seen es))) H E (valsM ((ms.filter fun e => !seen.toArray.contains e.born).filter (fun e => decide (e.born < since))).toList) ∧
      entsM ((ms.filter fun e => !seen.toArray.contains e.born).filter (fun e => decide (e.born ≥ since))).toList = ents (splitN false since (leftE seen es)) := by
    intro H E w M a hC hT hMj hMm
    have h1 := rel_ev hT it
    rw [hx] at h1
    obtain ⟨hl, b, hb, hv⟩ := h1
    have hB := hC.blk j
    rw [hMj, hj] at hB
    obtain ⟨_, hlm, b', bm, g1, g2, g3⟩ := hB
    rw [hb] at g1; cases g1
    have hB2 := hC.blk m
    rw [hMm, hm] at hB2
    obtain ⟨_, bm', ms, k1, k2, k3, k4⟩ := hB2
    rw [g2] at k1; cases k1
    obtain ⟨f1, f2⟩ := filt_ok (q := fun n => !mem seen n) k3 k4
    obtain ⟨f3, f4⟩ := filt_ok (q := fun n => Nat.blt n since == true) f1 f2
    obtain ⟨f5, _⟩ := filt_ok (q := fun n => Nat.blt n since == false) f1 f2
    have c1 : (ms.filter fun e => !seen.toArray.contains e.born).toList = ms.toList.filter fun e => !mem seen e.born := by
      rw [Array.toList_filter]
      congr 1
      funext e
      rw [mem_contains]
    have c2 : (fun e : MapEntry => decide (e.born < since)) = fun e => Nat.blt e.born since == true := by
      funext e
      rw [Bool.eq_iff_iff]
      simp [Nat.blt_eq]
    have c3 : (fun e : MapEntry => decide (e.born ≥ since)) = fun e => Nat.blt e.born since == false := by
      funext e
      have : Nat.blt e.born since = decide (e.born < since) := by rw [Bool.eq_iff_iff]; simp [Nat.blt_eq]
      rw [this]
      by_cases h : e.born < since
      · simp [h]
      · simp [h, Nat.le_of_not_lt h]
    refine ⟨b, bm, ms, hl, hlm, hb, g2, g3, k2, by simpa using hv, ?_, ?_, ?_, ?_⟩
    · have e1 : seen.toArray.isEmpty = isE seen := by cases seen <;> rfl
      have e2 : ms.isEmpty = isE es := by
        have : ms.toList.isEmpty = es.isEmpty := by
          have := congrArg List.isEmpty k3
          simpa using this
        rw [← Array.isEmpty_toList, this]
        cases es <;> rfl
      have e3 : (ms.all fun e => decide (e.born ≥ last)) = allGe last es := by
        have k3' : ents es = entsM ms.toList := k3.symm
        rw [allGe_eq, k3', ← Array.all_toList]
        simp only [List.all_map]
        rfl
      rw [e1, e2, e3]
      revert hok
      generalize isE seen = x
      generalize isE es = y
      generalize allGe last es = z
      cases x <;> cases y <;> cases z <;> simp
    · rw [Array.toList_filter, c1, c2, splitN_eq, leftE_eq]; exact f3
    · rw [Array.toList_filter, c1, c2, splitN_eq, leftE_eq]; exact f4
    · rw [Array.toList_filter, c1, c3, splitN_eq, leftE_eq]; exact f5
  split at h
  · rename_i ho hn
    cases h
    intro M hM
    refine runs_stepZ fun H E w a hC hT => ?_
    obtain ⟨b, bm, ms, q1, q2, q3, q4, q5, q6, q7, q8, q9, q10, q11⟩ := key H E w M a hC hT (hM j (by simp)) (hM m (by simp))
    rw [ho] at q9
    rw [hn] at q11
    have r1 : (ms.filter fun e => !seen.toArray.contains e.born).filter (fun e => decide (e.born < since)) = #[] := Array.ext' (by simpa using q9)
    have r2 : (ms.filter fun e => !seen.toArray.contains e.born).filter (fun e => decide (e.born ≥ since)) = #[] := Array.ext' (by simpa using q11)
    refine ⟨.tuple #[.bool false], w, H, E, ?_, ⟨#[.bool false], rfl, _, [], rfl, ⟨rfl, rfl⟩, rfl⟩, hC, Evol.refl _ _ _ _⟩
    have := Instr.next
    simp only [execOp, hop, q7, Instr.next, Sem.run_bind, run_getObj_iter q5, Go.MapKept.run_getObj_map q6, Result.andThen, q8, r1, r2]
    simp [Question.forced, Result.andThen]
  · rename_i en ho hn
    cases h
    intro M hM
    refine runs_stepZ fun H E w a hC hT => ?_
    obtain ⟨b, bm, ms, q1, q2, q3, q4, q5, q6, q7, q8, q9, q10, q11⟩ := key H E w M a hC hT (hM j (by simp)) (hM m (by simp))
    rw [ho] at q9 q10
    rw [hn] at q11
    obtain ⟨u, r, hu, h1, h2⟩ := q10
    cases h2
    generalize hF : (ms.filter fun e => !seen.toArray.contains e.born).filter (fun e => decide (e.born < since)) = F at q9 hu
    have r2 : (ms.filter fun e => !seen.toArray.contains e.born).filter (fun e => decide (e.born ≥ since)) = #[] := Array.ext' (by simpa using q11)
    obtain ⟨x, hFx⟩ : ∃ x, F = #[x] := by
      obtain ⟨L⟩ := F
      cases L with
      | nil => simp at hu
      | cons x L =>
        cases L with
        | nil => exact ⟨x, rfl⟩
        | cons y L => simp at hu
    subst hFx
    simp only [entsM, ents, List.map_cons, List.map_nil, List.cons.injEq, Prod.mk.injEq] at q9
    simp only [valsM, List.map_cons, List.map_nil, List.cons.injEq] at hu
    obtain ⟨⟨w1, w2⟩, _⟩ := q9
    obtain ⟨rfl, _⟩ := hu
    obtain ⟨hc, hev⟩ := hC.upd q1 q3 (upd_setO q5) (o := .mapIter (some bm) since (seen ++ [en.2.2]).toArray ck) (B := .mit m since (seen ++ [en.2.2]) ck) ⟨q1, q2, b, bm, q3, q4, (heap_set q5).1⟩
    refine ⟨.tuple #[.bool true, x.key, x.val], _, H, E, ?_, ⟨#[.bool true, x.key, x.val], rfl, _, _, rfl, ⟨rfl, rfl⟩, _, _, rfl, by rw [w1]; exact rel_toAV _ H E, _, _, rfl, h1, rfl⟩, hc, hev⟩
    simp only [execOp, hop, q7, Instr.next, Sem.run_bind, run_getObj_iter q5, Go.MapKept.run_getObj_map q6, Result.andThen, q8, hF, r2]
    have hpush : seen.toArray.push x.born = (seen ++ [en.2.2]).toArray := by rw [w2]; simp
    simp [Question.forced, Result.andThen, run_setObj_iter _ q5, w2]
  · cases h

/-- the entry that was stepped to -/
def entryM (rd : Nat → Blk) (o : Oper) (t : Nat → AV) : Option CE :=
  match o.op with
  | .entry it => (match ev t it with
    | .ptr j 0 _ 0 => (match rd j with
      | .mit m _ seen last => (match rd m with
        | .mp es ck => (match Nat.beq ck last, seen.getLast? with
          | true, some n => (match es.filter fun e => e.2.2 == n with
            | e :: _ => some ⟨.tup [toAV e.1, e.2.1], [j, m], [], [], []⟩
            | [] => none)
          | _, _ => none)
        | _ => none)
      | _ => none)
    | _ => none)
  | _ => none
theorem entryM_ok {P : Program} {rd : Nat → Blk} {o : Oper} {t : Nat → AV} {e : CE} (h : entryM rd o t = some e) : CE.Good P o t rd e := by
  unfold entryM at h
  split at h
  case h_2 => cases h
  rename_i it hop
  split at h
  case h_2 => cases h
  rename_i j sz hx
  split at h
  case h_2 => cases h
  rename_i m since seen last hj
  split at h
  case h_2 => cases h
  rename_i es ck hm
  split at h
  case h_2 => cases h
  rename_i n hck hs
  split at h
  case h_2 => cases h
  rename_i en er hf
  cases h
  have hck := Nat.eq_of_beq_eq_true hck
  subst hck
  intro M hM
  refine runs_stepZ fun H E w a hC hT => ?_
  have h1 := rel_ev hT it
  rw [hx] at h1
  obtain ⟨hl, b, hb, hv⟩ := h1
  have hB := hC.blk j
  rw [hM j (by simp), hj] at hB
  obtain ⟨_, hlm, b', bm, g1, g2, g3⟩ := hB
  rw [hb] at g1; cases g1
  have hB2 := hC.blk m
  rw [hM m (by simp), hm] at hB2
  obtain ⟨_, bm', ms, k1, k2, k3, k4⟩ := hB2
  rw [g2] at k1; cases k1
  obtain ⟨f1, f2⟩ := filt_ok (q := fun k => k == n) k3 k4
  rw [hf] at f1 f2
  obtain ⟨u, r, hu, r1, _⟩ := f2
  obtain ⟨x, xs, hxs⟩ : ∃ x xs, (ms.toList.filter fun e => e.born == n) = x :: xs := by
    cases hq : (ms.toList.filter fun e => e.born == n) with
    | nil => rw [hq] at hu; cases hu
    | cons x xs => exact ⟨x, xs, rfl⟩
  rw [hxs] at f1 hu
  simp only [entsM, ents, List.map_cons, List.cons.injEq, Prod.mk.injEq] at f1
  simp only [valsM, List.map_cons, List.cons.injEq] at hu
  obtain ⟨⟨w1, w2⟩, _⟩ := f1
  obtain ⟨rfl, _⟩ := hu
  have hfind : ms.find? (fun e => e.born == n) = some x := by
    rw [← Array.find?_toList, ← List.head?_filter, hxs]
    rfl
  have hback : seen.toArray.back? = some n := by simpa using hs
  refine ⟨.tuple #[x.key, x.val], w, H, E, ?_, ⟨#[x.key, x.val], rfl, _, _, rfl, by rw [w1]; exact rel_toAV _ H E, _, _, rfl, r1, rfl⟩, hC, Evol.refl _ _ _ _⟩
  have hv' : a.eval it = .pointer (some ⟨b, 0, none⟩) := by simpa using hv
  simp [execOp, hop, hv', Instr.entry, run_getObj_iter g3, Go.MapKept.run_getObj_map k2, hback, hfind, Result.andThen]

/-- a variable that holds a handle -/
def glM (P : Program) (o : Oper) : Option CE :=
  match o.op with
  | .load ty (.global g) => (match isAgg P ty, P.underlying ty, (default : Gl0).hs.find? fun p => Nat.beq p.1 g with
    | false, some _, some p => some ⟨.ifc p.2.1 (.agg [.s p.2.2]), [], [], [], []⟩
    | _, _, _ => none)
  | _ => none
theorem glM_ok {P : Program} {rd : Nat → Blk} {o : Oper} {t : Nat → AV} {e : CE} (h : glM P o = some e) : CE.Good P o t rd e := by
  unfold glM at h
  split at h
  case h_2 => cases h
  rename_i ty g hop
  split at h
  case h_2 => cases h
  rename_i d p hagg hu hp
  cases h
  have hmem := List.mem_of_find?_eq_some hp
  have hg := List.find?_some hp
  have hg := Nat.eq_of_beq_eq_true hg
  intro M hM
  refine runs_stepZ fun H E w a hC hT => ?_
  obtain ⟨hs, hx⟩ := hC.tf.2 p hmem
  have hcell := imm_cell (b := true) hC.imm hC.tf.1 hx
  rw [hg] at hcell
  refine ⟨_, w, H, E, ?_, ⟨_, rfl, _, rfl, _, [], rfl, ⟨rfl, hs⟩, rfl⟩, hC, Evol.refl _ _ _ _⟩
  have h1 := run_isAgg' w ⟨d, hu⟩
  rw [hagg] at h1
  simp [execOp, hop, Act.eval, Instr.loadAt, Instr.sureAddr, loadVar, h1, hcell, Result.andThen]

/-! all of this -/
def moreM (P : Program) (rd : Nat → Blk) (nid : Nat) (o : Oper) (t : Nat → AV) : Option CE :=
  match o.op with
  | .lookup .. => lookE P rd o t
  | .mapUpdate .. => updE P rd o t
  | .insert .. => updE P rd o t
  | .makeMap .. => mkM P rd nid o t
  | .typeAssert .. => taM P o t
  | .range .. => rangeM P rd nid o t
  | .next .. => nextM rd o t
  | .load .. => glM P o
  | .entry .. => entryM rd o t
  | .call { callee := .builtin .len, .. } => lenM P rd o t
  | .call { callee := .builtin .delete, .. } => delM P rd o t
  | _ => none
theorem moreM_ok {P : Program} {rd : Nat → Blk} {nid : Nat} {o : Oper} {t : Nat → AV} {e : CE} (hd : ∀ k, nid ≤ k → rd k = .dead) (h : moreM P rd nid o t = some e) : CE.Good P o t rd e := by
  unfold moreM at h
  split at h
  · exact lookE_ok h
  · exact updE_ok h
  · exact updE_ok h
  · exact mkM_ok hd h
  · exact taM_ok h
  · exact rangeM_ok hd h
  · exact nextM_ok h
  · exact glM_ok h
  · exact entryM_ok h
  · exact lenM_ok h
  · exact delM_ok h
  · cases h
end Go.Ax

/-! Operations on rows of any length: is it nil, clear, what is cut off. -/
namespace Go.Ax
open Go
variable [Inhabited Gl0]

theorem runs_step {P : Program} {o : Oper} {t : Nat → AV} {M : List Blk} {e : CE}
    (h : ∀ H E w a, Conc H E w M → RelT t H E a → ∃ v w' H' E', (execOp a.eval o).run P w = .ok (.value v) w' ∧ Rel e.r H' E' v ∧ Conc H' E' w' (applyW e.wr (killM e.kl M)) ∧ Evol e.kl H E w H' E' w') : StepT P o t M e := by
  intro H E w a K Q hC hT hd hk
  obtain ⟨v, w', H', E', hv, h1, h2, h3⟩ := h H E w a hC hT
  unfold Oper.wp
  rw [hv]
  exact hk v w' H' E' h1 h2 h3

/-! nil -/
def isNilOp : AV → Bool
  | .s (.slice none 0 0) => true
  | _ => false
def isYn : AV → Bool
  | .yn .. => true
  | _ => false
def boolE (b : Bool) : CE := ⟨.s (.bool b), [], [], [], []⟩
def nilQ (P : Program) (o : Oper) (t : Nat → AV) : Option CE :=
  match o.op with
  | .binOp .eql ty x y _ => (match P.underlying ty, isYn (ev t x) && isNilOp (ev t y) with
    | some (.slice _), true => some (boolE false)
    | _, _ => none)
  | .binOp .neq ty x y _ => (match P.underlying ty, isYn (ev t x) && isNilOp (ev t y) with
    | some (.slice _), true => some (boolE true)
    | _, _ => none)
  | _ => none
theorem isYn_ok {x : AV} (h : isYn x = true) {H : HH} {E : Env} {v : Value} (hr : Rel x H E v) : ∃ a m c, v = .slice (some a) m c := by
  unfold isYn at h
  split at h
  · obtain ⟨a, cap, rfl, _⟩ := hr; exact ⟨a, _, cap, rfl⟩
  · cases h
theorem isNilOp_ok {x : AV} (h : isNilOp x = true) {H : HH} {E : Env} {v : Value} (hr : Rel x H E v) : v = .slice none 0 0 := by
  unfold isNilOp at h
  split at h
  · exact hr.1
  · cases h
theorem nil_run {P : Program} {ty el : TypeId} {w : World} {a : Addr} {m c d : Nat} (hu : P.underlying ty = some (.slice el)) : (Op.equalIn (d + 1) ty (.slice (some a) m c) (.slice none 0 0)).run P w = .ok false w := by
  simp [Op.equalIn, run_underlying hu]
theorem nil_guard {P : Program} {op : BinOp} {t : TypeId} {x y : Operand} {w : World} {a : Addr} {m c : Nat} (hop : op = .eql ∨ op = .neq) : (eqGuard op t x y (.slice (some a) m c) (.slice none 0 0)).run P w = .ok () w := by
  rcases hop with rfl | rfl <;> simp [eqGuard]
theorem nilQ_ok {P : Program} {o : Oper} {t : Nat → AV} {rd : Nat → Blk} {e : CE} (h : nilQ P o t = some e) : CE.Good P o t rd e := by
  intro M _
  have key : ∀ (q : Bool), (∀ (a : Act) (w : World) (ad : Addr) (m c : Nat) (x y : Operand) (ty f : TypeId), (o.op = .binOp .eql ty x y f ∧ q = false) ∨ (o.op = .binOp .neq ty x y f ∧ q = true) → ∀ el, P.underlying ty = some (.slice el) → a.eval x = .slice (some ad) m c → a.eval y = .slice none 0 0 → (execOp a.eval o).run P w = .ok (.value (.bool q)) w) := by
    intro q a w ad m c x y ty f hop el hu hx hy
    have hr := run_eq_of (P := P) (t := ty) (u := .slice (some ad) m c) (v := .slice none 0 0) (w := w) (q := false) (by simp) (by simp) (by simp) (by simp) (nil_run (d := 9999) hu)
    rcases hop with ⟨hop, rfl⟩ | ⟨hop, rfl⟩
    · simp [execOp, hop, hx, hy, nil_guard (P := P) (op := .eql) (.inl rfl), hr.1]
    · simp [execOp, hop, hx, hy, nil_guard (P := P) (op := .neq) (.inr rfl), hr.2]
  unfold nilQ at h
  split at h
  case h_3 => cases h
  all_goals
    rename_i ty x y f hop
    split at h
    case h_2 => cases h
    rename_i el hu hb
    cases h
    simp only [Bool.and_eq_true] at hb
    refine runs_step fun H E w a hC hT => ?_
    obtain ⟨ad, m, c, hx⟩ := isYn_ok hb.1 (rel_ev hT x)
    have hy := isNilOp_ok hb.2 (rel_ev hT y)
    refine ⟨.bool _, w, H, E, key _ a w ad m c x y ty f ?_ el hu hx hy, ⟨rfl, rfl⟩, hC, Evol.refl _ _ _ _⟩
  · exact .inl ⟨hop, rfl⟩
  · exact .inr ⟨hop, rfl⟩

/-- a slice of which is not known whether it is nil: by both cases -/
theorem nil_cases {P : Program} {f : FuncId} {pre post : List AV} {b : Bool} {sz n : Nat} {c : Nat → Nat → AV} {M : List Blk} {t : T An} (h1 : n = 0 → t.Sat (ACall' P f (pre ++ .s (.slice none 0 0) :: post) M)) (h2 : t.Sat (ACall' P f (pre ++ .yn b sz n c :: post) M))
    (hd : ∃ a, t = .ret a) : t.Sat (ACall' P f (pre ++ .ys b sz n c :: post) M) := by
  obtain ⟨a, rfl⟩ := hd
  refine T.Sat.ret ?_
  have key : ∀ {l : List AV}, (T.ret a : T An).Sat (ACall' P f l M) → ACall' P f l M a := fun h => by
    obtain ⟨a', ha, e⟩ := h (fun x => x = a) rfl
    rw [← e]; exact ha
  intro H E w vals hC hargs
  have hsplit : ∀ (p : List AV) {vs : List Value} {x : AV}, RelL (p ++ x :: post) H E vs → ∃ v1 v v2, vs = v1 ++ v :: v2 ∧ RelL p H E v1 ∧ Rel x H E v ∧ RelL post H E v2 := by
    intro p
    induction p with
    | nil => intro vs x h; obtain ⟨v, r, rfl, h1, h2⟩ := h; exact ⟨[], v, r, rfl, rfl, h1, h2⟩
    | cons q p ih =>
      intro vs x h
      obtain ⟨v, r, rfl, h1, h2⟩ := h
      obtain ⟨v1, v', v2, rfl, g1, g2, g3⟩ := ih h2
      exact ⟨v :: v1, v', v2, rfl, ⟨v, v1, rfl, h1, g1⟩, g2, g3⟩
  have hjoin : ∀ (p : List AV) {v1 v2 : List Value} {x : AV} {v : Value}, RelL p H E v1 → Rel x H E v → RelL post H E v2 → RelL (p ++ x :: post) H E (v1 ++ v :: v2) := by
    intro p
    induction p with
    | nil => intro v1 v2 x v h1 h2 h3; have h1 : v1 = [] := h1; subst h1; exact ⟨v, v2, rfl, h2, h3⟩
    | cons q p ih =>
      intro v1 v2 x v h1 h2 h3
      obtain ⟨u, r, rfl, g1, g2⟩ := h1
      exact ⟨u, r ++ v :: v2, rfl, g1, ih g2 h2 h3⟩
  obtain ⟨v1, v, v2, hv, g1, g2, g3⟩ := hsplit pre hargs
  obtain ⟨ad, cap, rfl, hn, hk⟩ := g2
  cases ad with
  | some ad =>
    refine key h2 H E w vals hC ?_
    rw [hv]
    refine hjoin pre g1 ⟨ad, cap, rfl, hn.1, fun k hkn j hj => ?_⟩ g3
    obtain ⟨ad', had, hk⟩ := hk (by omega)
    cases had
    exact hk k hkn j hj
  | none =>
    have hn0 : n = 0 := by
      rcases Nat.eq_zero_or_pos n with h0 | h0
      · exact h0
      · obtain ⟨_, h, _⟩ := hk h0; cases h
    have hc0 := hn.2 rfl
    subst hn0; subst hc0
    refine key (h1 rfl) H E w vals hC ?_
    rw [hv]
    exact hjoin pre g1 ⟨rfl, rfl⟩ g3

/-! what is cut off -/
def shrinkR (rd : Nat → Blk) : AV → Option CE
  | .own a sz 0 j => (match rd a with
    | .row ty s2 _ cap c => (match s2 == sz with
      | true => some ⟨.own a sz 0 j, [a], [(a, .row ty sz j cap c)], [a], []⟩
      | false => none)
    | _ => none)
  | _ => none
theorem shrinkR_ok {P : Program} {o : Oper} {t : Nat → AV} {rd : Nat → Blk} {x : Operand} {e : CE} (hop : o.op = .move x ∨ o.op = .assign x) (h : shrinkR rd (ev t x) = some e) : CE.Good P o t rd e := by
  intro M hM
  refine runs_step fun H E w a hC hT => ?_
  have hx := rel_ev hT x
  unfold shrinkR at h
  split at h
  case h_2 => cases h
  rename_i i sz j he
  rw [he] at hx
  split at h
  case h_2 => cases h
  rename_i ty s2 n cap c hg
  split at h
  case h_2 => cases h
  rename_i hs
  have hs : s2 = sz := by simpa using hs
  subst hs
  cases h
  obtain ⟨hl, hη, hm⟩ := hx
  have hB := hC.blk i
  rw [hM i (by simp), hg] at hB
  obtain ⟨_, hn, hκ, hcap, hb⟩ := hB
  obtain ⟨e1, e2, e3, e4⟩ := E.set_same i (E.ι i) (E.κ i) j
  have hB' : BlkOk H (E.set i (E.ι i) (E.κ i) j) w i (renB (keepOf [i]) (.row ty s2 j cap c)) := by
    refine ⟨e1, by rw [e3, e4]; omega, by rw [e3]; exact hκ, by rw [e3]; exact hcap, ?_⟩
    rw [e2, e3]
    cases hι : E.ι i with
    | none => rw [hι] at hb; exact hb
    | some b =>
      rw [hι] at hb
      obtain ⟨vs, g1, g2, g3, g4⟩ := hb
      refine ⟨vs, g1, fun x hx => g2 x ?_, g3, fun k hk => g4 k (by omega)⟩
      have : j * s2 ≤ n * s2 := Nat.mul_le_mul_right _ (by omega)
      exact List.take_subset_take_left _ this hx
  obtain ⟨hc, hev⟩ := hC.move (bo' := E.ι i) (κ' := E.κ i) (η' := j) hl (w' := w) ⟨rfl, rfl, rfl, Nat.le_refl _, fun _ _ _ => rfl⟩ (fun g hg => .inl hg) hB'
  refine ⟨a.eval x, w, H, _, ?_, ⟨e1, by rw [e3, e4]; omega, by rw [e2, e3]; exact hm⟩, hc.eqv fun k => ?_, hev⟩
  · rcases hop with hop | hop <;> simp [execOp, hop]
  · exact killW_eqv [i] [(i, .row ty s2 j cap c)] M k

theorem relL_takeF {H : HH} {E : Env} : ∀ {l : List AV} {vs : List Value} (n : Nat), RelL l H E vs → RelL (l.take n) H E (vs.take n)
  | _, _, 0, _ => by simp [RelL]
  | [], _, n + 1, h => by
    have h : _ = [] := h
    subst h; simp [RelL]
  | _ :: _, _, n + 1, h => by
    obtain ⟨v, r, rfl, h1, h2⟩ := h
    exact ⟨v, _, rfl, h1, relL_takeF n h2⟩
def shrinkL (rd : Nat → Blk) : AV → Option CE
  | .own a sz 0 j => (match rd a with
    | .lst ty s2 n cap cs => (match s2 == sz && Nat.ble j n with
      | true => some ⟨.own a sz 0 j, [a], killW [a] [(a, .lst ty sz j cap (cs.take (j * sz)))], [a], []⟩
      | false => none)
    | _ => none)
  | _ => none
theorem shrinkL_ok {P : Program} {o : Oper} {t : Nat → AV} {rd : Nat → Blk} {x : Operand} {e : CE} (hop : o.op = .move x ∨ o.op = .assign x) (h : shrinkL rd (ev t x) = some e) : CE.Good P o t rd e := by
  intro M hM
  refine runs_step fun H E w a hC hT => ?_
  have hx := rel_ev hT x
  unfold shrinkL at h
  split at h
  case h_2 => cases h
  rename_i i sz j he
  rw [he] at hx
  split at h
  case h_2 => cases h
  rename_i ty s2 n cap cs hg
  split at h
  case h_2 => cases h
  rename_i hs
  simp only [Bool.and_eq_true, beq_iff_eq, Nat.ble_eq] at hs
  obtain ⟨rfl, hjn⟩ := hs
  cases h
  obtain ⟨hl, hη, hm⟩ := hx
  have hB := hC.blk i
  rw [hM i (by simp), hg] at hB
  obtain ⟨_, hn, hκ, hcap, hb⟩ := hB
  obtain ⟨e1, e2, e3, e4⟩ := E.set_same i (E.ι i) (E.κ i) j
  have hvia : E.via (E.set i (E.ι i) (E.κ i) j) (keepOf [i]) := by
    intro p q hpq hlp
    have hqp : q = p ∧ p ≠ i := by
      by_cases hpi : p = i
      · subst hpi; simp [keepOf, mem] at hpq
      · have : keepOf [i] p = some p := by
          have : ¬ i = p := fun e => hpi e.symm
          simp [keepOf, mem, hpi, this]
        rw [this] at hpq
        exact ⟨(Option.some.inj hpq).symm, hpi⟩
    obtain ⟨rfl, hpi⟩ := hqp
    obtain ⟨q1, q2, q3, q4⟩ := E.set_ne i q (E.ι i) (E.κ i) j hpi
    exact ⟨q1.trans hlp, q2, q3, q4⟩
  have hB' : BlkOk H (E.set i (E.ι i) (E.κ i) j) w i (renB (keepOf [i]) (.lst ty s2 j cap (cs.take (j * s2)))) := by
    refine ⟨e1, by rw [e3, e4]; omega, by rw [e3]; exact hκ, by rw [e3]; exact hcap, ?_⟩
    rw [e2, e3]
    cases hι : E.ι i with
    | none => rw [hι] at hb; exact ⟨hb.1, by rw [hb.2]; simp [renL]⟩
    | some b =>
      rw [hι] at hb
      obtain ⟨vs, g1, g2, g3, g4⟩ := hb
      have hle : j * s2 ≤ n * s2 := Nat.mul_le_mul_right _ hjn
      refine ⟨vs, g1, fun x hx => g2 x (List.take_subset_take_left _ hle hx), g3, ?_⟩
      have := RelL.ren _ hvia (relL_takeF (j * s2) g4)
      rw [List.take_take, Nat.min_eq_left hle] at this
      first | exact this | (rw [← hι]; exact this) | (rw [hι] at this; exact this)
  obtain ⟨hc, hev⟩ := hC.move (bo' := E.ι i) (κ' := E.κ i) (η' := j) hl (w' := w) ⟨rfl, rfl, rfl, Nat.le_refl _, fun _ _ _ => rfl⟩ (fun g hg => .inl hg) hB'
  refine ⟨a.eval x, w, H, _, ?_, ⟨e1, by rw [e3, e4]; omega, by rw [e2, e3]; exact hm⟩, hc.eqv fun k => ?_, hev⟩
  · rcases hop with hop | hop <;> simp [execOp, hop]
  · exact killW_eqv [i] [(i, .lst ty s2 j cap (cs.take (j * s2)))] M k
def shrinkE (rd : Nat → Blk) (x : AV) : Option CE := match shrinkR rd x with
  | some e => some e
  | none => shrinkL rd x
theorem shrinkE_ok {P : Program} {o : Oper} {t : Nat → AV} {rd : Nat → Blk} {x : Operand} {e : CE} (hop : o.op = .move x ∨ o.op = .assign x) (h : shrinkE rd (ev t x) = some e) : CE.Good P o t rd e := by
  unfold shrinkE at h
  split at h
  · rename_i e' he
    cases h
    exact shrinkR_ok hop he
  · exact shrinkL_ok hop h

/-! clear -/
def clrRow (lo n : Nat) (c : Nat → Nat → AV) (k j : Nat) : AV := if lo ≤ k ∧ k < lo + n then .junk else c k j
def clearE (P : Program) (rd : Nat → Blk) (ty : TypeId) (x : AV) : Option CE :=
  match P.underlying ty, x with
  | some (.slice el), .own i sz lo n => (match rd i, zeroL P el with
    | .row ty' s2 m cap c, some z => (match s2 == sz && len z == sz && Nat.ble 1 sz with
      | true => some ⟨.tup [], [i], [(i, .row ty' sz m cap (clrRow lo n c))], [], []⟩
      | false => none)
    | _, _ => none)
  | _, _ => none
theorem zeroCells_len (z : Array Value) (n : Nat) : (Builtin.zeroCells z n).toList.length = n * z.size := by simp [Builtin.zeroCells]
theorem zeroCells_ones (z : Array Value) (n : Nat) (h : ones z.toList) (h0 : 0 < z.size) : ∀ x ∈ (Builtin.zeroCells z n).toList, x.oneCell' = true := by
  intro x hx
  simp only [Builtin.zeroCells, Array.toList_map, List.mem_map] at hx
  obtain ⟨i, _, rfl⟩ := hx
  have hlt : i % z.size < z.size := Nat.mod_lt _ h0
  rw [getElem!_pos z _ hlt]
  exact h _ (by simp)
theorem clearE_ok {P : Program} {o : Oper} {t : Nat → AV} {rd : Nat → Blk} {ty : TypeId} {x : Operand} {e : CE} (hop : o.op = .call { callee := .builtin .clear, args := #[x], argTypes := #[ty] }) (h : clearE P rd ty (ev t x) = some e) : CE.Good P o t rd e := by
  intro M hM
  refine runs_step fun H E w a hC hT => ?_
  have hx := rel_ev hT x
  unfold clearE at h
  split at h
  case h_2 => cases h
  rename_i el i sz lo n hu he
  rw [he] at hx
  split at h
  case h_2 => cases h
  rename_i ty' s2 m cap c z hg hz
  split at h
  case h_2 => cases h
  rename_i hs
  simp only [Bool.and_eq_true, beq_iff_eq, Nat.ble_eq] at hs
  obtain ⟨⟨rfl, hzl⟩, hs0⟩ := hs
  cases h
  obtain ⟨hl, hη, hm⟩ := hx
  have hB := hC.blk i
  rw [hM i (by simp), hg] at hB
  obtain ⟨hlv, hn, hκ, hcap, hb⟩ := hB
  obtain ⟨zi, zv, hi, hz', hrz, h1⟩ := zeroL_ok H E hz
  have hzs : zv.cells.size = s2 := by
    have := RelL.length hrz
    rw [len_eq] at hzl
    rw [← hzl, ← this, Array.length_toList]
  have hstay : (∀ v, a.eval x = v → (Builtin.clear_ #[ty] o.type #[v]).run P w = .ok (.tuple #[]) w) → n = 0 ∨ E.ι i = none → ∃ v w' H' E', (execOp a.eval o).run P w = .ok (.value v) w' ∧ Rel (.tup []) H' E' v ∧ Conc H' E' w' (applyW [(i, .row ty' s2 m cap (clrRow lo n c))] (killM [] M)) ∧ Evol [] H E w H' E' w' := by
    intro hrun h0
    refine ⟨.tuple #[], w, H, E, by simp [execOp, hop, resolve, invoke, builtin, hrun _ rfl], ⟨#[], rfl, rfl⟩, ?_, Evol.refl _ _ _ _⟩
    refine ⟨hC.imm, hC.tf, fun k => ?_, hC.inj, hC.sep⟩
    show BlkOk H E w k (getM (putM M i _) k)
    by_cases hk : i = k
    · subst hk
      rw [getM_put_same]
      refine ⟨hlv, hn, hκ, hcap, ?_⟩
      cases hι : E.ι i with
      | none => rw [hι] at hb; exact hb
      | some b =>
        rw [hι] at hb
        obtain ⟨vs, g1, g2, g3, g4⟩ := hb
        refine ⟨vs, g1, g2, g3, fun k hk j hj => ?_⟩
        obtain ⟨y, hy, hr⟩ := g4 k hk j hj
        refine ⟨y, hy, ?_⟩
        unfold clrRow
        split
        · trivial
        · exact hr
    · rw [getM_put_ne _ _ _ _ hk]
      exact hC.blk k
  cases hι : E.ι i with
  | none =>
    rw [hι] at hm
    obtain ⟨_, rfl, hv⟩ := hm
    exact hstay (fun v hv' => by rw [← hv', hv]; simp [Builtin.clear_, run_underlying hu]) (.inl rfl)
  | some b =>
    rw [hι] at hm hb
    obtain ⟨ad, hv, had⟩ := hm
    rcases Nat.eq_zero_or_pos n with h0 | h0
    · subst h0
      exact hstay (fun v hv' => by rw [← hv', hv]; cases ad <;> simp [Builtin.clear_, run_underlying hu]) (.inl rfl)
    · obtain ⟨vs, g1, g2, g3, g4⟩ := hb
      have had := had.1 (.inr h0)
      rw [had] at hv
      have hq : (lo + n) * s2 ≤ m * s2 := Nat.mul_le_mul_right _ (by omega)
      have hq2 : m * s2 ≤ E.κ i * s2 := Nat.mul_le_mul_right _ hn.2
      rw [Nat.add_mul] at hq
      have hzc : (Builtin.zeroCells zv.cells n).toList.length = n * s2 := by rw [zeroCells_len, hzs]
      have hst := run_storeCells_at P b (lo * s2) ty' (Builtin.zeroCells zv.cells n).toList 0 vs w g1 (by rw [hzc]; omega) (zeroCells_ones _ _ h1 (by omega))
      have hrun : (Builtin.clear_ #[ty] o.type #[a.eval x]).run P w = .ok (.tuple #[]) (w.setRow b (vs.toList.take (lo * s2 + 0) ++ (Builtin.zeroCells zv.cells n).toList ++ vs.toList.drop (lo * s2 + 0 + (Builtin.zeroCells zv.cells n).toList.length)).toArray) := by
        rw [hv]
        obtain ⟨n', rfl⟩ : ∃ n', n = n' + 1 := ⟨n - 1, by omega⟩
        simp [Builtin.clear_, run_underlying hu, zeroValue, typeInfo, hi, hz', hst]
      generalize hzq : (Builtin.zeroCells zv.cells n).toList = zs at hst hrun hzc
      have hzo : ∀ x ∈ zs, x.oneCell' = true := by rw [← hzq]; exact zeroCells_ones _ _ h1 (by omega)
      simp only [Nat.add_zero] at hrun
      have hget : ∀ q, (vs.toList.take (lo * s2) ++ zs ++ vs.toList.drop (lo * s2 + zs.length))[q]? = if lo * s2 ≤ q ∧ q < lo * s2 + n * s2 then zs[q - lo * s2]? else vs[q]? := by
        intro q
        have htl : (vs.toList.take (lo * s2)).length = lo * s2 := by rw [List.length_take, Array.length_toList]; omega
        by_cases hq1 : q < lo * s2
        · rw [List.append_assoc, List.getElem?_append_left (by omega), List.getElem?_take, if_pos hq1, if_neg (by omega)]; simp
        · by_cases hq2 : q < lo * s2 + n * s2
          · rw [List.append_assoc, List.getElem?_append_right (by omega), List.getElem?_append_left (by omega), if_pos ⟨by omega, hq2⟩, htl]
          · rw [List.getElem?_append_right (by rw [List.length_append]; omega), List.length_append, htl, List.getElem?_drop, if_neg (by omega), hzc]
            rw [show lo * s2 + n * s2 + (q - (lo * s2 + n * s2)) = q by omega]; simp
      generalize hnew : vs.toList.take (lo * s2) ++ zs ++ vs.toList.drop (lo * s2 + zs.length) = new at hrun hget
      have hnl : new.length = vs.size := by
        rw [← hnew]; simp [hzc]; omega
      have hB2 : BlkOk H E (w.setRow b new.toArray) i (.row ty' s2 m cap (clrRow lo n c)) := by
        refine ⟨hlv, hn, hκ, hcap, ?_⟩
        rw [hι]
        refine ⟨new.toArray, setRow_heap w b vs _ ty' (0, 0) g1, fun y hy => ?_, by simp [hnl, g3], fun k hk j hj => ?_⟩
        · obtain ⟨q, hq4⟩ := List.mem_iff_getElem?.1 hy
          rw [List.getElem?_take] at hq4
          split at hq4
          case isFalse => cases hq4
          rename_i hqm
          simp only [List.toList_toArray] at hq4
          rw [hget] at hq4
          split at hq4
          · exact hzo _ (List.mem_of_getElem? hq4)
          · refine g2 y ?_
            rw [List.mem_iff_getElem?]
            exact ⟨q, by rw [List.getElem?_take, if_pos hqm]; simpa using hq4⟩
        · have hkm : (k + 1) * s2 ≤ m * s2 := Nat.mul_le_mul_right _ hk
          rw [Nat.add_mul, Nat.one_mul] at hkm
          have hlt : k * s2 + j < new.length := by omega
          obtain ⟨y, hy, hr⟩ := g4 k hk j hj
          simp only [List.getElem?_toArray]
          rw [hget]
          unfold clrRow
          by_cases hkr : lo ≤ k ∧ k < lo + n
          · have a1 : lo * s2 ≤ k * s2 := Nat.mul_le_mul_right _ hkr.1
            have a2 : (k + 1) * s2 ≤ (lo + n) * s2 := Nat.mul_le_mul_right _ hkr.2
            rw [Nat.add_mul, Nat.one_mul, Nat.add_mul] at a2
            rw [if_pos hkr, if_pos ⟨by omega, by omega⟩]
            exact ⟨_, List.getElem?_eq_getElem (by omega), trivial⟩
          · rw [if_neg hkr, if_neg ?_]
            · exact ⟨y, hy, hr⟩
            · intro ⟨b1, b2⟩
              refine hkr ⟨?_, ?_⟩
              · rcases Nat.lt_or_ge k lo with h | h
                · have : (k + 1) * s2 ≤ lo * s2 := Nat.mul_le_mul_right _ h
                  rw [Nat.add_mul, Nat.one_mul] at this; omega
                · exact h
              · rcases Nat.lt_or_ge k (lo + n) with h | h
                · exact h
                · have : (lo + n) * s2 ≤ k * s2 := Nat.mul_le_mul_right _ h
                  rw [Nat.add_mul] at this; omega
      obtain ⟨hc, hev⟩ := hC.upd (w' := w.setRow b new.toArray) (o := .cells new.toArray ty' (0, 0)) hl hι ⟨rfl, rfl, rfl, by simp [World.setRow], setRow_heap w b vs _ ty' (0, 0) g1, fun k hk => setRow_other w b k _ hk⟩ hB2
      refine ⟨.tuple #[], _, H, E, by simp [execOp, hop, resolve, invoke, builtin, hrun], ⟨#[], rfl, rfl⟩, hc, hev⟩

def jnk : List AV → Nat → Nat → List AV
  | [], _, _ => []
  | c :: r, 0, 0 => c :: r
  | _ :: r, 0, n + 1 => .junk :: jnk r 0 n
  | c :: r, p + 1, n => c :: jnk r p n
theorem jnk_zero : ∀ (cs : List AV) (p : Nat), jnk cs p 0 = cs
  | [], _ => rfl
  | c :: r, 0 => rfl
  | c :: r, p + 1 => by simp [jnk, jnk_zero r p]
theorem jnk_rel {H : HH} {E : Env} : ∀ {cs : List AV} {xs zs : List Value} (p : Nat), RelL cs H E xs → p + zs.length ≤ xs.length → RelL (jnk cs p zs.length) H E (xs.take p ++ zs ++ xs.drop (p + zs.length))
  | [], xs, zs, p, h, hl => by
    have h : xs = [] := h
    subst h
    have : zs = [] := by cases zs with | nil => rfl | cons _ _ => simp at hl
    subst this
    simp [jnk, RelL]
  | c :: r, xs, [], 0, h, hl => by simpa [jnk] using h
  | c :: r, xs, z :: zs, 0, h, hl => by
    obtain ⟨v, q, rfl, h1, h2⟩ := h
    have := jnk_rel (zs := zs) 0 h2 (by simp at hl ⊢; omega)
    refine ⟨z, _, rfl, trivial, ?_⟩
    simpa using this
  | c :: r, xs, zs, p + 1, h, hl => by
    obtain ⟨v, q, rfl, h1, h2⟩ := h
    have := jnk_rel (zs := zs) p h2 (by simp at hl ⊢; omega)
    refine ⟨v, _, rfl, h1, ?_⟩
    have e : p + 1 + zs.length = (p + zs.length) + 1 := by omega
    simpa [e] using this
def clearL (P : Program) (rd : Nat → Blk) (ty : TypeId) (x : AV) : Option CE :=
  match P.underlying ty, x with
  | some (.slice el), .own i sz lo n => (match rd i, zeroL P el with
    | .lst ty' s2 m cap cs, some z => (match s2 == sz && len z == sz && Nat.ble 1 sz with
      | true => some ⟨.tup [], [i], [(i, .lst ty' sz m cap (jnk cs (lo * sz) (n * sz)))], [], []⟩
      | false => none)
    | _, _ => none)
  | _, _ => none
theorem clearL_ok {P : Program} {o : Oper} {t : Nat → AV} {rd : Nat → Blk} {ty : TypeId} {x : Operand} {e : CE} (hop : o.op = .call { callee := .builtin .clear, args := #[x], argTypes := #[ty] }) (h : clearL P rd ty (ev t x) = some e) : CE.Good P o t rd e := by
  intro M hM
  refine runs_step fun H E w a hC hT => ?_
  have hx := rel_ev hT x
  unfold clearL at h
  split at h
  case h_2 => cases h
  rename_i el i sz lo n hu he
  rw [he] at hx
  split at h
  case h_2 => cases h
  rename_i ty' s2 m cap cs z hg hz
  split at h
  case h_2 => cases h
  rename_i hs
  simp only [Bool.and_eq_true, beq_iff_eq, Nat.ble_eq] at hs
  obtain ⟨⟨rfl, hzl⟩, hs0⟩ := hs
  cases h
  obtain ⟨hl, hη, hm⟩ := hx
  have hB := hC.blk i
  rw [hM i (by simp), hg] at hB
  obtain ⟨hlv, hn, hκ, hcap, hb⟩ := hB
  obtain ⟨zi, zv, hi, hz', hrz, h1⟩ := zeroL_ok H E hz
  have hzs : zv.cells.size = s2 := by
    have := RelL.length hrz
    rw [len_eq] at hzl
    rw [← hzl, ← this, Array.length_toList]
  have hstay : (∀ v, a.eval x = v → (Builtin.clear_ #[ty] o.type #[v]).run P w = .ok (.tuple #[]) w) → n = 0 → ∃ v w' H' E', (execOp a.eval o).run P w = .ok (.value v) w' ∧ Rel (.tup []) H' E' v ∧ Conc H' E' w' (applyW [(i, .lst ty' s2 m cap (jnk cs (lo * s2) (n * s2)))] (killM [] M)) ∧ Evol [] H E w H' E' w' := by
    intro hrun h0
    subst h0
    refine ⟨.tuple #[], w, H, E, by simp [execOp, hop, resolve, invoke, builtin, hrun _ rfl], ⟨#[], rfl, rfl⟩, ?_, Evol.refl _ _ _ _⟩
    rw [Nat.zero_mul, jnk_zero]
    refine ⟨hC.imm, hC.tf, fun k => ?_, hC.inj, hC.sep⟩
    show BlkOk H E w k (getM (putM M i _) k)
    by_cases hk : i = k
    · subst hk
      rw [getM_put_same]
      exact ⟨hlv, hn, hκ, hcap, hb⟩
    · rw [getM_put_ne _ _ _ _ hk]
      exact hC.blk k
  cases hι : E.ι i with
  | none =>
    rw [hι] at hm
    obtain ⟨_, rfl, hv⟩ := hm
    exact hstay (fun v hv' => by rw [← hv', hv]; simp [Builtin.clear_, run_underlying hu]) rfl
  | some b =>
    rw [hι] at hm hb
    obtain ⟨ad, hv, had⟩ := hm
    rcases Nat.eq_zero_or_pos n with h0 | h0
    · subst h0
      exact hstay (fun v hv' => by rw [← hv', hv]; cases ad <;> simp [Builtin.clear_, run_underlying hu]) rfl
    · obtain ⟨vs, g1, g2, g3, g4⟩ := hb
      have had := had.1 (.inr h0)
      rw [had] at hv
      have hq : (lo + n) * s2 ≤ m * s2 := Nat.mul_le_mul_right _ (by omega)
      have hq2 : m * s2 ≤ E.κ i * s2 := Nat.mul_le_mul_right _ hn.2
      rw [Nat.add_mul] at hq
      have hzc : (Builtin.zeroCells zv.cells n).toList.length = n * s2 := by rw [zeroCells_len, hzs]
      have hst := run_storeCells_at P b (lo * s2) ty' (Builtin.zeroCells zv.cells n).toList 0 vs w g1 (by rw [hzc]; omega) (zeroCells_ones _ _ h1 (by omega))
      have hrun : (Builtin.clear_ #[ty] o.type #[a.eval x]).run P w = .ok (.tuple #[]) (w.setRow b (vs.toList.take (lo * s2 + 0) ++ (Builtin.zeroCells zv.cells n).toList ++ vs.toList.drop (lo * s2 + 0 + (Builtin.zeroCells zv.cells n).toList.length)).toArray) := by
        rw [hv]
        obtain ⟨n', rfl⟩ : ∃ n', n = n' + 1 := ⟨n - 1, by omega⟩
        simp [Builtin.clear_, run_underlying hu, zeroValue, typeInfo, hi, hz', hst]
      generalize hzq : (Builtin.zeroCells zv.cells n).toList = zs at hst hrun hzc
      have hzo : ∀ x ∈ zs, x.oneCell' = true := by rw [← hzq]; exact zeroCells_ones _ _ h1 (by omega)
      simp only [Nat.add_zero] at hrun
      have hcut : (vs.toList.take (lo * s2) ++ zs ++ vs.toList.drop (lo * s2 + zs.length)).take (m * s2) = (vs.toList.take (m * s2)).take (lo * s2) ++ zs ++ (vs.toList.take (m * s2)).drop (lo * s2 + zs.length) := by
        rw [List.take_take, Nat.min_eq_left (by omega), List.drop_take, List.take_append, List.length_append, List.length_take, Array.length_toList, hzc, List.take_of_length_le]
        · congr 2
          omega
        · rw [List.length_append, List.length_take, Array.length_toList, hzc]; omega
      generalize hnew : vs.toList.take (lo * s2) ++ zs ++ vs.toList.drop (lo * s2 + zs.length) = new at hrun hcut
      have hnl : new.length = vs.size := by
        rw [← hnew]; simp [hzc]; omega
      have hB2 : BlkOk H E (w.setRow b new.toArray) i (.lst ty' s2 m cap (jnk cs (lo * s2) (n * s2))) := by
        refine ⟨hlv, hn, hκ, hcap, ?_⟩
        rw [hι]
        refine ⟨new.toArray, setRow_heap w b vs _ ty' (0, 0) g1, fun y hy => ?_, by simp [hnl, g3], ?_⟩
        · simp only [List.toList_toArray] at hy
          rw [hcut, List.mem_append, List.mem_append] at hy
          rcases hy with (hy | hy) | hy
          · exact g2 y (List.mem_of_mem_take hy)
          · exact hzo y hy
          · exact g2 y (List.mem_of_mem_drop hy)
        · simp only [List.toList_toArray]
          rw [hcut, ← hzc]
          have hz2 : zs.length = n * s2 := by simpa using hzc
          refine jnk_rel _ g4 ?_
          rw [List.length_take, Array.length_toList]
          have q1 : lo * s2 + zs.length ≤ m * s2 := by rw [hz2]; exact hq
          have q2 : lo * s2 + zs.length ≤ vs.size := by rw [g3]; exact Nat.le_trans q1 hq2
          exact Nat.le_min.2 ⟨q1, q2⟩
      obtain ⟨hc, hev⟩ := hC.upd (w' := w.setRow b new.toArray) (o := .cells new.toArray ty' (0, 0)) hl hι ⟨rfl, rfl, rfl, by simp [World.setRow], setRow_heap w b vs _ ty' (0, 0) g1, fun k hk => setRow_other w b k _ hk⟩ hB2
      refine ⟨.tuple #[], _, H, E, by simp [execOp, hop, resolve, invoke, builtin, hrun], ⟨#[], rfl, rfl⟩, hc, hev⟩

/-! a block comes under another name -/
def intoE (rd : Nat → Blk) (d : Nat) : AV → Option CE
  | .own k sz lo n => (match Nat.beq k d with
    | true => none
    | false => some ⟨.own d sz lo n, [k], [(k, .dead), (d, renB (keepOf [k, d]) (rd k))], [k, d], []⟩)
  | _ => none
def Env.into (E : Env) (k d : Nat) : Env :=
  ⟨fun j => if j = d then E.lv k else if j = k then false else E.lv j, fun j => if j = d then E.ι k else E.ι j, fun j => if j = d then E.κ k else E.κ j, fun j => if j = d then E.η k else E.η j⟩
theorem intoE_ok {P : Program} {o : Oper} {t : Nat → AV} {rd : Nat → Blk} {d : Nat} {x : Operand} {e : CE} (hop : o.op = .move x ∨ o.op = .assign x) (h : intoE rd d (ev t x) = some e) : CE.Good P o t rd e := by
  intro M hM
  refine runs_step fun H E w a hC hT => ?_
  have hx := rel_ev hT x
  unfold intoE at h
  split at h
  case h_2 => cases h
  rename_i k sz lo n he
  rw [he] at hx
  split at h
  · cases h
  rename_i hkd
  have hkd : k ≠ d := fun e => by rw [e, Nat.beq_refl] at hkd; cases hkd
  cases h
  have hMk := hM k (by simp)
  obtain ⟨hl, hη, hm⟩ := hx
  have hvia : E.via (E.into k d) (keepOf [k, d]) := by
    intro i j hij hli
    unfold keepOf at hij
    split at hij
    · cases hij
    · rename_i hn
      cases hij
      simp at hn
      simp [Env.into, hn.1, hn.2, hli]
  have hed : (E.into k d).lv d = E.lv k ∧ (E.into k d).ι d = E.ι k ∧ (E.into k d).κ d = E.κ k ∧ (E.into k d).η d = E.η k := by simp [Env.into]
  have hek : (E.into k d).lv k = false := by simp [Env.into, hkd]
  have hej : ∀ j, j ≠ k → j ≠ d → (E.into k d).lv j = E.lv j ∧ (E.into k d).ι j = E.ι j ∧ (E.into k d).κ j = E.κ j ∧ (E.into k d).η j = E.η j := fun j h1 h2 => by simp [Env.into, h1, h2]
  have hB : renB (keepOf [k, d]) (rd k) = renB (keepOf [k, d]) (getM M k) := by
    rw [hMk]
  have hsrc : ∀ j b, (E.into k d).lv j = true → (E.into k d).ι j = some b → (j = d ∧ E.ι k = some b) ∨ (j ≠ k ∧ j ≠ d ∧ E.lv j = true ∧ E.ι j = some b) := by
    intro j b h1 h2
    by_cases hj : j = d
    · subst hj; exact .inl ⟨rfl, by rw [← hed.2.1]; exact h2⟩
    · by_cases hj2 : j = k
      · subst hj2; rw [hek] at h1; cases h1
      · obtain ⟨g1, g2, _⟩ := hej j hj2 hj
        exact .inr ⟨hj2, hj, g1 ▸ h1, g2 ▸ h2⟩
  refine ⟨a.eval x, w, H, E.into k d, ?_, ⟨hed.1.trans hl, by rw [hed.2.2.1, hed.2.2.2]; exact hη, by rw [hed.2.1, hed.2.2.1]; exact hm⟩, ⟨hC.imm, hC.tf, fun j => ?_, fun i j b h1 h2 h3 h4 => ?_, fun i b h1 h2 => ?_⟩, ⟨rfl, rfl, rfl, Nat.le_refl _, fun _ _ _ => rfl, fun i b h1 h2 => ?_, HH.le_refl _, fun _ _ _ h => .inl h, fun i hi hn => ?_⟩⟩
  · rcases hop with hop | hop <;> simp [execOp, hop]
  · show BlkOk H (E.into k d) w j (getM (putM (putM (killM [k, d] M) k .dead) d _) j)
    by_cases hj : d = j
    · subst hj
      rw [getM_put_same, hB]
      exact (hC.blk k).move (HH.le_refl _) hvia hed.1 hed.2.1 hed.2.2.1 hed.2.2.2 fun _ _ _ => rfl
    · rw [getM_put_ne _ _ _ _ hj]
      by_cases hj2 : k = j
      · subst hj2
        rw [getM_put_same]
        exact hek
      · rw [getM_put_ne _ _ _ _ hj2, getM_kill]
        obtain ⟨g1, g2, g3, g4⟩ := hej j (fun e => hj2 e.symm) (fun e => hj e.symm)
        exact (hC.blk j).move (HH.le_refl _) hvia g1 g2 g3 g4 fun _ _ _ => rfl
  · rcases hsrc i b h1 h3 with ⟨rfl, a1⟩ | ⟨a0, a1, a2, a3⟩ <;> rcases hsrc j b h2 h4 with ⟨rfl, b1⟩ | ⟨b0, b1, b2, b3⟩
    · rfl
    · exact absurd (hC.inj k j b hl b2 a1 b3).symm b0
    · exact absurd (hC.inj k i b hl a2 b1 a3).symm a0
    · exact hC.inj i j b a2 b2 a3 b3
  · rcases hsrc i b h1 h2 with ⟨rfl, a1⟩ | ⟨_, _, a2, a3⟩
    · exact hC.sep k b hl a1
    · exact hC.sep i b a2 a3
  · rcases hsrc i b h1 h2 with ⟨rfl, a1⟩ | ⟨_, _, a2, a3⟩
    · exact .inl ⟨k, hl, a1⟩
    · exact .inl ⟨i, a2, a3⟩
  · simp at hn
    obtain ⟨g1, g2, g3, g4⟩ := hej i hn.1 hn.2
    exact ⟨g1.trans hi, g2, g3, g4⟩

/-! shifts to the right by a known count -/
def shrE (o : Oper) (t : Nat → AV) : Option CE :=
  match o.op with
  | .binOp .shr _ x y _ => (match ev t x, ev t y with
    | .y (.int .u64 a), .s (.int .u64 (.ofNat n)) => (match Nat.blt n 64 with
      | true => some ⟨.y (.int .u64 (a / 2 ^ n)), [], [], [], []⟩
      | false => none)
    | .s (.int .u64 a), .s (.int .u64 (.ofNat n)) => (match Nat.blt n 64 with
      | true => some ⟨.s (.int .u64 (a / 2 ^ n)), [], [], [], []⟩
      | false => none)
    | _, _ => none)
  | _ => none
theorem shrE_ok {P : Program} {o : Oper} {t : Nat → AV} {rd : Nat → Blk} {e : CE} (h : shrE o t = some e) : CE.Good P o t rd e := by
  intro M _
  refine runs_step fun H E w a hC hT => ?_
  unfold shrE at h
  split at h
  case h_2 => cases h
  rename_i ty x y f hop
  have hx := rel_ev hT x
  have hy := rel_ev hT y
  have hr : ∀ (b : Int) (n : Nat), n < 64 → (binOp .shr ty (.int .u64 b) (.int .u64 (n : Int))).run P w = .ok (.int .u64 (b / 2 ^ n)) w := by
    intro b n hn
    have h1 : ¬ ((n : Int) < 0) := by omega
    have h2 : min n 64 = n := by omega
    simp [binOp, Op.shift, h1, IntKind.bits, h2]
  split at h
  · rename_i b n h1 h2
    rw [h1] at hx; rw [h2] at hy
    obtain ⟨hx, _⟩ := hx
    obtain ⟨hy, _⟩ := hy
    split at h
    case h_2 => cases h
    rename_i hn
    cases h
    refine ⟨_, w, H, E, by simp [execOp, hop, hx, hy, eqGuard, hr b n (by simpa using hn)], ⟨rfl, rfl⟩, hC, Evol.refl _ _ _ _⟩
  · rename_i b n h1 h2
    rw [h1] at hx; rw [h2] at hy
    obtain ⟨hx, _⟩ := hx
    obtain ⟨hy, _⟩ := hy
    split at h
    case h_2 => cases h
    rename_i hn
    cases h
    refine ⟨_, w, H, E, by simp [execOp, hop, hx, hy, eqGuard, hr b n (by simpa using hn)], ⟨rfl, rfl⟩, hC, Evol.refl _ _ _ _⟩
  · cases h

/-! a nil stored as a row of one's own -/
def nilStE (P : Program) (rd : Nat → Blk) (nid : Nat) (ty : TypeId) (a x : AV) : Option CE :=
  match x with
  | .s (.slice none 0 0) => (match P.underlying ty with
    | some (.slice el) => (match P.info? el with
      | some i => (match aStore P (some .ok) (fun j => match Nat.beq j nid with | true => .row el i.size 0 none (fun _ _ => .junk) | false => rd j) ty a (.own nid i.size 0 0) with
        | some e => some ⟨.junk, nid :: refOf a, (nid, .row el i.size 0 none (fun _ _ => .junk)) :: e.wr, [], e.ob.map (· = true)⟩
        | none => none)
      | none => none)
    | _ => none)
  | _ => none
theorem nilStE_ok {P : Program} {o : Oper} {t : Nat → AV} {rd : Nat → Blk} {nid : Nat} {ty : TypeId} {x y : Operand} {e : CE} (hd : ∀ k, nid ≤ k → rd k = .dead) (hop : o.op = .store ty x y) (h : nilStE P rd nid ty (ev t x) (ev t y) = some e) (ho : Hold e.ob) : CE.Good P o t rd e := by
  intro M hM H E w a K Q hC hT hdf hk
  have hx := rel_ev hT x
  have hy := rel_ev hT y
  unfold nilStE at h
  split at h
  case h_2 => cases h
  rename_i hyn
  rw [hyn] at hy
  obtain ⟨hy, _⟩ := hy
  split at h
  case h_2 => cases h
  rename_i el hu
  split at h
  case h_2 => cases h
  rename_i i hi
  split at h
  case h_2 => cases h
  rename_i ef hst
  cases h
  have hdn : getM M nid = .dead := (hM nid (by simp)).trans (hd nid (Nat.le_refl _))
  obtain ⟨e1, e2, e3, e4⟩ := E.set_same nid none 0 0
  have hvia := set_via (bo := none) (κ := 0) (η := 0) hC hdn
  obtain ⟨hc, hev⟩ := hC.new (w' := w) (i := nid) (κ := 0) (η := 0) (bo := none) (B := .row el i.size 0 none (fun _ _ => .junk)) hdn rfl rfl rfl (Nat.le_refl _) (fun _ _ => rfl) (fun b hb => by cases hb)
    ⟨e1, by rw [e3, e4]; exact ⟨rfl, Nat.le_refl _⟩, by rw [e3]; exact Nat.zero_le _, (fun q hq => by cases hq), by rw [e2]; exact e3⟩
  have hx1 : Rel (ev t x) H (E.set nid none 0 0) (a.eval x) := by
    have := Rel.ren _ hvia hx
    rwa [ren_some] at this
  have hy1 : Rel (.own nid i.size 0 0) H (E.set nid none 0 0) (a.eval y) := by
    rw [hy]
    exact ⟨e1, by rw [e3, e4]; exact ⟨Nat.le_refl _, Nat.le_refl _⟩, by rw [e2]; exact ⟨rfl, rfl, rfl⟩⟩
  have hst1 : aStore P (some .ok) (getM (putM M nid (.row el i.size 0 none (fun _ _ => .junk)))) ty (ev t x) (.own nid i.size 0 0) = some ef := by
    rw [← hst]
    refine aStore_congr fun j hj => ?_
    cases hb : Nat.beq j nid
    · have hne : nid ≠ j := fun e => by rw [e, Nat.beq_refl] at hb; cases hb
      rw [getM_put_ne _ _ _ _ hne]
      exact hM j (by simp [hj])
    · have := Nat.eq_of_beq_eq_true hb
      subst this
      rw [getM_put_same]
  obtain ⟨w', hrun, hr, hkl, hc2, hev2⟩ := store_good hc hx1 hy1 hst1 fun b hb => ho (b = true) (by simp; exact hb)
  unfold Oper.wp
  have hrun2 : (execOp a.eval o).run P w = .ok .skip w' := by simp [execOp, hop, hrun]
  rw [hrun2]
  exact hk undef w' H _ trivial hc2 (hev.trans hev2 fun _ h => h)
/-! rows of one's own that are written no more -/
structure FrOk (H : HH) (E : Env) (w : World) (i sz m : Nat) (c : Nat → Nat → AV) : Prop where
  lv : E.lv i = true
  me : m = E.η i
  val : ∀ b, E.ι i = some b → ∃ vs ty, w.heap[b]? = some (.cells vs ty (0, 0)) ∧ ∀ k, k < m → ∀ j, j < sz → ∃ x, vs[k * sz + j]? = some x ∧ x.oneCell' = true ∧ Rel (c k j) (fun _ => H true) E0 x
theorem fr_row {H : HH} {E : Env} {w : World} {i sz m : Nat} {ty : TypeId} {cap : Option Nat} {c : Nat → Nat → AV} (h : BlkOk H E w i (.row ty sz m cap c)) (ht : ∀ k, k < m → ∀ j, j < sz → tagT (c k j) = true) : FrOk H E w i sz m c := by
  obtain ⟨h1, h2, h3, h4, h5⟩ := h
  refine ⟨h1, h2.1, fun b hb => ?_⟩
  rw [hb] at h5
  obtain ⟨vs, g1, g2, g3, g4⟩ := h5
  refine ⟨vs, ty, g1, fun k hk j hj => ?_⟩
  obtain ⟨x, hx, hr⟩ := g4 k hk j hj
  refine ⟨x, hx, g2 x ?_, Rel.tag _ (ht k hk j hj) hr⟩
  have hlt : k * sz + j < m * sz := by
    have : (k + 1) * sz ≤ m * sz := Nat.mul_le_mul_right _ hk
    rw [Nat.add_mul] at this; omega
  refine List.mem_iff_getElem?.2 ⟨k * sz + j, ?_⟩
  rw [List.getElem?_take, if_pos hlt]
  simpa using hx
theorem fr_lst {H : HH} {E : Env} {w : World} {i sz m : Nat} {ty : TypeId} {cap : Option Nat} {cs : List AV} (h : BlkOk H E w i (.lst ty sz m cap cs)) (hn : noRefL cs = true) (ht : tagTL cs = true) : FrOk H E w i sz m (fun k j => get cs (k * sz + j)) := by
  obtain ⟨h1, h2, h3, h4, h5⟩ := h
  refine ⟨h1, h2.1, fun b hb => ?_⟩
  rw [hb] at h5
  obtain ⟨vs, g1, g2, g3, g4⟩ := h5
  refine ⟨vs, ty, g1, fun k hk j hj => ?_⟩
  have hlt : k * sz + j < m * sz := by
    have : (k + 1) * sz ≤ m * sz := Nat.mul_le_mul_right _ hk
    rw [Nat.add_mul] at this; omega
  have hsz : m * sz ≤ E.κ i * sz := Nat.mul_le_mul_right _ h2.2
  have hlv : k * sz + j < vs.size := by omega
  have hx : vs[k * sz + j]? = some vs[k * sz + j] := Array.getElem?_eq_getElem hlv
  have hx2 : (vs.toList.take (m * sz))[k * sz + j]? = some vs[k * sz + j] := by
    rw [List.getElem?_take, if_pos hlt]; simp
  refine ⟨_, hx, g2 _ (List.mem_iff_getElem?.2 ⟨_, hx2⟩), ?_⟩
  have hr := relL_get g4 _ _ hx2
  have htg : ∀ (l : List AV) (q : Nat), tagTL l = true → tagT (get l q) = true := by
    intro l
    induction l with
    | nil => intro q _; cases q <;> rfl
    | cons a r ih =>
      intro q hq
      simp only [tagTL, Bool.and_eq_true] at hq
      cases q with
      | zero => exact hq.1
      | succ q => exact ih q hq.2
  exact Rel.noRef _ (noRef_get hn _) (Rel.tag _ (htg cs _ ht) hr)
def HH.frz (H : HH) (w : World) (fr : Nat → Bool) : HH := fun x b => match fr b with | true => w.heap[b]? | false => H x b
def Env.drop (E : Env) (L : List Nat) : Env := ⟨fun j => !mem L j && E.lv j, E.ι, E.κ, E.η⟩
def isFr (E : Env) : List Nat → Nat → Bool
  | [], _ => false
  | i :: r, b => decide (E.ι i = some b) || isFr E r b
theorem isFr_iff {E : Env} : ∀ {L : List Nat} {b : Nat}, isFr E L b = true ↔ ∃ i ∈ L, E.ι i = some b
  | [], b => by simp [isFr]
  | a :: r, b => by simp [isFr, isFr_iff (L := r)]
def deadW : List Nat → List (Nat × Blk)
  | [] => []
  | i :: r => (i, .dead) :: deadW r
theorem lastW_dead : ∀ (L : List Nat) (j : Nat), lastW (deadW L) j = if mem L j then some .dead else none
  | [], _ => rfl
  | i :: r, j => by
    simp only [deadW, lastW, lastW_dead r j, mem]
    by_cases hm : mem r j = true
    · simp [hm]
    · have hm' : mem r j = false := by simpa using hm
      by_cases hi : i = j
      · simp [hm', hi]
      · have : Nat.beq i j = false := by
          cases hb : Nat.beq i j
          · rfl
          · exact absurd (Nat.eq_of_beq_eq_true hb) hi
        simp [hm', hi, this]
theorem freeze_ok {H : HH} {E : Env} {w : World} {M : List Blk} {L : List Nat} (hC : Conc H E w M) (hL : ∀ i ∈ L, E.lv i = true) :
    H.le (H.frz w (isFr E L)) ∧ Conc (H.frz w (isFr E L)) (E.drop L) w (applyW (deadW L) (killM L M)) ∧ Evol L H E w (H.frz w (isFr E L)) (E.drop L) w := by
  have hnone : ∀ x b, isFr E L b = true → H x b = none := by
    intro x b hb
    obtain ⟨i, hi, hib⟩ := isFr_iff.1 hb
    have h0 := hC.sep i b (hL i hi) hib
    cases x
    · exact h0
    · cases hx : H true b with
      | none => rfl
      | some o => have := hC.tf.1 b o hx; rw [h0] at this; cases this
  have hle : H.le (H.frz w (isFr E L)) := by
    intro x b o ho
    show (match isFr E L b with | true => w.heap[b]? | false => H x b) = some o
    cases hb : isFr E L b
    · exact ho
    · rw [hnone x b hb] at ho; cases ho
  have hcase : ∀ x b o, H.frz w (isFr E L) x b = some o → (isFr E L b = true ∧ w.heap[b]? = some o) ∨ H x b = some o := by
    intro x b o ho
    have ho : (match isFr E L b with | true => w.heap[b]? | false => H x b) = some o := ho
    cases hb : isFr E L b
    · rw [hb] at ho; exact .inr ho
    · rw [hb] at ho; exact .inl ⟨rfl, ho⟩
  have hlv : ∀ j, (E.drop L).lv j = true → j ∉ L ∧ E.lv j = true := by
    intro j hj
    simp only [Env.drop, Bool.and_eq_true, Bool.not_eq_true'] at hj
    refine ⟨fun hm => ?_, hj.2⟩
    rw [mem_iff.2 hm] at hj
    cases hj.1
  have hvia : E.via (E.drop L) (keepOf L) := by
    intro i j hij hl
    have hj := keepOf_some hij
    subst hj
    unfold keepOf at hij
    split at hij
    · cases hij
    · rename_i hn
      have hm : mem L j = false := by
        cases hm : mem L j
        · rfl
        · exact absurd (List.contains_iff_mem.2 (mem_iff.1 hm)) hn
      exact ⟨by simp [Env.drop, hm, hl], rfl, rfl, rfl⟩
  refine ⟨hle, ⟨fun b o ho => ?_, hC.tf.up hle (fun b o ho => ?_), fun j => ?_, fun i j b hi hj hib hjb => ?_, fun i b hi hib => ?_⟩, ⟨rfl, rfl, rfl, Nat.le_refl _, fun _ _ _ => rfl, fun i b hi hib => .inl ⟨i, (hlv i hi).2, hib⟩, hle, fun x b o ho => ?_, fun i hi hn => ?_⟩⟩
  · rcases hcase false b o ho with ⟨_, h⟩ | h
    · exact h
    · exact hC.imm b o h
  · show (match isFr E L b with | true => w.heap[b]? | false => H false b) = some o
    have ho : (match isFr E L b with | true => w.heap[b]? | false => H true b) = some o := ho
    cases hb : isFr E L b
    · rw [hb] at ho; exact hC.tf.1 b o ho
    · rw [hb] at ho; exact ho
  · rw [getM_applyW, lastW_dead, getM_kill]
    cases hm : mem L j
    · simp only [Bool.false_eq_true, if_false, Option.getD_none]
      exact (hC.blk j).move hle hvia (by simp [Env.drop, hm]) rfl rfl rfl fun _ _ _ => rfl
    · simp only [if_true, Option.getD_some]
      show (E.drop L).lv j = false
      simp [Env.drop, hm]
  · exact hC.inj i j b (hlv i hi).2 (hlv j hj).2 hib hjb
  · obtain ⟨h1, h2⟩ := hlv i hi
    show (match isFr E L b with | true => w.heap[b]? | false => H false b) = none
    cases hb : isFr E L b
    · exact hC.sep i b h2 hib
    · obtain ⟨j, hj, hjb⟩ := isFr_iff.1 hb
      have := hC.inj i j b h2 (hL j hj) hib hjb
      subst this
      exact absurd hj h1
  · rcases hcase x b o ho with ⟨h, _⟩ | h
    · obtain ⟨i, hi, hib⟩ := isFr_iff.1 h
      exact .inr (.inr ⟨i, hL i hi, hib⟩)
    · exact .inl h
  · have hm : mem L i = false := by
      cases hm : mem L i
      · rfl
      · exact absurd (mem_iff.1 hm) hn
    exact ⟨by simp [Env.drop, hm, hi], rfl, rfl, rfl⟩
theorem frz_rel {H : HH} {E : Env} {w : World} {L : List Nat} {i sz lo n m : Nat} {c : Nat → Nat → AV} {v : Value} (hi : i ∈ L) (hF : FrOk H E w i sz m c) (hle : H.le (H.frz w (isFr E L))) (h : Rel (.own i sz lo n) H E v) : Rel (.ys true sz n (rowAt lo c)) (H.frz w (isFr E L)) (E.drop L) v := by
  obtain ⟨hl, hη, hm⟩ := h
  cases hib : E.ι i with
  | none =>
    rw [hib] at hm
    obtain ⟨_, rfl, rfl⟩ := hm
    exact ⟨none, 0, rfl, ⟨Nat.le_refl _, fun _ => rfl⟩, fun h => absurd h (Nat.lt_irrefl _)⟩
  | some b =>
    rw [hib] at hm
    obtain ⟨a, rfl, ha, hne⟩ := hm
    refine ⟨a, _, rfl, ⟨by omega, fun h => absurd h hne⟩, fun h0 => ⟨_, ha (.inr h0), fun k hk j hj => ?_⟩⟩
    obtain ⟨vs, ty, h1, h2⟩ := hF.val b hib
    have hme := hF.me
    obtain ⟨x, hx, ho, hr⟩ := h2 (lo + k) (by omega) j hj
    refine ⟨x, ?_, ho, ?_⟩
    · rw [addr_add]
      have hb : isFr E L b = true := isFr_iff.2 ⟨i, hi, hib⟩
      have e : H.frz w (isFr E L) true b = some (.cells vs ty (0, 0)) := by
        show (match isFr E L b with | true => w.heap[b]? | false => H true b) = _
        rw [hb]; exact h1
      unfold IH.cell?
      simp only [e]
      rw [Nat.add_mul] at hx
      have e2 : lo * sz + (k * sz + j) = lo * sz + k * sz + j := by omega
      rw [e2]
      simpa using hx
    · rw [rowAt_eq]
      have : HH.le (fun _ => H true) (HH.at (H.frz w (isFr E L)) true) := fun _ => hle true
      exact Rel.mono _ this hr
def frzC (rd : Nat → Blk) : List AV → Option (List AV × List Nat × List Prop)
  | [] => some ([], [], [])
  | a :: r => (match frzC rd r with
    | none => none
    | some (l, L, ob) => (match a with
      | .own i sz lo n => (match rd i with
        | .row _ s2 m _ c => (match Nat.beq s2 sz && !mem L i with
          | true => some (.ys true sz n (rowAt lo c) :: l, i :: L, (∀ k, k < m → ∀ j, j < sz → tagT (c k j) = true) :: ob)
          | false => none)
        | .lst _ s2 _ _ cs => (match Nat.beq s2 sz && !mem L i && noRefL cs && tagTL cs with
          | true => some (.ys true sz n (rowAt lo fun k j => get cs (k * sz + j)) :: l, i :: L, ob)
          | false => none)
        | _ => none)
      | a => (match noRef a with | true => some (a :: l, L, ob) | false => none)))
theorem frzC_lv {rd : Nat → Blk} {H : HH} {E : Env} {w : World} {M : List Blk} : ∀ {cells : List AV} {l : List AV} {L : List Nat} {ob : List Prop} {vs : List Value}, frzC rd cells = some (l, L, ob) → RelL cells H E vs → ∀ i ∈ L, E.lv i = true
  | [], l, L, ob, vs, h, _, i, hi => by simp only [frzC] at h; cases h; cases hi
  | a :: r, l, L, ob, vs, h, hr, i, hi => by
    obtain ⟨v, s, _, h1, h2⟩ := hr
    simp only [frzC] at h
    split at h
    · cases h
    rename_i l' L' ob' hr'
    have ih := frzC_lv (M := M) (w := w) hr' h2
    split at h
    · split at h
      · split at h
        · cases h
          rcases List.mem_cons.1 hi with rfl | hi
          · exact h1.1
          · exact ih i hi
        · cases h
      · split at h
        · cases h
          rcases List.mem_cons.1 hi with rfl | hi
          · exact h1.1
          · exact ih i hi
        · cases h
      · cases h
    · split at h
      · cases h; exact ih i hi
      · cases h
theorem frzC_rel {rd : Nat → Blk} {H : HH} {E : Env} {w : World} {M : List Blk} {LL : List Nat} (hC : Conc H E w M) (hle : H.le (H.frz w (isFr E LL))) : ∀ {cells : List AV} {l : List AV} {L : List Nat} {ob : List Prop} {vs : List Value}, frzC rd cells = some (l, L, ob) → (∀ i ∈ L, i ∈ LL ∧ getM M i = rd i) → Hold ob → RelL cells H E vs → RelL l (H.frz w (isFr E LL)) (E.drop LL) vs
  | [], l, L, ob, vs, h, _, _, hr => by simp only [frzC] at h; cases h; exact hr
  | a :: r, l, L, ob, vs, h, hM, ho, hr => by
    obtain ⟨v, s, rfl, h1, h2⟩ := hr
    simp only [frzC] at h
    split at h
    · cases h
    rename_i l' L' ob' hr'
    split at h
    · rename_i i sz lo n
      split at h
      · rename_i ty s2 m cap c hrd
        split at h
        · rename_i hb
          cases h
          simp only [Bool.and_eq_true, Nat.beq_eq] at hb
          obtain ⟨rfl, _⟩ := hb
          have hB := hC.blk i
          obtain ⟨hi, hMi⟩ := hM i (by simp)
          rw [hMi, hrd] at hB
          have hF := fr_row hB (ho _ (by simp))
          exact ⟨v, s, rfl, frz_rel hi hF hle h1, frzC_rel hC hle hr' (fun j hj => hM j (by simp [hj])) (fun p hp => ho p (by simp [hp])) h2⟩
        · cases h
      · rename_i ty s2 m cap cs hrd
        split at h
        · rename_i hb
          cases h
          simp only [Bool.and_eq_true, Nat.beq_eq] at hb
          obtain ⟨⟨⟨rfl, _⟩, hn⟩, ht⟩ := hb
          have hB := hC.blk i
          obtain ⟨hi, hMi⟩ := hM i (by simp)
          rw [hMi, hrd] at hB
          have hF := fr_lst hB hn ht
          exact ⟨v, s, rfl, frz_rel hi hF hle h1, frzC_rel hC hle hr' (fun j hj => hM j (by simp [hj])) ho h2⟩
        · cases h
      · cases h
    · split at h
      · rename_i hn
        cases h
        exact ⟨v, s, rfl, Rel.mono _ hle (Rel.noRef _ hn h1), frzC_rel hC hle hr' hM ho h2⟩
      · cases h
def frzE (rd : Nat → Blk) : AV → Option CE
  | .agg cs => (match frzC rd cs with | some (l, L, ob) => some ⟨.agg l, L, deadW L, L, ob⟩ | none => none)
  | .own i sz lo n => (match frzC rd [.own i sz lo n] with | some (l, L, ob) => some ⟨get l 0, L, deadW L, L, ob⟩ | none => none)
  | _ => none
theorem frzE_ok {P : Program} {o : Oper} {t : Nat → AV} {rd : Nat → Blk} {x : Operand} {e : CE} (hop : o.op = .move x ∨ o.op = .assign x) (h : frzE rd (ev t x) = some e) (ho : Hold e.ob) : CE.Good P o t rd e := by
  intro M hM
  refine runs_step fun H E w a hC hT => ?_
  have hx := rel_ev hT x
  unfold frzE at h
  split at h
  · rename_i cs hcs
    rw [hcs] at hx
    obtain ⟨vs, hv, hr⟩ := hx
    split at h
    case h_2 => cases h
    rename_i l L ob hf
    cases h
    have hL := frzC_lv (M := M) (w := w) hf hr
    obtain ⟨hle, hC2, hE2⟩ := freeze_ok hC hL
    refine ⟨a.eval x, w, _, _, ?_, ⟨vs, hv, frzC_rel hC hle hf (fun i hi => ⟨hi, hM i hi⟩) ho hr⟩, hC2, hE2⟩
    rcases hop with hop | hop <;> simp [execOp, hop]
  · rename_i i sz lo n hcs
    rw [hcs] at hx
    split at h
    case h_2 => cases h
    rename_i l L ob hf
    cases h
    have hr : RelL [.own i sz lo n] H E [a.eval x] := ⟨_, _, rfl, hx, rfl⟩
    have hL := frzC_lv (M := M) (w := w) hf hr
    obtain ⟨hle, hC2, hE2⟩ := freeze_ok hC hL
    refine ⟨a.eval x, w, _, _, ?_, ?_, hC2, hE2⟩
    · rcases hop with hop | hop <;> simp [execOp, hop]
    · have := frzC_rel hC hle hf (fun i hi => ⟨hi, hM i hi⟩) ho hr
      have h0 := relL_get this 0 (a.eval x) (by simp)
      exact h0
  · cases h
/-- the special operations: those that a place is told to have, and those of rows -/
def mvE (rd : Nat → Blk) (h : Nat) (x : AV) : Option CE := match h with
  | 0 => none
  | 1 => (match x with | .agg _ => frzE rd x | _ => shrinkE rd x)
  | d + 2 => (match Nat.beq d 777 with | true => frzE rd x | false => intoE rd d x)
theorem mvE_ok {P : Program} {o : Oper} {t : Nat → AV} {rd : Nat → Blk} {h : Nat} {x : Operand} {e : CE} (hop : o.op = .move x ∨ o.op = .assign x) (he : mvE rd h (ev t x) = some e) (ho : Hold e.ob) : CE.Good P o t rd e := by
  unfold mvE at he
  split at he
  · cases he
  · split at he
    · exact frzE_ok hop he ho
    · exact shrinkE_ok hop he
  · split at he
    · exact frzE_ok hop he ho
    · exact intoE_ok hop he
/-- an operation that only reads, and what came of it is frozen -/
def frzAny (P : Program) (rd : Nat → Blk) (nid : Nat) (o : Oper) (t : Nat → AV) : Option CE :=
  match yop P rd nid o t with
  | some e => (match e.wr, e.kl, frzE rd e.r with
    | [], [], some f => some ⟨f.r, e.rd ++ f.rd, f.wr, f.kl, e.ob ++ f.ob⟩
    | _, _, _ => none)
  | none => none
theorem frzV {rd : Nat → Blk} {r : AV} {f : CE} (h : frzE rd r = some f) (ho : Hold f.ob) {M : List Blk} (hM : ∀ i ∈ f.rd, getM M i = rd i) {H : HH} {E : Env} {w : World} {v : Value} (hC : Conc H E w M) (hr : Rel r H E v) :
    ∃ H' E', Rel f.r H' E' v ∧ Conc H' E' w (applyW f.wr (killM f.kl M)) ∧ Evol f.kl H E w H' E' w := by
  unfold frzE at h
  split at h
  · rename_i cs
    obtain ⟨vs, hv, hr⟩ := hr
    split at h
    case h_2 => cases h
    rename_i l L ob hf
    cases h
    have hL := frzC_lv (M := M) (w := w) hf hr
    obtain ⟨hle, hC2, hE2⟩ := freeze_ok hC hL
    exact ⟨_, _, ⟨vs, hv, frzC_rel hC hle hf (fun i hi => ⟨hi, hM i hi⟩) ho hr⟩, hC2, hE2⟩
  · rename_i i sz lo n
    split at h
    case h_2 => cases h
    rename_i l L ob hf
    cases h
    have hr : RelL [.own i sz lo n] H E [v] := ⟨_, _, rfl, hr, rfl⟩
    have hL := frzC_lv (M := M) (w := w) hf hr
    obtain ⟨hle, hC2, hE2⟩ := freeze_ok hC hL
    exact ⟨_, _, relL_get (frzC_rel hC hle hf (fun i hi => ⟨hi, hM i hi⟩) ho hr) 0 v (by simp), hC2, hE2⟩
  · cases h
theorem frzAny_ok {P : Program} {rd : Nat → Blk} {nid : Nat} {o : Oper} {t : Nat → AV} {e : CE} (hd : ∀ k, nid ≤ k → rd k = .dead) (h : frzAny P rd nid o t = some e) (ho : Hold e.ob) : CE.Good P o t rd e := by
  unfold frzAny at h
  split at h
  case h_2 => cases h
  rename_i g hg
  split at h
  case h_2 => cases h
  rename_i f hw hk hf
  cases h
  obtain ⟨o1, o2⟩ := ho.append
  intro M hM H E w a K Q hC hT hdf hkk
  have hs := yop_ok hg o1 hd (M := M) (fun i hi => hM i (by simp [hi]))
  refine hs H E w a K Q hC hT hdf fun v w' H' E' hr hc hev => ?_
  rw [hw, hk] at hc
  rw [hk] at hev
  have hc : Conc H' E' w' M := hc
  obtain ⟨H2, E2, q1, q2, q3⟩ := frzV hf o2 (M := M) (fun i hi => hM i (by simp [hi])) hc hr
  exact hkk v w' H2 E2 q1 q2 (hev.trans q3 fun _ h => by cases h)
/-- zeros appended to nothing, and the others -/
def moreF (P : Program) (rd : Nat → Blk) (nid : Nat) (o : Oper) (t : Nat → AV) : Option CE := match (match zerosL P nid o t with | some e => some e | none => zerosE P nid o t) with
  | some e => some e
  | none => (match moreE P rd nid o t with
    | some e => some e
    | none => moreM P rd nid o t)
theorem moreF_ok {P : Program} {rd : Nat → Blk} {nid : Nat} {o : Oper} {t : Nat → AV} {e : CE} (hd : ∀ k, nid ≤ k → rd k = .dead) (h : moreF P rd nid o t = some e) (ho : Hold e.ob) : CE.Good P o t rd e := by
  unfold moreF at h
  split at h
  · rename_i g hg
    cases h
    split at hg
    · rename_i g' hg'
      cases hg
      exact zerosL_ok hd hg'
    · exact zerosE_ok hd hg ho
  · split at h
    · rename_i g hg
      cases h
      exact moreE_ok hd hg ho
    · exact moreM_ok hd h
def spX (P : Program) (sh : Nat → Nat) : SP := fun nid p o t rd =>
  match Nat.beq (sh p) 779 with
  | true => (match frzAny P rd nid o t with | some e => some e.toT | none => none)
  | false =>
  match Nat.ble 1000 (sh p) with
  | true => (match aggZ P rd nid o t (sh p - 1000) with | some e => some e.toT | none => none)
  | false =>
  match o.op with
  | .store ty x y => (match sh p with
    | 1 => (match nilStE P rd nid ty (ev t x) (ev t y) with | some e => some e.toT | none => none)
    | _ => none)
  | .move x => (match mvE rd (sh p) (ev t x) with | some e => some e.toT | none => none)
  | .assign x => (match mvE rd (sh p) (ev t x) with | some e => some e.toT | none => none)
  | .binOp .. => (match nilQ P o t with | some e => some e.toT | none => (match shrE o t with | some e => some e.toT | none => (match moreF P rd nid o t with | some e => some e.toT | none => none)))
  | .call { callee := .builtin .clear, args, argTypes } => (match args.toList, argTypes.toList with
    | [x], [ty] => (match clearE P rd ty (ev t x) with | some e => some e.toT | none => (match clearL P rd ty (ev t x) with | some e => some e.toT | none => none))
    | _, _ => none)
  | _ => (match moreF P rd nid o t with | some e => some e.toT | none => none)
theorem spX_ok (P : Program) (sh : Nat → Nat) : SpOk P (spX P sh) := by
  intro nid p o t rd T h hd
  unfold spX at h
  split at h
  · split at h
    case h_2 => cases h
    rename_i e he
    cases h
    exact CE.toT_ok fun ho => by
      have := frzAny_ok hd he (o := o) (t := t)
      exact this ho
  split at h
  · split at h
    case h_2 => cases h
    rename_i e he
    cases h
    exact CE.toT_ok fun ho => aggZ_ok hd he ho
  split at h
  · rename_i ty x y hop
    split at h
    case h_2 => cases h
    split at h
    case h_2 => cases h
    rename_i e he
    cases h
    exact CE.toT_ok fun ho => by
      have := nilStE_ok hd hop he (t := t)
      exact this ho
  · rename_i x hop
    split at h
    case h_2 => cases h
    rename_i e he
    cases h
    exact CE.toT_ok fun ho => mvE_ok (.inl hop) he ho
  · rename_i x hop
    split at h
    case h_2 => cases h
    rename_i e he
    cases h
    exact CE.toT_ok fun ho => mvE_ok (.inr hop) he ho
  · split at h
    · rename_i e he
      cases h
      exact CE.toT_ok fun _ => nilQ_ok he
    · split at h
      · rename_i e he
        cases h
        exact CE.toT_ok fun _ => shrE_ok he
      · split at h
        case h_2 => cases h
        rename_i e he
        cases h
        exact CE.toT_ok fun ho => moreF_ok hd he ho
  · rename_i args ats hop
    split at h
    case h_2 => cases h
    rename_i x ty hx hty
    have h1 : args = #[x] := Array.ext' hx
    have h2 : ats = #[ty] := Array.ext' hty
    subst h1; subst h2
    split at h
    · rename_i e he
      cases h
      exact CE.toT_ok fun _ => clearE_ok hop he
    · split at h
      case h_2 => cases h
      rename_i e he
      cases h
      exact CE.toT_ok fun _ => clearL_ok hop he
  · split at h
    case h_2 => cases h
    rename_i e he
    cases h
    exact CE.toT_ok fun ho => moreF_ok hd he ho
/-- the usual hints: nothing told but the special operations -/
def hT (P : Program) : HintsT P := { noHT P with sp := fun _ _ => spX P fun _ => 0, spOk := fun _ _ => spX_ok P _ }
end Go.Ax
