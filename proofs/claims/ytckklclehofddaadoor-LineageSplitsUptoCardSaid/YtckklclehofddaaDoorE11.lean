import Derived.Test.YtckklclehofddaaDoorE9
import Derived.Test.YtckklclehofddaaDoorE10
set_option linter.unusedVariables false
set_option linter.unusedSimpArgs false
set_option linter.unusedSectionVars false
namespace Go.Ax
open Go
variable [Inhabited Gl0]
open Go.MapKept (IsKey sameNow_of_keys heap_set run_checkKey run_findKey)
def KeyT.desc : KeyT → TypeDesc
  | .s => .string
  | .i kk => .int kk
theorem KeyT.isKey (q : KeyT) (x : q.ty) : IsKey q.desc (q.val x) := by
  cases q with
  | s => trivial
  | i kk => exact (rfl : kk = kk)
theorem KeyT.val_inj {q : KeyT} {x y : q.ty} (h : q.val x = q.val y) : x = y := by
  cases q with
  | s => exact Value.string.inj h
  | i kk => exact (Value.int.inj h).2
def KeyT.of : (q : KeyT) → Value → Option q.ty
  | .s, .string z => some z
  | .i kk, .int k x => (match kindB k kk with | true => some x | false => none)
  | _, _ => none
theorem KeyT.of_ok {q : KeyT} {v : Value} {x : q.ty} (h : q.of v = some x) : v = q.val x := by
  cases q with
  | s =>
    cases v with
    | string z => simp only [KeyT.of] at h; cases h; rfl
    | _ => simp [KeyT.of] at h
  | i kk =>
    cases v with
    | int k z =>
      simp only [KeyT.of] at h
      split at h
      · rename_i hk
        have := of_decide_eq_true hk
        subst this
        cases h; rfl
      · cases h
    | _ => simp [KeyT.of] at h
theorem tm_find {q : KeyT} {x : q.ty} : ∀ {l : List MapEntry} (i : Nat), (∀ e ∈ l, ∃ y, e.key = q.val y) →
    ((∀ e ∈ l, e.key ≠ q.val x) ∧ Instr.findNow q.desc (q.val x) l i = some none) ∨ ∃ j e, l[j]? = some e ∧ e.key = q.val x ∧ Instr.findNow q.desc (q.val x) l i = some (some (i + j, e.val))
  | [], i, _ => .inl ⟨fun _ h => (by cases h), rfl⟩
  | e :: r, i, h => by
    obtain ⟨y, hy⟩ := h e (.head _)
    obtain ⟨b, hb, hiff⟩ := sameNow_of_keys (q.isKey x) (by rw [hy]; exact q.isKey y : IsKey q.desc e.key)
    cases b with
    | true => exact .inr ⟨0, e, rfl, (hiff.1 rfl).symm, by simp [Instr.findNow, hb]⟩
    | false =>
      have hne : e.key ≠ q.val x := fun e => by have := hiff.2 e.symm; cases this
      rcases tm_find (x := x) (i + 1) (fun z hz => h z (.tail _ hz)) with ⟨g1, g2⟩ | ⟨j, e', g1, g2, g3⟩
      · refine .inl ⟨fun z hz => ?_, by simp [Instr.findNow, hb, g2]⟩
        rcases List.mem_cons.1 hz with rfl | hz
        · exact hne
        · exact g1 z hz
      · exact .inr ⟨j + 1, e', by simpa using g1, g2, by simp [Instr.findNow, hb, g3]; omega⟩
theorem upd_same {w : World} {b : Nat} {o : Obj} (h : w.heap[b]? = some o) : Upd w w b o := ⟨rfl, rfl, rfl, rfl, h, fun _ _ => rfl⟩
theorem focus_ok {H : HH} {E : Env} {w : World} {M : List Blk} (hC : Conc H E w M) {i n nid : Nat} {q : KeyT} {has : q.ty → Bool} {c : q.ty → Tr} {kn : List (q.ty × AV)} {x : q.ty} (hg : getM M i = .tmap q has c n kn) (hx : has x = true) (hk : ∀ p ∈ kn, p.1 ≠ x) (hlt : i < nid) (hd : ∀ k, nid ≤ k → k < nid + len (openV (c x) nid).2 → getM M k = .dead) :
    ∃ v E' b ms ck, E.ι i = some b ∧ w.heap[b]? = some (.map ms ck) ∧ EntsOk q ms.toList ck ∧ mgetK q x ms.toList v ∧ Conc H E' w (putM (puts M nid (openV (c x) nid).2) i (.tmap q has c n ((x, (openV (c x) nid).1) :: kn))) ∧ Evol [] H E w H E' w ∧ Rel (openV (c x) nid).1 H E' v := by
  have hB := hC.blk i
  rw [hg] at hB
  obtain ⟨hl, b, ms, ck, F, h1, h2, h3, h4⟩ := hB
  obtain ⟨v, hv⟩ := (h4.hasK x).1 hx
  obtain ⟨hC1, _⟩ := hC.upd hl h1 (upd_same h3) (B := .any) ⟨hl, b, _, h1, h3⟩
  have hp : Pool H E w (putM M i .any) i nid (nid + len (openV (c x) nid).2) := ⟨hC1, getM_put_same _ _ _, hlt, fun k hk ht => by rw [getM_put_ne _ _ _ _ (by omega)]; exact hd k hk ht, fun y hy hs => by rw [h1] at hy; cases hy; exact h2 hs⟩
  obtain ⟨E', g1, g2, g3, g4⟩ := openV_ok (c x) hp (Nat.le_refl _) (fun y hy => h4.own x y hy) (h4.tr x hk v hv)
  obtain ⟨e1, e2, e3, e4⟩ := g3.ids i hl
  refine ⟨v, E', b, ms, ck, h1, h3, h4.ents, hv, ?_, g2, g4⟩
  have hB' : BlkOk H E' w i (.tmap q has c n ((x, (openV (c x) nid).1) :: kn)) := by
    refine ⟨e1, b, ms, ck, fun y z => F y z ∧ y ≠ x, e2.trans h1, fun hs => h2 (g3.sub _ hs), h3, h4.ents, h4.size, h4.hasK, fun p hp => ?_, fun y z hy => g3.rest z (h4.own y z hy.1) fun hz => hy.2 (h4.sep y x z hy.1 hz), fun y y' z hy hy' => h4.sep y y' z hy.1 hy'.1, fun y hy u hu => ?_⟩
    · rcases List.mem_cons.1 hp with rfl | hp
      · exact ⟨v, hv, g4⟩
      · obtain ⟨u, a1, a2⟩ := h4.known p hp
        exact ⟨u, a1, Rel.env g3.via a2⟩
    · have hyx : y ≠ x := fun e => hy (x, (openV (c x) nid).1) (by simp) e.symm
      exact TrOk.move (HH.le_refl _) _ (fun z hz => ⟨hz, hyx⟩) (fun _ _ => rfl) (h4.tr y (fun p hp => hy p (List.mem_cons_of_mem _ hp)) u hu)
  obtain ⟨hC2, _⟩ := g1.upd e1 (e2.trans h1) (upd_same h3) hB'
  refine hC2.eqv fun j => ?_
  by_cases hj : i = j
  · subst hj; rw [getM_put_same, getM_put_same]
  · rw [getM_put_ne _ _ _ _ hj, getM_put_ne _ _ _ _ hj, getM_puts, getM_puts, getM_put_ne _ _ _ _ hj]
def noneK {α : Type} (x : α) (t : T CE) : List (α × AV) → T CE
  | [] => t
  | (k, _) :: r => .need (¬ x = k) (noneK x t r)
def wrFrom (d : Nat) : List Blk → List (Nat × Blk)
  | [] => []
  | B :: r => (d, B) :: wrFrom (d + 1) r
def nthK {α : Type} : List (α × AV) → Nat → Option (α × AV)
  | [], _ => none
  | p :: _, 0 => some p
  | _ :: r, n + 1 => nthK r n
def idxK (h l : Nat) : Nat := match Nat.ble 900 h with | true => l - 1 - (h - 900) | false => h - 784
def lookNew (nid i : Nat) (q : KeyT) (has : q.ty → Bool) (c : q.ty → Tr) (n : Nat) (kn : List (q.ty × AV)) (x : q.ty) (ok : Bool) (z : AV) : T CE :=
  noneK x (.ite (has x) (.ret ⟨tupOk ok (openV (c x) nid).1 (.s (.bool true)), i :: upFrom nid (len (openV (c x) nid).2), (i, .tmap q has c n ((x, (openV (c x) nid).1) :: kn)) :: wrFrom nid (openV (c x) nid).2, [], []⟩)
              (.ret ⟨tupOk ok z (.s (.bool false)), [i], [], [], []⟩)) kn
def lookT (P : Program) (rd : Nat → Blk) (nid h : Nat) (o : Oper) (t : Nat → AV) : Option (T CE) :=
  match o.op with
  | .lookup xt x idx ok => (match keyD P xt, scV (ev t idx), ev t x with
    | some (d, _, et), some kv, .mref i => (match rd i with
      | .tmap q has c n kn => (match q.of kv, zeroAV P et, keyIs d kv with
        | some x, some z, true => (match (match Nat.ble 784 h with | true => nthK kn (idxK h (len kn)) | false => none) with
          | some (k, a) => some (.need (x = k) (.ret ⟨tupOk ok a (.s (.bool true)), [i], [], [], []⟩))
          | none => some (lookNew nid i q has c n kn x ok z))
        | _, _, _ => none)
      | _ => none)
    | _, _, _ => none)
  | _ => none
theorem keyIs_desc {d : TypeDesc} {q : KeyT} {x : q.ty} (h : keyIs d (q.val x) = true) : d = q.desc := by
  cases q with
  | s => unfold keyIs at h; split at h <;> first | rfl | (rename_i he; cases he) | cases h
  | i kk =>
    unfold keyIs at h
    split at h
    · rename_i he
      cases he
      rw [of_decide_eq_true h]; rfl
    · rename_i he; cases he
    · rename_i he; cases he
    · cases h
theorem noneK_ok {α : Type} {x : α} {t : T CE} {Q : CE → Prop} : ∀ {kn : List (α × AV)}, ((∀ p ∈ kn, p.1 ≠ x) → t.Sat Q) → (noneK x t kn).Sat Q
  | [], h => h fun p hp => by cases hp
  | (k, a) :: r, h => T.Sat.need fun hk => noneK_ok fun hr => h fun p hp => by
    rcases List.mem_cons.1 hp with rfl | hp
    · exact fun e => hk e.symm
    · exact hr p hp
theorem applyW_wrFrom : ∀ (L M : List Blk) (d : Nat), applyW (wrFrom d L) M = puts M d L
  | [], _, _ => rfl
  | B :: r, M, d => by simp only [wrFrom, applyW, puts]; exact applyW_wrFrom r _ _
theorem nthK_mem {α : Type} {p : α × AV} : ∀ {l : List (α × AV)} {n : Nat}, nthK l n = some p → p ∈ l
  | [], _, h => by simp [nthK] at h
  | q :: _, 0, h => by simp only [nthK, Option.some.injEq] at h; subst h; exact .head _
  | _ :: l, n + 1, h => .tail _ (nthK_mem (l := l) h)
theorem tmap_open {H : HH} {E : Env} {w : World} {M : List Blk} (hC : Conc H E w M) {i : Nat} {q : KeyT} {has : q.ty → Bool} {c : q.ty → Tr} {n : Nat} {kn : List (q.ty × AV)} (hg : getM M i = .tmap q has c n kn) :
    E.lv i = true ∧ ∃ b ms ck F, E.ι i = some b ∧ ¬ E.σ i b ∧ w.heap[b]? = some (.map ms ck) ∧ MapOk H E (fun x => w.heap[x]?) i q has c n kn ms.toList ck F := by
  have := hC.blk i
  rw [hg] at this
  exact this
theorem lt_nid {M : List Blk} {rd : Nat → Blk} {nid i : Nat} (hd : ∀ k, nid ≤ k → rd k = .dead) (hi : rd i ≠ .dead) : i < nid := by
  rcases Nat.lt_or_ge i nid with h | h
  · exact h
  · exact absurd (hd i h) hi
theorem lookT_ok {P : Program} {rd : Nat → Blk} {nid h : Nat} {o : Oper} {t : Nat → AV} {T0 : T CE} (hd : ∀ k, nid ≤ k → rd k = .dead) (hh : lookT P rd nid h o t = some T0) : T0.Sat (CE.Good P o t rd) := by
  unfold lookT at hh
  split at hh
  case h_2 => cases hh
  rename_i xt x idx ok hop
  split at hh
  case h_2 => cases hh
  rename_i d kt et kv i hkd hkv hx
  obtain ⟨hm, hk⟩ := keyD_ok hkd
  split at hh
  case h_2 => cases hh
  rename_i q has c n kn hg
  split at hh
  case h_2 => cases hh
  rename_i y z hof hz hkis
  have hky := KeyT.of_ok hof
  subst hky
  have hdd := keyIs_desc hkis
  subst hdd
  have hkey := q.isKey y
  split at hh
  · rename_i k a hn
    have hn : nthK kn (idxK h (len kn)) = some (k, a) := by
      split at hn
      · exact hn
      · cases hn
    cases hh
    refine T.Sat.need fun hyk => T.Sat.ret fun M hM => runs_stepZ fun H E w ac hC hT => ?_
    subst hyk
    have h1 := rel_ev hT x
    rw [hx] at h1
    obtain ⟨hl, b, hb, hv⟩ := h1
    have h2 := scV_ok hkv (rel_ev hT idx)
    obtain ⟨_, b', ms, ck, F, g1, g2, g3, g4⟩ := tmap_open hC ((hM i (by simp)).trans hg)
    rw [hb] at g1; cases g1
    obtain ⟨v, k1, k2⟩ := g4.known _ (nthK_mem hn)
    rcases tm_find (x := y) 0 g4.ents.key with ⟨q1, _⟩ | ⟨j, e, q1, q2, q3⟩
    · obtain ⟨e, he, hek, _⟩ := k1
      exact absurd hek (q1 e he)
    · have : v = e.val := mgetK_uniq g4.ents k1 ⟨e, List.mem_of_getElem? q1, q2, rfl⟩
      subst this
      have hrun := run_lookup (z := .nilFunc) (ok := ok) hm hk g3 hkey q3 (fun h => by cases h)
      refine ⟨_, w, H, E, ?_, tupOk_rel k2 (.inl rfl), hC, Evol.refl _ _ _ _⟩
      simp only [execOp, hop, hv, h2, hrun]
      simp [Result.andThen, hrun]
  · cases hh
    refine noneK_ok fun hne => T.Sat.ite (fun hhas => T.Sat.ret fun M hM => runs_stepZ fun H E w ac hC hT => ?_) (fun hhas => T.Sat.ret fun M hM => runs_stepZ fun H E w ac hC hT => ?_)
    · have h1 := rel_ev hT x
      rw [hx] at h1
      obtain ⟨hl, b, hb, hv⟩ := h1
      have h2 := scV_ok hkv (rel_ev hT idx)
      have hgM := (hM i (by simp)).trans hg
      have hlt : i < nid := lt_nid (M := M) hd (by rw [hg]; intro h; cases h)
      obtain ⟨v, E', b', ms, ck, g1, g2, g3, g4, g5, g6, g7⟩ := focus_ok hC hgM hhas hne hlt fun k hk ht => (hM k (by simp only [List.mem_cons]; exact .inr (mem_iff.1 (mem_upFrom.2 ⟨hk, ht⟩)))).trans (hd k hk)
      rw [hb] at g1; cases g1
      rcases tm_find (x := y) 0 g3.key with ⟨q1, _⟩ | ⟨j, e, q1, q2, q3⟩
      · obtain ⟨e, he, hek, _⟩ := g4
        exact absurd hek (q1 e he)
      · have : v = e.val := mgetK_uniq g3 g4 ⟨e, List.mem_of_getElem? q1, q2, rfl⟩
        subst this
        have hrun := run_lookup (z := .nilFunc) (ok := ok) hm hk g2 hkey q3 (fun h => by cases h)
        refine ⟨_, w, H, E', ?_, tupOk_rel g7 (.inl rfl), ?_, g6⟩
        · simp only [execOp, hop, hv, h2]
          simp [Result.andThen, hrun]
        · simp only [killM, applyW, applyW_wrFrom]
          refine g5.eqv fun j => ?_
          by_cases hj : i = j
          · subst hj; rw [getM_put_same, getM_puts, if_neg (by omega), getM_put_same]
          · rw [getM_put_ne _ _ _ _ hj, getM_puts, getM_puts, getM_put_ne _ _ _ _ hj]
    · have h1 := rel_ev hT x
      rw [hx] at h1
      obtain ⟨hl, b, hb, hv⟩ := h1
      have h2 := scV_ok hkv (rel_ev hT idx)
      obtain ⟨_, b', ms, ck, F, g1, g2, g3, g4⟩ := tmap_open hC ((hM i (by simp)).trans hg)
      rw [hb] at g1; cases g1
      obtain ⟨zv, hz1, hz2⟩ := zeroAV_ok H E w hz
      rcases tm_find (x := y) 0 g4.ents.key with ⟨_, q2⟩ | ⟨j, e, q1, q2, q3⟩
      · have hrun := run_lookup (z := zv) (ok := ok) hm hk g3 hkey q2 (fun _ => hz1)
        refine ⟨_, w, H, E, ?_, tupOk_rel hz2 (.inl rfl), hC, Evol.refl _ _ _ _⟩
        simp only [execOp, hop, hv, h2]
        simp [Result.andThen, hrun]
      · have := (g4.hasK y).2 ⟨e.val, e, List.mem_of_getElem? q1, q2, rfl⟩
        rw [this] at hhas; cases hhas
def updBi (has : Int → Bool) (x : Int) : Int → Bool := fun y => decide (x = y) || has y
def updBs (has : ByteArray → Bool) (x : ByteArray) : ByteArray → Bool := fun y => decide (x = y) || has y
def updB : (q : KeyT) → (q.ty → Bool) → q.ty → (q.ty → Bool)
  | .s, has, x => updBs has x
  | .i _, has, x => updBi has x
def delBi (has : Int → Bool) (x : Int) : Int → Bool := fun y => !decide (x = y) && has y
def delBs (has : ByteArray → Bool) (x : ByteArray) : ByteArray → Bool := fun y => !decide (x = y) && has y
def delB : (q : KeyT) → (q.ty → Bool) → q.ty → (q.ty → Bool)
  | .s, has, x => delBs has x
  | .i _, has, x => delBi has x
theorem updB_iff {q : KeyT} {has : q.ty → Bool} {x y : q.ty} : updB q has x y = true ↔ x = y ∨ has y = true := by
  cases q <;> simp [updB, updBi, updBs] <;> exact Iff.rfl
theorem delB_iff {q : KeyT} {has : q.ty → Bool} {x y : q.ty} : delB q has x y = true ↔ x ≠ y ∧ has y = true := by
  cases q <;> simp [delB, delBi, delBs] <;> exact fun _ => Iff.rfl
def dropK {α : Type} : List α → Nat → List α
  | [], _ => []
  | _ :: r, 0 => r
  | p :: r, n + 1 => p :: dropK r n
theorem dropK_sub {α : Type} : ∀ {l : List α} {n : Nat} {p : α}, p ∈ dropK l n → p ∈ l
  | _ :: _, 0, _, h => .tail _ h
  | _ :: r, n + 1, p, h => by
    rcases List.mem_cons.1 h with rfl | h
    · exact .head _
    · exact .tail _ (dropK_sub h)
theorem dropK_all {α : Type} : ∀ {l : List (α × AV)} {n : Nat} {p0 p : α × AV}, nthK l n = some p0 → p ∈ l → p = p0 ∨ p ∈ dropK l n
  | _ :: _, 0, p0, p, h, hp => by
    simp only [nthK, Option.some.injEq] at h
    subst h
    rcases List.mem_cons.1 hp with rfl | hp
    · exact .inl rfl
    · exact .inr hp
  | a :: r, n + 1, p0, p, h, hp => by
    rcases List.mem_cons.1 hp with rfl | hp
    · exact .inr (.head _)
    · rcases dropK_all (l := r) (n := n) h hp with h | h
      · exact .inl h
      · exact .inr (.tail _ h)
theorem get_modify {α : Type} (f : α → α) (l : List α) (j m : Nat) : (l.modify j f)[m]? = if j = m then l[m]?.map f else l[m]? := by
  rw [List.getElem?_modify]
  by_cases h : j = m <;> simp [h]
theorem nodup_idx {α : Type} {a : α} : ∀ {l : List α} {j m : Nat}, l.Nodup → l[j]? = some a → l[m]? = some a → j = m
  | [], j, m, _, h, _ => by simp at h
  | x :: r, j, m, hn, h1, h2 => by
    rw [List.nodup_cons] at hn
    cases j with
    | zero =>
      cases m with
      | zero => rfl
      | succ m =>
        simp at h1 h2
        subst h1
        exact absurd (List.mem_of_getElem? h2) hn.1
    | succ j =>
      cases m with
      | zero =>
        simp at h1 h2
        subst h2
        exact absurd (List.mem_of_getElem? h1) hn.1
      | succ m =>
        simp at h1 h2
        rw [nodup_idx hn.2 h1 h2]
theorem map_modify_same {α β : Type} {f : α → α} {g : α → β} {l : List α} {j : Nat} (h : ∀ e, l[j]? = some e → g (f e) = g e) : (l.modify j f).map g = l.map g := by
  apply List.ext_getElem?
  intro m
  rw [List.getElem?_map, List.getElem?_map, get_modify]
  by_cases hm : j = m
  · subst hm
    rw [if_pos rfl]
    cases hl : l[j]? with
    | none => rfl
    | some e => simp [h e hl]
  · rw [if_neg hm]
theorem ents_modify {q : KeyT} {x : q.ty} {l : List MapEntry} {ck j : Nat} {e : MapEntry} {v : Value} (h : EntsOk q l ck) (hj : l[j]? = some e) (hk : e.key = q.val x) : EntsOk q (l.modify j fun e => { e with key := q.val x, val := v }) ck := by
  have h1 : (l.modify j fun e => { e with key := q.val x, val := v }).map (fun e => e.key) = l.map fun e => e.key := map_modify_same fun e' he' => by rw [hj] at he'; cases he'; exact hk.symm
  have h2 : (l.modify j fun e => { e with key := q.val x, val := v }).map (fun e => e.born) = l.map fun e => e.born := map_modify_same fun e' he' => rfl
  refine ⟨fun z hz => ?_, by rw [h1]; exact h.once, by rw [h2]; exact h.born, fun z hz => ?_⟩
  · have : z.key ∈ l.map fun e => e.key := by rw [← h1]; exact List.mem_map.2 ⟨z, hz, rfl⟩
    obtain ⟨z', hz', e'⟩ := List.mem_map.1 this
    obtain ⟨y, hy⟩ := h.key z' hz'
    exact ⟨y, e'.symm.trans hy⟩
  · have : z.born ∈ l.map fun e => e.born := by rw [← h2]; exact List.mem_map.2 ⟨z, hz, rfl⟩
    obtain ⟨z', hz', e'⟩ := List.mem_map.1 this
    have := h.lt z' hz'
    omega
theorem idx_uniq {q : KeyT} {l : List MapEntry} {ck : Nat} (h : EntsOk q l ck) {j m : Nat} {e e' : MapEntry} (hj : l[j]? = some e) (hm : l[m]? = some e') (hk : e.key = e'.key) : j = m := by
  have h1 := h.once
  have a1 : (l.map fun e => e.key)[j]? = some e.key := by rw [List.getElem?_map, hj]; rfl
  have a2 : (l.map fun e => e.key)[m]? = some e.key := by rw [List.getElem?_map, hm, hk]; rfl
  exact nodup_idx h1 a1 a2
theorem mget_modify {q : KeyT} {x : q.ty} {l : List MapEntry} {ck j : Nat} {e : MapEntry} {v : Value} (h : EntsOk q l ck) (hj : l[j]? = some e) (hk : e.key = q.val x) (y : q.ty) (u : Value) :
    mgetK q y (l.modify j fun e => { e with key := q.val x, val := v }) u ↔ (y = x ∧ u = v) ∨ (y ≠ x ∧ mgetK q y l u) := by
  constructor
  · rintro ⟨z, hz, hzk, rfl⟩
    obtain ⟨m, hm⟩ := List.getElem?_of_mem hz
    rw [get_modify] at hm
    by_cases hjm : j = m
    · subst hjm
      rw [if_pos rfl, hj] at hm
      simp at hm
      subst hm
      exact .inl ⟨(KeyT.val_inj hzk).symm, rfl⟩
    · rw [if_neg hjm] at hm
      refine .inr ⟨?_, z, List.mem_of_getElem? hm, hzk, rfl⟩
      rintro rfl
      exact hjm (idx_uniq h hj hm (hk.trans hzk.symm))
  · rintro (⟨rfl, rfl⟩ | ⟨hy, z, hz, hzk, rfl⟩)
    · refine ⟨{ e with key := q.val y, val := u }, List.mem_of_getElem? (i := j) ?_, rfl, rfl⟩
      rw [get_modify, if_pos rfl, hj]; rfl
    · obtain ⟨m, hm⟩ := List.getElem?_of_mem hz
      refine ⟨z, List.mem_of_getElem? (i := m) ?_, hzk, rfl⟩
      rw [get_modify]
      by_cases hjm : j = m
      · subst hjm
        rw [hj] at hm; cases hm
        exact absurd (KeyT.val_inj (hzk.symm.trans hk)) hy
      · rw [if_neg hjm, hm]
theorem ents_push {q : KeyT} {x : q.ty} {l : List MapEntry} {ck : Nat} {v : Value} (h : EntsOk q l ck) (hn : ∀ e ∈ l, e.key ≠ q.val x) : EntsOk q (l ++ [⟨q.val x, v, ck⟩]) (ck + 1) where
  key := fun e he => by
    rcases List.mem_append.1 he with he | he
    · exact h.key e he
    · simp at he; subst he; exact ⟨x, rfl⟩
  once := by
    rw [List.map_append, List.nodup_append]
    refine ⟨h.once, by simp, fun a ha b hb => ?_⟩
    obtain ⟨e, he, rfl⟩ := List.mem_map.1 ha
    simp at hb
    subst hb
    exact hn e he
  born := by
    rw [List.map_append, List.nodup_append]
    refine ⟨h.born, by simp, fun a ha b hb => ?_⟩
    obtain ⟨e, he, rfl⟩ := List.mem_map.1 ha
    simp at hb
    subst hb
    have := h.lt e he
    omega
  lt := fun e he => by
    rcases List.mem_append.1 he with he | he
    · have := h.lt e he; omega
    · simp at he; subst he; simp
theorem mget_push' {q : KeyT} {x : q.ty} {l : List MapEntry} {ck : Nat} {v : Value} (hn : ∀ e ∈ l, e.key ≠ q.val x) (y : q.ty) (u : Value) : mgetK q y (l ++ [⟨q.val x, v, ck⟩]) u ↔ (y = x ∧ u = v) ∨ (y ≠ x ∧ mgetK q y l u) := by
  constructor
  · rintro ⟨z, hz, hzk, rfl⟩
    rcases List.mem_append.1 hz with hz | hz
    · exact .inr ⟨fun e => hn z hz (by rw [hzk, e]), z, hz, hzk, rfl⟩
    · simp at hz; subst hz; exact .inl ⟨(KeyT.val_inj hzk).symm, rfl⟩
  · rintro (⟨rfl, rfl⟩ | ⟨_, z, hz, hzk, rfl⟩)
    · exact ⟨⟨q.val y, u, ck⟩, by simp, rfl, rfl⟩
    · exact ⟨z, List.mem_append_left _ hz, hzk, rfl⟩
theorem ents_sub {q : KeyT} {l l' : List MapEntry} {ck : Nat} (h : EntsOk q l ck) (hs : l'.Sublist l) : EntsOk q l' ck :=
  ⟨fun e he => h.key e (hs.subset he), (hs.map _).nodup h.once, (hs.map _).nodup h.born, fun e he => h.lt e (hs.subset he)⟩
theorem mget_erase {q : KeyT} {x : q.ty} {l : List MapEntry} {ck j : Nat} {e : MapEntry} (h : EntsOk q l ck) (hj : l[j]? = some e) (hk : e.key = q.val x) (y : q.ty) (u : Value) : mgetK q y (l.eraseIdx j) u ↔ y ≠ x ∧ mgetK q y l u := by
  constructor
  · rintro ⟨z, hz, hzk, rfl⟩
    obtain ⟨m, hm1, hm2⟩ := List.mem_eraseIdx_iff_getElem?.1 hz
    refine ⟨?_, z, List.mem_of_getElem? hm2, hzk, rfl⟩
    rintro rfl
    exact hm1 (idx_uniq h hj hm2 (hk.trans hzk.symm)).symm
  · rintro ⟨hy, z, hz, hzk, rfl⟩
    obtain ⟨m, hm⟩ := List.getElem?_of_mem hz
    refine ⟨z, List.mem_eraseIdx_iff_getElem?.2 ⟨m, ?_, hm⟩, hzk, rfl⟩
    rintro rfl
    rw [hj] at hm; cases hm
    exact hy (KeyT.val_inj (hzk.symm.trans hk))
theorem mapOk_put {H : HH} {E : Env} {hp hp' : Nat → Option Obj} {i : Nat} {q : KeyT} {has : q.ty → Bool} {c : q.ty → Tr} {n n' : Nat} {kn kn' : List (q.ty × AV)} {l l' : List MapEntry} {ck ck' : Nat} {F : q.ty → Nat → Prop} {x : q.ty} {a : AV} {v : Value} {has' : q.ty → Bool}
    (h : MapOk H E hp i q has c n kn l ck F) (he : EntsOk q l' ck') (hs : l'.length = n') (hg : ∀ y u, mgetK q y l' u ↔ (y = x ∧ u = v) ∨ (y ≠ x ∧ mgetK q y l u)) (hh : ∀ y, has' y = true ↔ x = y ∨ has y = true) (hr : Rel a H E v)
    (hk1 : ∀ p ∈ kn', p ∈ kn ∧ p.1 ≠ x) (hk2 : ∀ p ∈ kn, p.1 = x ∨ p ∈ kn') (hw : ∀ b, E.σ i b → hp' b = hp b) : MapOk H E hp' i q has' c n' ((x, a) :: kn') l' ck' F where
  ents := he
  size := hs
  hasK := fun y => by
    rw [hh y]
    constructor
    · rintro (rfl | hy)
      · exact ⟨v, (hg _ _).2 (.inl ⟨rfl, rfl⟩)⟩
      · by_cases hyx : y = x
        · exact ⟨v, (hg _ _).2 (.inl ⟨hyx, rfl⟩)⟩
        · obtain ⟨u, hu⟩ := (h.hasK y).1 hy
          exact ⟨u, (hg _ _).2 (.inr ⟨hyx, hu⟩)⟩
    · rintro ⟨u, hu⟩
      rcases (hg _ _).1 hu with ⟨rfl, _⟩ | ⟨_, hu⟩
      · exact .inl rfl
      · exact .inr ((h.hasK y).2 ⟨u, hu⟩)
  known := fun p hp => by
    rcases List.mem_cons.1 hp with rfl | hp
    · exact ⟨v, (hg _ _).2 (.inl ⟨rfl, rfl⟩), hr⟩
    · obtain ⟨u, h1, h2⟩ := h.known p (hk1 p hp).1
      exact ⟨u, (hg _ _).2 (.inr ⟨(hk1 p hp).2, h1⟩), h2⟩
  own := h.own
  sep := h.sep
  tr := fun y hy u hu => by
    rcases (hg _ _).1 hu with ⟨rfl, _⟩ | ⟨hyx, hu⟩
    · exact absurd rfl (hy (y, a) (by simp))
    · refine TrOk.move (HH.le_refl _) _ (fun _ h => h) (fun b hb => hw b (h.own _ _ hb)) (h.tr y (fun p hp => ?_) u hu)
      rcases hk2 p hp with e | hp
      · exact fun e' => hyx (e'.symm.trans e)
      · exact hy p (List.mem_cons_of_mem _ hp)
theorem mapOk_del {H : HH} {E : Env} {hp hp' : Nat → Option Obj} {i : Nat} {q : KeyT} {has : q.ty → Bool} {c : q.ty → Tr} {n n' : Nat} {kn kn' : List (q.ty × AV)} {l l' : List MapEntry} {ck : Nat} {F : q.ty → Nat → Prop} {x : q.ty} {has' : q.ty → Bool}
    (h : MapOk H E hp i q has c n kn l ck F) (he : EntsOk q l' ck) (hs : l'.length = n') (hg : ∀ y u, mgetK q y l' u ↔ y ≠ x ∧ mgetK q y l u) (hh : ∀ y, has' y = true ↔ x ≠ y ∧ has y = true)
    (hk1 : ∀ p ∈ kn', p ∈ kn ∧ p.1 ≠ x) (hk2 : ∀ p ∈ kn, p.1 = x ∨ p ∈ kn') (hw : ∀ b, E.σ i b → hp' b = hp b) : MapOk H E hp' i q has' c n' kn' l' ck F where
  ents := he
  size := hs
  hasK := fun y => by
    rw [hh y]
    constructor
    · rintro ⟨hx, hy⟩
      obtain ⟨u, hu⟩ := (h.hasK y).1 hy
      exact ⟨u, (hg _ _).2 ⟨fun e => hx e.symm, hu⟩⟩
    · rintro ⟨u, hu⟩
      obtain ⟨h1, h2⟩ := (hg _ _).1 hu
      exact ⟨fun e => h1 e.symm, (h.hasK y).2 ⟨u, h2⟩⟩
  known := fun p hp => by
    obtain ⟨u, h1, h2⟩ := h.known p (hk1 p hp).1
    exact ⟨u, (hg _ _).2 ⟨(hk1 p hp).2, h1⟩, h2⟩
  own := h.own
  sep := h.sep
  tr := fun y hy u hu => by
    obtain ⟨hyx, hu⟩ := (hg _ _).1 hu
    refine TrOk.move (HH.le_refl _) _ (fun _ h => h) (fun b hb => hw b (h.own _ _ hb)) (h.tr y (fun p hp => ?_) u hu)
    rcases hk2 p hp with e | hp
    · exact fun e' => hyx (e'.symm.trans e)
    · exact hy p hp
def putCE (i : Nat) (q : KeyT) (has : q.ty → Bool) (c : q.ty → Tr) (n : Nat) (x : q.ty) (a : AV) (kn : List (q.ty × AV)) : CE := ⟨.junk, [i], [(i, .tmap q has c n ((x, a) :: kn))], [], []⟩
def updT (P : Program) (rd : Nat → Blk) (h : Nat) (mt : TypeId) (m k a : AV) : Option (T CE) :=
  match keyD P mt, scV k, m with
  | some (d, _, _), some kv, .mref i => (match rd i with
    | .tmap q has c n kn => (match q.of kv, keyIs d kv with
      | some x, true => (match (match Nat.ble 784 h with | true => nthK kn (idxK h (len kn)) | false => none) with
        | some (k, _) => some (.need (x = k) (noneK x (.ret (putCE i q has c n x a (dropK kn (idxK h (len kn))))) (dropK kn (idxK h (len kn)))))
        | none => (match Nat.ble 783 h with
          | true => some (noneK x (.need (has x = false) (.ret (putCE i q (updB q has x) c (n + 1) x a kn))) kn)
          | false => some (noneK x (.ite (has x) (.ret (putCE i q has c n x a kn)) (.ret (putCE i q (updB q has x) c (n + 1) x a kn))) kn)))
      | _, _ => none)
    | _ => none)
  | _, _, _ => none
def updTT (P : Program) (rd : Nat → Blk) (h : Nat) (o : Oper) (t : Nat → AV) : Option (T CE) :=
  match o.op with
  | .mapUpdate mt m k v => updT P rd h mt (ev t m) (ev t k) (ev t v)
  | .insert mt m k v => updT P rd h mt (ev t m) (ev t k) (ev t v)
  | _ => none
theorem updT_ok {P : Program} {rd : Nat → Blk} {h : Nat} {o : Oper} {t : Nat → AV} {mt : TypeId} {m k v : Operand} {T0 : T CE} (hop : o.op = .mapUpdate mt m k v ∨ o.op = .insert mt m k v) (hh : updT P rd h mt (ev t m) (ev t k) (ev t v) = some T0) : T0.Sat (CE.Good P o t rd) := by
  unfold updT at hh
  split at hh
  case h_2 => cases hh
  rename_i d kt et kv i hkd hkv hx
  obtain ⟨hm, hk⟩ := keyD_ok hkd
  split at hh
  case h_2 => cases hh
  rename_i q has c n kn hg
  split at hh
  case h_2 => cases hh
  rename_i y hof hkis
  have hky := KeyT.of_ok hof
  subst hky
  have hdd := keyIs_desc hkis
  subst hdd
  have hkey := q.isKey y
  have hexec : ∀ (a : Act) (w w' : World), (Instr.mapUpdate mt (a.eval m) (a.eval k) (a.eval v)).run P w = .ok () w' → (execOp a.eval o).run P w = .ok .skip w' := fun a w w' hr => by
    rcases hop with hop | hop <;> simp [execOp, hop, hr]
  have old : ∀ kn' : List (q.ty × AV), has y = true → (∀ p ∈ kn', p ∈ kn ∧ p.1 ≠ y) → (∀ p ∈ kn, p.1 = y ∨ p ∈ kn') → CE.Good P o t rd (putCE i q has c n y (ev t v) kn') := by
    intro kn' hhas hk1 hk2 M hM
    refine runs_stepY fun H E w a hC hT => ?_
    have h1 := rel_ev hT m
    rw [hx] at h1
    obtain ⟨hl, b, hb, hv⟩ := h1
    have h2 := scV_ok hkv (rel_ev hT k)
    have h3 := rel_ev hT v
    obtain ⟨_, b', ms, ck, F, g1, g2, g3, g4⟩ := tmap_open hC ((hM i (by simp [putCE])).trans hg)
    rw [hb] at g1; cases g1
    rcases tm_find (x := y) 0 g4.ents.key with ⟨q1, _⟩ | ⟨j, e, q1, q2, q3⟩
    · obtain ⟨u, e, he, hek, _⟩ := (g4.hasK y).1 hhas
      exact absurd hek (q1 e he)
    · have hrun := run_update_old (v := a.eval v) hm hk g3 hkey (by simpa using q3) q1 q2
      have hB : BlkOk H E (World.setO w b (.map (ms.modify j fun e => { e with key := q.val y, val := a.eval v }) ck)) i (.tmap q has c n ((y, ev t v) :: kn')) := by
        refine ⟨hl, b, _, ck, F, hb, g2, (heap_set g3).1, ?_⟩
        rw [Array.toList_modify]
        refine mapOk_put g4 (ents_modify g4.ents q1 q2) (by rw [List.length_modify]; exact g4.size) (mget_modify g4.ents q1 q2) (fun z => ⟨.inr, ?_⟩) h3 hk1 hk2 fun b' hb' => (heap_set g3).2 b' (by rintro rfl; exact g2 hb')
        rintro (rfl | hz)
        · exact hhas
        · exact hz
      obtain ⟨hc, hev⟩ := hC.upd hl hb (upd_setO g3) hB
      exact ⟨_, undef, _, H, E, hexec a w _ (by rw [hv, h2]; exact hrun), .inr ⟨rfl, rfl⟩, trivial, hc, hev⟩
  have new : has y = false → (∀ p ∈ kn, p.1 ≠ y) → CE.Good P o t rd (putCE i q (updB q has y) c (n + 1) y (ev t v) kn) := by
    intro hhas hne M hM
    refine runs_stepY fun H E w a hC hT => ?_
    have h1 := rel_ev hT m
    rw [hx] at h1
    obtain ⟨hl, b, hb, hv⟩ := h1
    have h2 := scV_ok hkv (rel_ev hT k)
    have h3 := rel_ev hT v
    obtain ⟨_, b', ms, ck, F, g1, g2, g3, g4⟩ := tmap_open hC ((hM i (by simp [putCE])).trans hg)
    rw [hb] at g1; cases g1
    rcases tm_find (x := y) 0 g4.ents.key with ⟨q1, q2⟩ | ⟨j, e, q1, q2, q3⟩
    · have hrun := run_update_new (v := a.eval v) hm hk g3 hkey q2
      have hB : BlkOk H E (World.setO w b (.map (ms.push ⟨q.val y, a.eval v, ck⟩) (ck + 1))) i (.tmap q (updB q has y) c (n + 1) ((y, ev t v) :: kn)) := by
        refine ⟨hl, b, _, ck + 1, F, hb, g2, (heap_set g3).1, ?_⟩
        rw [Array.toList_push]
        exact mapOk_put g4 (ents_push g4.ents q1) (by simp [g4.size]) (mget_push' q1) (fun z => updB_iff) h3 (fun p hp => ⟨hp, hne p hp⟩) (fun p hp => .inr hp) fun b' hb' => (heap_set g3).2 b' (by rintro rfl; exact g2 hb')
      obtain ⟨hc, hev⟩ := hC.upd hl hb (upd_setO g3) hB
      exact ⟨_, undef, _, H, E, hexec a w _ (by rw [hv, h2]; exact hrun), .inr ⟨rfl, rfl⟩, trivial, hc, hev⟩
    · have := (g4.hasK y).2 ⟨e.val, e, List.mem_of_getElem? q1, q2, rfl⟩
      rw [this] at hhas; cases hhas
  split at hh
  · rename_i k0 a0 hn
    have hn : nthK kn (idxK h (len kn)) = some (k0, a0) := by
      split at hn
      · exact hn
      · cases hn
    cases hh
    refine T.Sat.need fun hyk => noneK_ok fun hne => ?_
    subst hyk
    intro Q hQ
    have hQ' : Q (putCE i q has c n y (ev t v) (dropK kn (idxK h (len kn)))) := hQ
    refine ⟨_, ?_, hQ'⟩
    by_cases hhas : has y = true
    · exact old _ hhas (fun p hp => ⟨dropK_sub hp, hne p hp⟩) fun p hp => (dropK_all hn hp).imp (fun e => by rw [e]) id
    · intro M hM
      refine runs_stepY fun H E w a hC hT => ?_
      obtain ⟨_, b', ms, ck, F, g1, g2, g3, g4⟩ := tmap_open hC ((hM i (by simp [putCE])).trans hg)
      obtain ⟨u, hu, _⟩ := g4.known _ (nthK_mem hn)
      exact absurd ((g4.hasK _).2 ⟨u, hu⟩) hhas
  · split at hh
    · cases hh
      exact noneK_ok fun hne => T.Sat.need fun hhas => T.Sat.ret (new hhas hne)
    · cases hh
      exact noneK_ok fun hne => T.Sat.ite (fun hhas => T.Sat.ret (old kn hhas (fun p hp => ⟨hp, hne p hp⟩) fun p hp => .inr hp)) fun hhas => T.Sat.ret (new hhas hne)
theorem updTT_ok {P : Program} {rd : Nat → Blk} {h : Nat} {o : Oper} {t : Nat → AV} {T0 : T CE} (hh : updTT P rd h o t = some T0) : T0.Sat (CE.Good P o t rd) := by
  unfold updTT at hh
  split at hh
  · rename_i mt m k v hop; exact updT_ok (.inl hop) hh
  · rename_i mt m k v hop; exact updT_ok (.inr hop) hh
  · cases hh
def delCE (i : Nat) (q : KeyT) (has : q.ty → Bool) (c : q.ty → Tr) (n : Nat) (kn : List (q.ty × AV)) : CE := ⟨.tup [], [i], [(i, .tmap q has c n kn)], [], []⟩
def delT (P : Program) (rd : Nat → Blk) (h : Nat) (o : Oper) (t : Nat → AV) : Option (T CE) :=
  match o.op with
  | .call { callee := .builtin .delete, args, argTypes } => (match args.toList, argTypes.toList with
    | [m, k], [mt, _] => (match keyD P mt, scV (ev t k), ev t m with
      | some (d, _, _), some kv, .mref i => (match rd i with
        | .tmap q has c n kn => (match q.of kv, keyIs d kv with
          | some x, true => (match (match Nat.ble 784 h with | true => nthK kn (idxK h (len kn)) | false => none) with
            | some (k, _) => some (.need (x = k) (noneK x (.ret (delCE i q (delB q has x) c (n - 1) (dropK kn (idxK h (len kn))))) (dropK kn (idxK h (len kn)))))
            | none => some (noneK x (.ite (has x) (.ret (delCE i q (delB q has x) c (n - 1) kn)) (.ret (delCE i q has c n kn))) kn))
          | _, _ => none)
        | _ => none)
      | _, _, _ => none)
    | _, _ => none)
  | _ => none
theorem delT_ok {P : Program} {rd : Nat → Blk} {h : Nat} {o : Oper} {t : Nat → AV} {T0 : T CE} (hh : delT P rd h o t = some T0) : T0.Sat (CE.Good P o t rd) := by
  unfold delT at hh
  split at hh
  case h_2 => cases hh
  rename_i args ats hop
  split at hh
  case h_2 => cases hh
  rename_i m k mt kt' hma hka
  have e1 : args = #[m, k] := Array.ext' hma
  have e2 : ats = #[mt, kt'] := Array.ext' hka
  subst e1; subst e2
  split at hh
  case h_2 => cases hh
  rename_i d kt et kv i hkd hkv hx
  obtain ⟨hm, hk⟩ := keyD_ok hkd
  split at hh
  case h_2 => cases hh
  rename_i q has c n kn hg
  split at hh
  case h_2 => cases hh
  rename_i y hof hkis
  have hky := KeyT.of_ok hof
  subst hky
  have hdd := keyIs_desc hkis
  subst hdd
  have hkey := q.isKey y
  have old : ∀ kn' : List (q.ty × AV), has y = true → (∀ p ∈ kn', p ∈ kn ∧ p.1 ≠ y) → (∀ p ∈ kn, p.1 = y ∨ p ∈ kn') → CE.Good P o t rd (delCE i q (delB q has y) c (n - 1) kn') := by
    intro kn' hhas hk1 hk2 M hM
    refine runs_stepZ fun H E w a hC hT => ?_
    have h1 := rel_ev hT m
    rw [hx] at h1
    obtain ⟨hl, b, hb, hv⟩ := h1
    have h2 := scV_ok hkv (rel_ev hT k)
    obtain ⟨_, b', ms, ck, F, g1, g2, g3, g4⟩ := tmap_open hC ((hM i (by simp [delCE])).trans hg)
    rw [hb] at g1; cases g1
    rcases tm_find (x := y) 0 g4.ents.key with ⟨q1, _⟩ | ⟨j, e, q1, q2, q3⟩
    · obtain ⟨u, e, he, hek, _⟩ := (g4.hasK y).1 hhas
      exact absurd hek (q1 e he)
    · simp only [Nat.zero_add] at q3
      have hlist : (ms.eraseIdxIfInBounds j).toList = ms.toList.eraseIdx j := by
        unfold Array.eraseIdxIfInBounds
        split
        · simp
        · rename_i hj
          rw [List.eraseIdx_of_length_le]
          simpa using hj
      have hjl : j < ms.toList.length := (List.getElem?_eq_some_iff.1 q1).1
      have hB : BlkOk H E (World.setO w b (.map (ms.eraseIdxIfInBounds j) ck)) i (.tmap q (delB q has y) c (n - 1) kn') := by
        refine ⟨hl, b, _, ck, F, hb, g2, (heap_set g3).1, ?_⟩
        rw [hlist]
        exact mapOk_del g4 (ents_sub g4.ents (List.eraseIdx_sublist _ _)) (by rw [List.length_eraseIdx_of_lt hjl, g4.size]) (mget_erase g4.ents q1 q2) (fun z => delB_iff) hk1 hk2 fun b' hb' => (heap_set g3).2 b' (by rintro rfl; exact g2 hb')
      obtain ⟨hc, hev⟩ := hC.upd hl hb (upd_setO g3) hB
      refine ⟨.tuple #[], _, H, E, ?_, ⟨#[], rfl, rfl⟩, hc, hev⟩
      simp [execOp, hop, resolve, invoke, builtin, hv, h2, Builtin.delete_, run_underlying hm, Go.MapKept.run_getObj_map g3, run_checkKey hk hkey, run_findKey hk q3, Go.MapKept.run_setObj_map _ g3, Result.andThen, World.setO]
  have new : has y = false → CE.Good P o t rd (delCE i q has c n kn) := by
    intro hhas M hM
    refine runs_stepZ fun H E w a hC hT => ?_
    have h1 := rel_ev hT m
    rw [hx] at h1
    obtain ⟨hl, b, hb, hv⟩ := h1
    have h2 := scV_ok hkv (rel_ev hT k)
    have hgM := (hM i (by simp [delCE])).trans hg
    obtain ⟨_, b', ms, ck, F, g1, g2, g3, g4⟩ := tmap_open hC hgM
    rw [hb] at g1; cases g1
    rcases tm_find (x := y) 0 g4.ents.key with ⟨q1, q2⟩ | ⟨j, e, q1, q2, q3⟩
    · have hB : BlkOk H E (World.setO w b (.map ms ck)) i (.tmap q has c n kn) := by
        refine ⟨hl, b, _, ck, F, hb, g2, (heap_set g3).1, { g4 with tr := fun z hz u hu => ?_ }⟩
        exact TrOk.move (HH.le_refl _) _ (fun _ h => h) (fun b' hb' => (heap_set g3).2 b' (by rintro rfl; exact g2 (g4.own _ _ hb'))) (g4.tr z hz u hu)
      obtain ⟨hc, hev⟩ := hC.upd hl hb (upd_setO g3) hB
      refine ⟨.tuple #[], _, H, E, ?_, ⟨#[], rfl, rfl⟩, hc, hev⟩
      simp [execOp, hop, resolve, invoke, builtin, hv, h2, Builtin.delete_, run_underlying hm, Go.MapKept.run_getObj_map g3, run_checkKey hk hkey, run_findKey hk q2, Go.MapKept.run_setObj_map _ g3, Result.andThen, World.setO]
    · have := (g4.hasK y).2 ⟨e.val, e, List.mem_of_getElem? q1, q2, rfl⟩
      rw [this] at hhas; cases hhas
  split at hh
  · rename_i k0 a0 hn
    have hn : nthK kn (idxK h (len kn)) = some (k0, a0) := by
      split at hn
      · exact hn
      · cases hn
    cases hh
    refine T.Sat.need fun hyk => noneK_ok fun hne => ?_
    subst hyk
    intro Q hQ
    have hQ' : Q (delCE i q (delB q has y) c (n - 1) (dropK kn (idxK h (len kn)))) := hQ
    refine ⟨_, ?_, hQ'⟩
    by_cases hhas : has y = true
    · exact old _ hhas (fun p hp => ⟨dropK_sub hp, hne p hp⟩) fun p hp => (dropK_all hn hp).imp (fun e => by rw [e]) id
    · intro M hM
      refine runs_stepY fun H E w a hC hT => ?_
      obtain ⟨_, b', ms, ck, F, g1, g2, g3, g4⟩ := tmap_open hC ((hM i (by simp [delCE])).trans hg)
      obtain ⟨u, hu, _⟩ := g4.known _ (nthK_mem hn)
      exact absurd ((g4.hasK _).2 ⟨u, hu⟩) hhas
  · cases hh
    exact noneK_ok fun hne => T.Sat.ite (fun hhas => T.Sat.ret (old kn hhas (fun p hp => ⟨hp, hne p hp⟩) fun p hp => .inr hp)) fun hhas => T.Sat.ret (new hhas)
def lenT (P : Program) (rd : Nat → Blk) (o : Oper) (t : Nat → AV) : Option (T CE) :=
  match o.op with
  | .call { callee := .builtin .len, args, argTypes } => (match args.toList, argTypes.toList with
    | [x], [ty] => (match P.underlying ty, ev t x with
      | some (.map _ _), .mref i => (match rd i with
        | .tmap _ _ _ n _ => some (.ret ⟨.y (.int .i64 (n : Int)), [i], [], [], []⟩)
        | _ => none)
      | _, _ => none)
    | _, _ => none)
  | _ => none
theorem lenT_ok {P : Program} {rd : Nat → Blk} {o : Oper} {t : Nat → AV} {T0 : T CE} (h : lenT P rd o t = some T0) : T0.Sat (CE.Good P o t rd) := by
  unfold lenT at h
  split at h
  case h_2 => cases h
  rename_i args ats hop
  split at h
  case h_2 => cases h
  rename_i x ty hx hty
  have h1 : args = #[x] := Array.ext' hx
  have h2 : ats = #[ty] := Array.ext' hty
  subst h1; subst h2
  split at h
  case h_2 => cases h
  rename_i kt et i hu he
  split at h
  case h_2 => cases h
  rename_i q has c n kn hg
  cases h
  refine T.Sat.ret fun M hM => runs_stepZ fun H E w a hC hT => ?_
  have h1 := rel_ev hT x
  rw [he] at h1
  obtain ⟨hl, b, hb, hv⟩ := h1
  obtain ⟨_, b', ms, ck, F, g1, g2, g3, g4⟩ := tmap_open hC ((hM i (by simp)).trans hg)
  rw [hb] at g1; cases g1
  have hlen : ms.size = n := by simpa using g4.size
  refine ⟨_, w, H, E, ?_, ⟨rfl, rfl⟩, hC, Evol.refl _ _ _ _⟩
  simp [execOp, hop, resolve, invoke, builtin, hv, Builtin.len_, run_underlying hu, Go.MapKept.run_getObj_map g3, goInt, hlen, Result.andThen]
def noneB : (q : KeyT) → (q.ty → Bool)
  | .s => fun _ => false
  | .i _ => fun _ => false
theorem noneB_eq {q : KeyT} (x : q.ty) : noneB q x = false := by cases q <;> rfl
def junkB : (q : KeyT) → (q.ty → Tr)
  | .s => fun _ => .av .junk
  | .i _ => fun _ => .av .junk
def keyT : TypeDesc → Option KeyT
  | .string => some .s
  | .int k => some (.i k)
  | _ => none
def mkT' (P : Program) (nid h : Nat) (o : Oper) : Option (T CE) :=
  match o.op with
  | .makeMap ty none => (match Nat.beq h 783, keyD P ty with
    | true, some (d, _, _) => (match keyT d with
      | some q => some (.ret ⟨.mref nid, [nid], [(nid, .tmap q (noneB q) (junkB q) 0 [])], [], []⟩)
      | none => none)
    | _, _ => none)
  | _ => none
theorem mkT'_ok {P : Program} {rd : Nat → Blk} {nid h : Nat} {o : Oper} {t : Nat → AV} {T0 : T CE} (hd : ∀ k, nid ≤ k → rd k = .dead) (hh : mkT' P nid h o = some T0) : T0.Sat (CE.Good P o t rd) := by
  unfold mkT' at hh
  split at hh
  case h_2 => cases hh
  rename_i ty hop
  split at hh
  case h_2 => cases hh
  split at hh
  case h_2 => cases hh
  rename_i q hq
  cases hh
  refine T.Sat.ret fun M hM => runs_stepZ fun H E w a hC hT => ?_
  have hdn : getM M nid = .dead := (hM nid (by simp)).trans (hd nid (Nat.le_refl _))
  obtain ⟨s1, s2, _⟩ := E.set_same nid (some w.heap.size) 0 0
  obtain ⟨hc, hev⟩ := hC.new (w' := w.alloc (.map #[] 0)) (i := nid) (κ := 0) (η := 0) (bo := some w.heap.size) (B := .tmap q (noneB q) (junkB q) 0 []) hdn rfl rfl rfl (by simp) (fun b hb => Go.RowKit.Below.heap_alloc w _ b hb) (fun b hb => by cases hb; exact Nat.le_refl _)
    ⟨s1, w.heap.size, #[], 0, fun _ _ => False, s2, fun h => h.1 rfl, heap_alloc_new w _,
      ⟨⟨fun e he => by simp at he, by simp, by simp, fun e he => by simp at he⟩, rfl, fun x => by simp [noneB_eq, mgetK], fun p hp => by simp at hp, fun _ _ h => h.elim, fun _ _ _ h => h.elim, fun x _ v hv => by obtain ⟨e, he, _⟩ := hv; simp at he⟩⟩
  exact ⟨_, _, H, _, by simp [execOp, hop, Instr.makeMap, Result.andThen], ⟨s1, _, s2, rfl⟩, hc, hev⟩
def tmT (P : Program) (rd : Nat → Blk) (nid h : Nat) (o : Oper) (t : Nat → AV) : Option (T CE) := match lookT P rd nid h o t with
  | some T => some T
  | none => (match updTT P rd h o t with
    | some T => some T
    | none => (match delT P rd h o t with
      | some T => some T
      | none => (match mkT' P nid h o with
        | some T => some T
        | none => lenT P rd o t)))
theorem tmT_ok {P : Program} {rd : Nat → Blk} {nid h : Nat} {o : Oper} {t : Nat → AV} {T0 : T CE} (hd : ∀ k, nid ≤ k → rd k = .dead) (hh : tmT P rd nid h o t = some T0) : T0.Sat (CE.Good P o t rd) := by
  unfold tmT at hh
  split at hh
  · rename_i g hg; cases hh; exact lookT_ok hd hg
  · split at hh
    · rename_i g hg; cases hh; exact updTT_ok hg
    · split at hh
      · rename_i g hg; cases hh; exact delT_ok hg
      · split at hh
        · rename_i g hg; cases hh; exact mkT'_ok hd hg
        · exact lenT_ok hh
end Go.Ax

namespace Go.Ax
open Go
variable [Inhabited Gl0]
theorem trow_open {H : HH} {E : Env} {w : World} {M : List Blk} (hC : Conc H E w M) {i ty sz n : Nat} {cap : Option Nat} {c : Nat → Nat → Tr} {op : List (Nat × List AV)} {zs : List Value} (hg : getM M i = .trow ty sz n cap c op zs) :
    E.lv i = true ∧ (n = E.η i ∧ n ≤ E.κ i) ∧ E.κ i ≤ maxLen ∧ (∀ q, cap = some q → E.κ i = q) ∧ (E.ι i = none → E.κ i = 0 ∧ op = []) ∧ ∀ b, E.ι i = some b → ¬ E.σ i b ∧ ∃ vs F, w.heap[b]? = some (.cells vs ty (0, 0)) ∧ RowOk H E (fun x => w.heap[x]?) i sz n (E.κ i) c op zs vs.toList F := by
  have := hC.blk i
  rw [hg] at this
  obtain ⟨h0, h1, h2, h3, h4⟩ := this
  refine ⟨h0, h1, h2, h3, fun h => ?_, fun b h => ?_⟩
  · rw [h] at h4; exact h4
  · rw [h] at h4; exact h4
def elemOf (c : Nat → Nat → Tr) (k sz nid : Nat) : List AV × List Blk := openL (tabTr (c k) 0 sz) nid
theorem focusR_ok {H : HH} {E : Env} {w : World} {M : List Blk} (hC : Conc H E w M) {i nid ty sz n k : Nat} {cap : Option Nat} {c : Nat → Nat → Tr} {op : List (Nat × List AV)} {zs : List Value} (hg : getM M i = .trow ty sz n cap c op zs) (hk : k < n) (hn : ∀ p ∈ op, p.1 ≠ k) (hlt : i < nid)
    (hd : ∀ q, nid ≤ q → q < nid + len (elemOf c k sz nid).2 → getM M q = .dead) :
    ∃ E', Conc H E' w (putM (puts M nid (elemOf c k sz nid).2) i (.trow ty sz n cap c ((k, (elemOf c k sz nid).1) :: op) zs)) ∧ Evol [] H E w H E' w := by
  obtain ⟨hl, hη, hκm, hcap, hnone, hsome⟩ := trow_open hC hg
  cases hι : E.ι i with
  | none => have := (hnone hι).1; omega
  | some b =>
    obtain ⟨hs, vs, F, h3, h4⟩ := hsome b hι
    obtain ⟨hC1, _⟩ := hC.upd hl hι (upd_same h3) (B := .any) ⟨hl, b, _, hι, h3⟩
    have hp : Pool H E w (putM M i .any) i nid (nid + len (elemOf c k sz nid).2) := ⟨hC1, getM_put_same _ _ _, hlt, fun q hq ht => by rw [getM_put_ne _ _ _ _ (by omega)]; exact hd q hq ht, fun y hy hs' => by rw [hι] at hy; cases hy; exact hs hs'⟩
    have hms : n * sz ≤ E.κ i * sz := Nat.mul_le_mul_right _ hη.2
    have hk1 : (k + 1) * sz ≤ n * sz := Nat.mul_le_mul_right _ hk
    rw [Nat.add_mul, Nat.one_mul] at hk1
    have hsize := h4.size
    have hT : TrOkL H (fun b => w.heap[b]?) (tabTr (c k) 0 sz) ((vs.toList.drop (k * sz)).take sz) (fun x => ∃ j, F k j x) := by
      refine trOkL_mk (by rw [len_tabTr, List.length_take, List.length_drop]; omega) (fun j j' x hx hx' => (h4.sep k j k j' x hx hx').2) fun j t ht => ?_
      have hj : j < sz := by
        have := (List.getElem?_eq_some_iff.1 ht).1
        rwa [len_tabTr] at this
      rw [tabTr_get _ _ _ _ hj, Nat.zero_add] at ht
      cases ht
      obtain ⟨x, g1, g2⟩ := h4.tr k hk hn j hj
      exact ⟨x, by rw [List.getElem?_take, if_pos hj, List.getElem?_drop]; exact g1, g2⟩
    obtain ⟨E', g1, g2, g3, g4⟩ := openL_ok (tabTr (c k) 0 sz) hp (Nat.le_refl _) (fun y ⟨j, hy⟩ => h4.own k j y hy) hT
    obtain ⟨e1, e2, e3, e4⟩ := g3.ids i hl
    refine ⟨E', ?_, g2⟩
    have hB' : BlkOk H E' w i (.trow ty sz n cap c ((k, (elemOf c k sz nid).1) :: op) zs) := by
      refine ⟨e1, by rw [e3, e4]; exact hη, by rw [e3]; exact hκm, by rw [e3]; exact hcap, ?_⟩
      rw [e2, hι, e3]
      refine ⟨fun hs' => hs (g3.sub _ hs'), vs, fun k' j x => F k' j x ∧ k' ≠ k, h3, h4.one, h4.size, fun k' j x hx => g3.rest x (h4.own k' j x hx.1) fun ⟨j', hz⟩ => hx.2 (h4.sep k' j k j' x hx.1 hz).1, fun k' j k2 j2 x hx hx' => h4.sep k' j k2 j2 x hx.1 hx'.1, fun p hp => ?_, ?_, fun p hp => ?_, fun k' hk' hn' j hj => ?_, h4.spare⟩
      · rcases List.mem_cons.1 hp with rfl | hp
        · exact hk
        · exact h4.lt p hp
      · rw [List.map_cons, List.nodup_cons]
        refine ⟨fun hm => ?_, h4.once⟩
        obtain ⟨p, hp, e⟩ := List.mem_map.1 hm
        exact hn p hp e
      · rcases List.mem_cons.1 hp with rfl | hp
        · exact g4
        · exact RelL.env g3.via (h4.known p hp)
      · have hkk : k' ≠ k := fun e => hn' (k, (elemOf c k sz nid).1) (by simp) e.symm
        obtain ⟨x, q1, q2⟩ := h4.tr k' hk' (fun p hp => hn' p (List.mem_cons_of_mem _ hp)) j hj
        exact ⟨x, q1, TrOk.move (HH.le_refl _) _ (fun z hz => ⟨hz, hkk⟩) (fun _ _ => rfl) q2⟩
    obtain ⟨hC2, _⟩ := g1.upd e1 (e2.trans hι) (upd_same h3) hB'
    refine hC2.eqv fun j => ?_
    by_cases hj : i = j
    · subst hj; rw [getM_put_same, getM_put_same]
    · rw [getM_put_ne _ _ _ _ hj, getM_put_ne _ _ _ _ hj, getM_puts, getM_puts, getM_put_ne _ _ _ _ hj]; rfl
def noneP (k : Nat) (t : T CE) : List (Nat × List AV) → T CE
  | [] => t
  | (k0, _) :: r => .need (¬ k = k0) (noneP k t r)
theorem noneP_ok {k : Nat} {t : T CE} {Q : CE → Prop} : ∀ {op : List (Nat × List AV)}, ((∀ p ∈ op, p.1 ≠ k) → t.Sat Q) → (noneP k t op).Sat Q
  | [], h => h fun p hp => by cases hp
  | (k0, a) :: r, h => T.Sat.need fun hk => noneP_ok fun hr => h fun p hp => by
    rcases List.mem_cons.1 hp with rfl | hp
    · exact fun e => hk e.symm
    · exact hr p hp
def idxR (P : Program) (rd : Nat → Blk) (nid : Nat) (o : Oper) (t : Nat → AV) : Option (T CE) := match o.op with
  | .indexAddr ty x i => (match P.underlying ty, ev t x, scV (ev t i) with
    | some (.slice e), .own a sz 0 m, some (.int _ q) => (match sizeT P e, rd a with
      | some sz', .trow ty' s2 n cap c op zs => (match Nat.beq sz' sz && Nat.beq s2 sz with
        | true => some (.need (0 ≤ q) (.need (q < (m : Int)) (noneP q.toNat (.ret ⟨.ptr a q.toNat sz 0, a :: upFrom nid (len (elemOf c q.toNat sz nid).2), (a, .trow ty' s2 n cap c ((q.toNat, (elemOf c q.toNat sz nid).1) :: op) zs) :: wrFrom nid (elemOf c q.toNat sz nid).2, [], []⟩) op)))
        | false => none)
      | _, _ => none)
    | _, _, _ => none)
  | _ => none
theorem idxR_ok {P : Program} {rd : Nat → Blk} {nid : Nat} {o : Oper} {t : Nat → AV} {T0 : T CE} (hd : ∀ k, nid ≤ k → rd k = .dead) (h : idxR P rd nid o t = some T0) : T0.Sat (CE.Good P o t rd) := by
  unfold idxR at h
  split at h
  case h_2 => cases h
  rename_i ty x i hop
  split at h
  case h_2 => cases h
  rename_i e a sz m ki q hu hx hi
  split at h
  case h_2 => cases h
  rename_i sz' ty' s2 n cap c op zs hsz hg
  split at h
  case h_2 => cases h
  rename_i hs
  simp only [Bool.and_eq_true, Nat.beq_eq] at hs
  obtain ⟨rfl, rfl⟩ := hs
  cases h
  refine T.Sat.need fun h0 => T.Sat.need fun h1 => noneP_ok fun hne => T.Sat.ret fun M hM => runs_stepZ fun H E w ac hC hT => ?_
  have hv := rel_ev hT x
  rw [hx] at hv
  obtain ⟨hlv, hκ, hm⟩ := hv
  have hi2 := scV_ok hi (rel_ev hT i)
  have hgM := (hM a (by simp)).trans hg
  obtain ⟨hl, hη, hκm, hcap, hnone, hsome⟩ := trow_open hC hgM
  have hlt : a < nid := lt_nid (M := M) hd (by rw [hg]; intro h; cases h)
  obtain ⟨E', hC', hE'⟩ := focusR_ok hC (k := q.toNat) hgM (by omega) hne hlt fun k hk ht => (hM k (by simp only [List.mem_cons]; exact .inr (mem_iff.1 (mem_upFrom.2 ⟨hk, ht⟩)))).trans (hd k hk)
  cases hι : E.ι a with
  | none => have := (hnone hι).1; omega
  | some b =>
    rw [hι] at hm
    obtain ⟨ad, hv, had⟩ := hm
    obtain rfl := had.1 (.inl rfl)
    obtain ⟨e1, e2, _⟩ := hE'.ids a hl (by simp)
    refine ⟨.pointer (some ⟨b, q.toNat * s2, none⟩), w, H, E', ?_, ⟨e1, b, e2.trans hι, by simp⟩, ?_, hE'⟩
    · simp [execOp, hop, Instr.indexAt, asIntOf, run_underlying hu, run_sizeOf' w hsz, hv, hi2, h0, h1, addr_add]
    · simp only [killM, applyW, applyW_wrFrom]
      refine hC'.eqv fun j => ?_
      by_cases hj : a = j
      · subst hj; rw [getM_put_same, getM_puts, if_neg (by omega), getM_put_same]
      · rw [getM_put_ne _ _ _ _ hj, getM_puts, getM_puts, getM_put_ne _ _ _ _ hj]
def zsOf (P : Program) (e : TypeId) : Option (List Value) := match P.info? e with | some i => (match i.zero with | some z => some z.cells.toList | none => none) | none => none
def noTr (_ _ : Nat) : Tr := .av .junk
theorem zero_made (z : Array Value) (m : Nat) : madeCells z (m * z.size) = Builtin.zeroCells z m := rfl
def mkR (P : Program) (nid : Nat) (o : Oper) (t : Nat → AV) : Option CE :=
  match o.op with
  | .makeSlice ty l c => (match P.underlying ty, scV (ev t l), scV (ev t c) with
    | some (.slice el), some (.int _ a), some (.int _ b) => (match P.info? el, zeroL P el, zsOf P el with
      | some i, some z, some zs => (match Nat.ble 1 i.size && Nat.beq (len z) i.size with
        | true => some ⟨.own nid i.size 0 0, [nid], [(nid, .trow el i.size 0 none noTr [] zs)], [], [a = 0, 0 ≤ b, (i.bytes : Int) * b ≤ 281474976710656, b ≤ 9223372036854775807]⟩
        | false => none)
      | _, _, _ => none)
    | _, _, _ => none)
  | _ => none
theorem mkR_ok {P : Program} {rd : Nat → Blk} {nid : Nat} {o : Oper} {t : Nat → AV} {e : CE} (hd : ∀ k, nid ≤ k → rd k = .dead) (h : mkR P nid o t = some e) (ho : Hold e.ob) : CE.Good P o t rd e := by
  unfold mkR at h
  split at h
  case h_2 => cases h
  rename_i ty l c hop
  split at h
  case h_2 => cases h
  rename_i el k1 a k2 b hu hl hc
  split at h
  case h_2 => cases h
  rename_i i z zs hi hz hzs
  split at h
  case h_2 => cases h
  rename_i hb
  simp only [Bool.and_eq_true, Nat.ble_eq, Nat.beq_eq, len_eq] at hb
  obtain ⟨hs1, hzl⟩ := hb
  cases h
  have h0 := ho (a = 0) (by simp)
  have h1 := ho (0 ≤ b) (by simp)
  have h2 := ho ((i.bytes : Int) * b ≤ 281474976710656) (by simp)
  have h3 := ho (b ≤ 9223372036854775807) (by simp)
  subst h0
  intro M hM
  refine runs_stepZ fun H E w ac hC hT => ?_
  have hdn : getM M nid = .dead := (hM nid (by simp)).trans (hd nid (Nat.le_refl _))
  have e1 := scV_ok hl (rel_ev hT l)
  have e2 := scV_ok hc (rel_ev hT c)
  obtain ⟨i', zv, hi', hz', hrz, hoz⟩ := zeroL_ok H E hz
  rw [hi] at hi'
  cases hi'
  have hzz : zs = zv.cells.toList := by
    unfold zsOf at hzs
    rw [hi] at hzs
    simp only [hz'] at hzs
    cases hzs; rfl
  subst hzz
  have hzsz : zv.cells.size = i.size := by have := RelL.length hrz; simp at this; omega
  have hrun := run_make (P := P) w ty el i zv hu hi hz' k1 k2 0 b (Int.le_refl _) h1 h2 h3
  obtain ⟨s1, s2, s3, s4⟩ := E.set_same nid (some w.heap.size) b.toNat 0
  have hBok : BlkOk H (E.set nid (some w.heap.size) b.toNat 0) (w.alloc (.cells (madeCells zv.cells (b.toNat * i.size)) el)) nid (.trow el i.size 0 none noTr [] zv.cells.toList) := by
    refine ⟨s1, by rw [s3, s4]; omega, by rw [s3]; unfold maxLen; omega, fun q hq => (by cases hq), ?_⟩
    rw [s2, s3]
    refine ⟨fun hs => hs.1 rfl, _, fun _ _ _ => False, heap_alloc_new w _, by simp [ones], by simpa using size_madeCells _ _, fun _ _ _ h => h.elim, fun _ _ _ _ _ h => h.elim, fun p hp => (by cases hp), List.nodup_nil, fun p hp => (by cases hp), fun k hk => (by omega), fun _ => ?_⟩
    rw [← hzsz, zero_made]
    simp
  have hconc := alloc_conc (κ := b.toNat) (η := 0) hC hdn (madeCells zv.cells (b.toNat * i.size)) el hBok
  refine ⟨.slice (some ⟨w.heap.size, 0, none⟩) 0 b.toNat, _, H, _, ?_, ⟨s1, by rw [s3, s4]; omega, ?_⟩, hconc.1, hconc.2⟩
  · have := hrun
    simp [execOp, hop, e1, e2, this]
  · rw [s2]
    exact ⟨some ⟨w.heap.size, 0, none⟩, by rw [s3]; simp, by simp⟩
def nilR (P : Program) (nid h : Nat) (o : Oper) (t : Nat → AV) : Option CE :=
  match o.op with
  | .move x | .assign x => (match ev t x with
    | .s (.slice none 0 0) => (match P.info? (h - 1000000), zsOf P (h - 1000000) with
      | some i, some zs => some ⟨.own nid i.size 0 0, [nid], [(nid, .trow (h - 1000000) i.size 0 none noTr [] zs)], [], []⟩
      | _, _ => none)
    | _ => none)
  | _ => none
theorem nilR_ok {P : Program} {rd : Nat → Blk} {nid h : Nat} {o : Oper} {t : Nat → AV} {e : CE} (hd : ∀ k, nid ≤ k → rd k = .dead) (hh : nilR P nid h o t = some e) : CE.Good P o t rd e := by
  have go : ∀ x, o.op = .move x ∨ o.op = .assign x → (match ev t x with
    | .s (.slice none 0 0) => (match P.info? (h - 1000000), zsOf P (h - 1000000) with
      | some i, some zs => some (⟨.own nid i.size 0 0, [nid], [(nid, .trow (h - 1000000) i.size 0 none noTr [] zs)], [], []⟩ : CE)
      | _, _ => none)
    | _ => none) = some e → CE.Good P o t rd e := by
    intro x hop hh
    split at hh
    case h_2 => cases hh
    rename_i hx
    split at hh
    case h_2 => cases hh
    rename_i i zs hi hzs
    cases hh
    intro M hM
    refine runs_stepZ fun H E w ac hC hT => ?_
    have hdn : getM M nid = .dead := (hM nid (by simp)).trans (hd nid (Nat.le_refl _))
    have hv := rel_ev hT x
    rw [hx] at hv
    obtain ⟨hv, _⟩ := hv
    obtain ⟨s1, s2, s3, s4⟩ := E.set_same nid none 0 0
    obtain ⟨hc, hev⟩ := hC.new (w' := w) (i := nid) (κ := 0) (η := 0) (bo := none) (B := .trow (h - 1000000) i.size 0 none noTr [] zs) hdn rfl rfl rfl (Nat.le_refl _) (fun _ _ => rfl) (fun b hb => by cases hb)
      ⟨s1, by rw [s3, s4]; omega, by rw [s3]; exact Nat.zero_le _, (fun q hq => by cases hq), by rw [s2]; exact ⟨s3, rfl⟩⟩
    refine ⟨.slice none 0 0, w, H, _, ?_, ⟨s1, by rw [s3, s4]; omega, by rw [s2]; exact ⟨rfl, rfl, rfl⟩⟩, hc, hev⟩
    rcases hop with hop | hop <;> simp [execOp, hop, hv]
  unfold nilR at hh
  split at hh
  · rename_i x hop; exact go x (.inl hop) hh
  · rename_i x hop; exact go x (.inr hop) hh
  · cases hh
def Env.setK (E : Env) (i : Nat) (b : Option Nat) (κ η : Nat) : Env :=
  ⟨E.lv, fun j => if j = i then b else E.ι j, fun j => if j = i then κ else E.κ j, fun j => if j = i then η else E.η j, E.σ⟩
theorem Env.setK_same (E : Env) (i : Nat) (b : Option Nat) (κ η : Nat) : (E.setK i b κ η).lv i = E.lv i ∧ (E.setK i b κ η).ι i = b ∧ (E.setK i b κ η).κ i = κ ∧ (E.setK i b κ η).η i = η := by simp [Env.setK]
theorem Env.setK_ne (E : Env) (i j : Nat) (b : Option Nat) (κ η : Nat) (h : j ≠ i) : (E.setK i b κ η).lv j = E.lv j ∧ (E.setK i b κ η).ι j = E.ι j ∧ (E.setK i b κ η).κ j = E.κ j ∧ (E.setK i b κ η).η j = E.η j := by simp [Env.setK, h]
theorem Env.setK_has {E : Env} {i j x : Nat} {b : Option Nat} {κ η : Nat} (h : (E.setK i b κ η).has j x) : (j = i ∧ b = some x ∧ E.lv i = true) ∨ E.has j x := by
  obtain ⟨h1, h2⟩ := h
  rcases h2 with h2 | h2
  · by_cases hj : j = i
    · subst hj
      simp [Env.setK] at h1 h2
      exact .inl ⟨rfl, h2, h1⟩
    · simp [Env.setK, hj] at h1 h2
      exact .inr ⟨h1, .inl h2⟩
  · exact .inr ⟨h1, .inr h2⟩
theorem Env.setK_via {E : Env} {a κ η : Nat} {bo : Option Nat} : E.via (E.setK a bo κ η) (keepOf [a]) := by
  intro i j hij hli
  unfold keepOf at hij
  split at hij
  · cases hij
  · rename_i hn
    cases hij
    have hne : i ≠ a := by simpa using hn
    obtain ⟨e1, e2, e3⟩ := E.setK_ne a i bo κ η hne
    exact ⟨e1.trans hli, e2, e3⟩
theorem Conc.moveK {H : HH} {E : Env} {w w' : World} {M : List Blk} {a κ' η' : Nat} {bo' : Option Nat} {B : Blk} (hC : Conc H E w M) (hl : E.lv a = true) (hw : w.grownBy w' (E.ι a)) (hbo : ∀ g, bo' = some g → E.ι a = some g ∨ w.heap.size ≤ g)
    (hB : BlkOk H (E.setK a bo' κ' η') w' a (renB (keepOf [a]) B)) : Conc H (E.setK a bo' κ' η') w' (killM [a] (putM M a B)) ∧ Evol [a] H E w H (E.setK a bo' κ' η') w' := by
  have hsame : ∀ b, b < w.heap.size → E.ι a ≠ some b → w'.heap[b]? = w.heap[b]? := fun b hb hn => hw.block b hb fun e => hn e.symm
  have hown : ∀ {g : Nat}, bo' = some g → E.has a g ∨ w.heap.size ≤ g := fun hg => (hbo _ hg).imp (fun h => ⟨hl, .inl h⟩) id
  refine ⟨⟨fun b o ho => ?_, hC.tf, fun i => ?_, fun i j b hi hj => ?_, fun i b hi => ?_, fun i b hi hib => ?_⟩, ⟨hw.os, hw.tape, hw.output, hw.size, fun b hb hn => hsame b hb (fun e => hn a ⟨hl, .inl e⟩), fun i b hi => ?_, HH.le_refl _, fun _ _ _ h => .inl h, fun i hi hn => ?_⟩⟩
  · rw [hsame b (IH.lt_of hC.imm ho) fun e => by rw [hC.sep a b hl e] at ho; cases ho]
    exact hC.imm b o ho
  · rw [getM_kill]
    by_cases hi : a = i
    · subst hi; rw [getM_put_same]; exact hB
    · rw [getM_put_ne _ _ _ _ hi]
      have hi' : i ≠ a := fun e => hi e.symm
      obtain ⟨e1, e2, e3, e4⟩ := E.setK_ne a i bo' κ' η' hi'
      exact (hC.blk i).move (HH.le_refl _) Env.setK_via e1 e2 e3 e4 (fun b => Iff.rfl) fun b hb => hsame b (hC.ltH hb) fun e => hi (hC.injH a i b ⟨hl, .inl e⟩ hb)
  · rcases Env.setK_has hi with ⟨rfl, h1, _⟩ | h1 <;> rcases Env.setK_has hj with ⟨rfl, h2, _⟩ | h2
    · rfl
    · have hlt := hC.ltH h2
      rcases hown h1 with h3 | h3
      · exact hC.injH _ _ b h3 h2
      · omega
    · have hlt := hC.ltH h1
      rcases hown h2 with h3 | h3
      · exact hC.injH _ _ b h1 h3
      · omega
    · exact hC.injH i j b h1 h2
  · rcases Env.setK_has hi with ⟨rfl, h1, _⟩ | h1
    · rcases hown h1 with h3 | h3
      · exact hC.sepH _ b h3
      · cases hx : H false b with
        | none => rfl
        | some o => have := IH.lt_of hC.imm hx; omega
    · exact hC.sepH i b h1
  · have := hC.ltS i b hi hib; have := hw.size; omega
  · rcases Env.setK_has hi with ⟨rfl, h1, _⟩ | h1
    · rcases hown h1 with h3 | h3
      · exact .inl ⟨_, h3⟩
      · exact .inr h3
    · exact .inl ⟨i, h1⟩
  · exact Env.setK_via i i (by unfold keepOf; rw [if_neg (by simpa using hn)]) hi
theorem zero_drop (z : Array Value) (m k : Nat) (hz : 0 < z.size) : (Builtin.zeroCells z m).toList.drop (k * z.size) = (Builtin.zeroCells z (m - k)).toList := by
  refine List.ext_getElem? fun q => ?_
  rw [List.getElem?_drop]
  simp only [Builtin.zeroCells, Array.toList_map, List.getElem?_map, Array.toList_range]
  by_cases hq : q < (m - k) * z.size
  · have h2 : k * z.size + q < m * z.size := by
      rw [Nat.sub_mul] at hq
      omega
    rw [List.getElem?_range h2, List.getElem?_range hq]
    simp only [Option.map_some]
    congr 2
    rw [Nat.mul_comm, Nat.mul_add_mod]
  · have h2 : m * z.size ≤ k * z.size + q := by
      rw [Nat.sub_mul] at hq
      omega
    rw [List.getElem?_eq_none (by simpa using h2), List.getElem?_eq_none (by simpa using hq)]
theorem run_append_full {P : Program} {w : World} {t ty el : TypeId} {i : TypeInfo} {z s : Value} {n m c κ : Nat} {bo : Option Nat} {cur : Array Value} {news : List Value} {ad : Addr} (hu : P.underlying t = some (.slice el)) (hi : P.info? el = some i) (hz : i.zero = some z)
    (hzs : z.cells.size = i.size) (h0 : 0 < i.size) (hnκ : n ≤ κ) (hκm : κ ≤ maxLen) (hs : s = match bo with | none => .slice none 0 0 | some b => .slice (some ⟨b, 0, none⟩) n κ) (hbn : bo = none → n = 0 ∧ κ = 0 ∧ cur = #[]) (hbs : ∀ b, bo = some b → w.heap[b]? = some (.cells cur el (0, 0))) (hcs : cur.size = κ * i.size)
    (hm : 1 ≤ m) (hnl : news.length = m * i.size) (hcell : ∀ j u, news[j]? = some u → w.cell? (ad.add j) = some u) (h1 : ones news) (h63 : n + m ≤ maxLen) (hb : (n + m) * i.bytes ≤ 140737488355328) :
    ∃ b' κ' cur' w', (Builtin.append_ #[t, t] ty #[s, .slice (some ad) m c]).run P w = .ok (.slice (some ⟨b', 0, none⟩) (n + m) κ') w' ∧ w'.heap[b']? = some (.cells cur' el (0, 0)) ∧ cur'.size = κ' * i.size ∧ n + m ≤ κ' ∧ κ' ≤ maxLen ∧ cur'.toList.take ((n + m) * i.size) = cur.toList.take (n * i.size) ++ news ∧
      w.grownBy w' bo ∧ (bo = some b' ∨ w.heap.size ≤ b') ∧ ((κ' = κ ∧ cur'.toList.drop ((n + m) * i.size) = cur.toList.drop ((n + m) * i.size)) ∨ cur'.toList.drop ((n + m) * i.size) = (Builtin.zeroCells z.cells (κ' - (n + m))).toList) := by
  have hnk : n * i.size ≤ κ * i.size := Nat.mul_le_mul_right _ hnκ
  have hxl : (cur.toList.take (n * i.size)).length = n * i.size := by simp; omega
  have hlen : (cur.toList.take (n * i.size) ++ news).length = (n + m) * i.size := by rw [List.length_append, hxl, hnl, Nat.add_mul]
  have hsmall : n + m ≤ 9223372036854775807 := by simp only [maxLen] at h63; omega
  have grown : ∀ (old : Nat), old < n + m → ∀ xs : List Value, xs = cur.toList.take (n * i.size) →
      (w.drew.alloc (.cells (xs.toArray ++ news.toArray ++ Builtin.zeroCells z.cells (grownCap w (n + m) old el - (n + m))) el)).heap[w.heap.size]? = some (.cells (xs.toArray ++ news.toArray ++ Builtin.zeroCells z.cells (grownCap w (n + m) old el - (n + m))) el (0, 0)) ∧
      (xs.toArray ++ news.toArray ++ Builtin.zeroCells z.cells (grownCap w (n + m) old el - (n + m))).size = grownCap w (n + m) old el * i.size ∧ n + m ≤ grownCap w (n + m) old el ∧ grownCap w (n + m) old el ≤ maxLen ∧
      (xs.toArray ++ news.toArray ++ Builtin.zeroCells z.cells (grownCap w (n + m) old el - (n + m))).toList.take ((n + m) * i.size) = cur.toList.take (n * i.size) ++ news ∧
      w.grownBy (w.drew.alloc (.cells (xs.toArray ++ news.toArray ++ Builtin.zeroCells z.cells (grownCap w (n + m) old el - (n + m))) el)) bo ∧
      (xs.toArray ++ news.toArray ++ Builtin.zeroCells z.cells (grownCap w (n + m) old el - (n + m))).toList.drop ((n + m) * i.size) = (Builtin.zeroCells z.cells (grownCap w (n + m) old el - (n + m))).toList := by
    intro old ho xs hxs
    subst hxs
    have hge := grownCap_ge w (n + m) old el
    have hcm : grownCap w (n + m) old el ≤ maxLen := grownCap_le_maxLen w (n + m) old el h63
    refine ⟨heap_alloc_new w.drew _, ?_, hge, hcm, ?_, ⟨rfl, rfl, rfl, by simp, fun k hk _ => heap_alloc_old w.drew _ hk⟩, ?_⟩
    · simp only [Array.size_append, List.size_toArray, size_zeroCells, hzs, hxl, hnl, ← Nat.add_mul]
      congr 1
      omega
    · simp only [Array.toList_append]
      rw [← hlen]
      exact List.take_left
    · simp only [Array.toList_append]
      rw [← hlen]
      exact List.drop_left
  cases bo with
  | none =>
    obtain ⟨rfl, rfl, rfl⟩ := hbn rfl
    subst hs
    have hr := run_append_nil (P := P) w t ty el i z hu hi hz ad m c news hnl hcell (by omega) (by omega) (by have hb := hb; simp only [Nat.zero_add] at hb; omega)
    obtain ⟨g1, g2, g3, g4, g5, g6, g7⟩ := grown 0 (by omega) [] (by simp)
    simp only [Nat.zero_add, Array.empty_append] at hr g1 g2 g3 g4 g5 g6 g7 ⊢
    exact ⟨_, _, _, _, hr, g1, g2, g3, g4, g5, g6, .inr (Nat.le_refl _), .inr g7⟩
  | some g =>
    subst hs
    have hg := hbs g rfl
    by_cases hroom : n + m ≤ κ
    · have hfit : n * i.size + news.length ≤ cur.size := by rw [hnl, hcs, ← Nat.add_mul]; exact Nat.mul_le_mul_right _ hroom
      have hr := run_append_room (P := P) w t ty el i hu hi g n κ cur hg ad m c news hnl hcell h1 hroom hfit
      refine ⟨g, κ, _, _, hr, setRow_heap w g cur _ el _ hg, ?_, hroom, hκm, ?_, ⟨rfl, rfl, rfl, by simp, fun k _ hk => setRow_other w g k _ (fun e => hk (by simp [e]))⟩, .inl rfl, .inl ⟨rfl, ?_⟩⟩
      · simp only [List.size_toArray, List.length_append, List.length_take, List.length_drop, Array.length_toList]
        omega
      · rw [← hlen]
        exact List.take_left
      · rw [show (cur.toList.take (n * i.size) ++ news ++ cur.toList.drop (n * i.size + news.length)).toArray.toList = cur.toList.take (n * i.size) ++ news ++ cur.toList.drop (n * i.size + news.length) from rfl, ← hlen, List.drop_left, List.length_append, hxl]
    · have holds : ∀ j u, (cur.toList.take (n * i.size))[j]? = some u → w.cell? ((⟨g, 0, none⟩ : Addr).add j) = some u := by
        intro j u hu
        have hadd : (⟨g, 0, none⟩ : Addr).add j = ⟨g, j, none⟩ := by unfold Addr.add; split <;> simp_all
        rw [hadd, cell_of_row w g j cur el (0, 0) hg]
        rw [List.getElem?_take] at hu
        split at hu
        · simpa using hu
        · cases hu
      have hr := run_append_grow (P := P) w t ty el i z hu hi hz ⟨g, 0, none⟩ n κ (cur.toList.take (n * i.size)) hxl holds ad m c news hnl hcell (by omega) (by omega) (growslice_fits (by omega) hb)
      obtain ⟨g1, g2, g3, g4, g5, g6, g7⟩ := grown κ (by omega) _ rfl
      exact ⟨_, _, _, _, hr, g1, g2, g3, g4, g5, g6, .inr (Nat.le_refl _), .inr g7⟩
def appR (P : Program) (rd : Nat → Blk) (o : Oper) (t : Nat → AV) : Option CE := match o.op with
  | .call { callee := .builtin .append, args, argTypes } => (match argTypes.toList, args.toList with
    | [t1, t2], [s, x] => (match P.underlying t1, ev t s with
      | some (.slice e), .own a sz 0 n => (match P.info? e, zeroL P e, zsOf P e, rd a with
        | some inf, some zl, some zz, .trow ty s2 m cap c op zs => (match t1 == t2 && Nat.beq s2 sz && Nat.beq inf.size sz && Nat.ble 1 sz && Nat.beq ty e && zsLe zz zs && Nat.beq (len zl) sz, srcOf rd sz (sv (ev t x)) with
          | true, some (1, some l, _) => some ⟨.own a sz 0 (n + 1), a :: refOf (sv (ev t x)), [(a, .trow ty sz (n + 1) none c ((n, renL (keepOf [a]) l) :: op.map fun p => (p.1, renL (keepOf [a]) p.2)) zs)], [a], [m = n, n + 1 ≤ maxLen, (n + 1) * inf.bytes ≤ 140737488355328]⟩
          | _, _ => none)
        | _, _, _, _ => none)
      | _, _ => none)
    | _, _ => none)
  | _ => none
theorem appR_ok {P : Program} {o : Oper} {t : Nat → AV} {rd : Nat → Blk} {e : CE} (h : appR P rd o t = some e) (ho : Hold e.ob) : CE.Good P o t rd e := by
  unfold appR at h
  split at h
  case h_2 => cases h
  rename_i args ats hop
  split at h
  case h_2 => cases h
  rename_i t1 t2 s x hty hargs
  have h1 : args = #[s, x] := Array.ext' hargs
  have h2 : ats = #[t1, t2] := Array.ext' hty
  subst h1; subst h2
  split at h
  case h_2 => cases h
  rename_i el a sz n hu hs0
  split at h
  case h_2 => cases h
  rename_i inf zl zz ty s2 m cap c op zs hi hz hzz hg
  split at h
  case h_2 => cases h
  rename_i l d hb hsrc
  cases h
  simp only [Bool.and_eq_true, beq_iff_eq, Nat.beq_eq, Nat.ble_eq] at hb
  obtain ⟨⟨⟨⟨⟨⟨rfl, rfl⟩, hsz⟩, h0⟩, rfl⟩, hzl⟩, hzn⟩ := hb
  rw [len_eq] at hzn
  have hmn := ho (m = n) (by simp)
  have h63 := ho (n + 1 ≤ maxLen) (by simp)
  have hby := ho ((n + 1) * inf.bytes ≤ 140737488355328) (by simp)
  subst hmn
  intro M hM
  refine runs_stepZ fun H E w ac hC hT => ?_
  have hs := rel_ev hT s
  rw [hs0] at hs
  have hx := rel_sv (rel_ev hT x)
  rw [← srcOf_congr (rd := getM M) (fun j hj => hM j (by simp [hj]))] at hsrc
  obtain ⟨A, c', news, hxv, hnl, hA, hcell, hones, hr1, _⟩ := srcOf_ok hC hx h0 hsrc
  have hr1 := hr1 l rfl
  simp only at hxv hnl hA
  obtain ⟨ad, rfl⟩ : ∃ ad, A = some ad := by
    cases A with
    | none => have := hA rfl; omega
    | some ad => exact ⟨ad, rfl⟩
  have hcell := hcell ad rfl
  obtain ⟨hl, hη, hκm, hcap, hnone, hsome⟩ := trow_open hC ((hM a (by simp)).trans hg)
  obtain ⟨_, hκ, hm2⟩ := hs
  obtain ⟨i', z, hi', hz', hrz, hoz⟩ := zeroL_ok H E hz
  rw [hi] at hi'; cases hi'
  have hzsz : z.cells.size = inf.size := by
    have := RelL.length hrz
    simp at this; omega
  have hzz' : zz = z.cells.toList := by
    unfold zsOf at hzz
    rw [hi] at hzz
    simp only [hz'] at hzz
    cases hzz; rfl
  -- the cells that were there
  obtain ⟨cur, hbn, hbs, hcs⟩ : ∃ cur : Array Value, (E.ι a = none → m = 0 ∧ E.κ a = 0 ∧ cur = #[]) ∧ (∀ b, E.ι a = some b → w.heap[b]? = some (.cells cur ty (0, 0)) ∧ ¬ E.σ a b ∧ ∃ F, RowOk H E (fun x => w.heap[x]?) a s2 m (E.κ a) c op zs cur.toList F) ∧ cur.size = E.κ a * inf.size := by
    cases hι : E.ι a with
    | none => exact ⟨#[], fun _ => ⟨by have := (hnone hι).1; omega, (hnone hι).1, rfl⟩, fun b hb => (by cases hb), by rw [(hnone hι).1]; simp⟩
    | some b =>
      obtain ⟨g1, vs, F, g2, g3⟩ := hsome b hι
      exact ⟨vs, fun h => (by cases h), fun b' hb' => (by cases hb'; exact ⟨g2, g1, F, g3⟩), by have := g3.size; rw [hsz]; simpa using this⟩
  have hsv : ac.eval s = match E.ι a with | none => .slice none 0 0 | some b => .slice (some ⟨b, 0, none⟩) m (E.κ a) := by
    cases hι : E.ι a with
    | none => rw [hι] at hm2; exact hm2.2.2
    | some b =>
      rw [hι] at hm2
      obtain ⟨ad', hv, had⟩ := hm2
      rw [hv, had.1 (.inl rfl)]; simp
  obtain ⟨b', κ', cur', w', hrun, k1, k2, k3, k4, k5, k6, k7, k8⟩ := run_append_full (ty := o.type) (c := c') hu hi hz' hzsz (by omega) (by omega) hκm hsv hbn (fun b hb => (hbs b hb).1) hcs (Nat.le_refl 1) (by rw [hsz]; exact hnl) hcell hones h63 hby
  obtain ⟨e1, e2, e3, e4⟩ := E.setK_same a (some b') κ' (m + 1)
  rw [hsz] at k2 k5 k8 hcs
  have hcl : cur.toList.length = E.κ a * s2 := by simpa using hcs
  have hmκ : m * s2 ≤ E.κ a * s2 := Nat.mul_le_mul_right _ (by omega)
  have hcl' : cur'.toList.length = κ' * s2 := by simpa using k2
  have hmκ' : (m + 1) * s2 ≤ κ' * s2 := Nat.mul_le_mul_right _ k3
  have hm1 : (m + 1) * s2 = m * s2 + s2 := by rw [Nat.add_mul, Nat.one_mul]
  have hget : ∀ q, q < m * s2 → cur'.toList[q]? = cur.toList[q]? := fun q hq => by
    have h3 : (cur'.toList.take ((m + 1) * s2))[q]? = (cur.toList.take (m * s2) ++ news)[q]? := by rw [k5]
    rw [List.getElem?_take, if_pos (by omega), List.getElem?_append, if_pos (by rw [List.length_take]; omega), List.getElem?_take, if_pos hq] at h3
    exact h3
  have hnew : (cur'.toList.drop (m * s2)).take s2 = news := by
    have h3 : (cur'.toList.take ((m + 1) * s2)).drop (m * s2) = news := by
      rw [k5, List.drop_append_of_le_length (by rw [List.length_take]; omega), List.drop_eq_nil_of_le (by rw [List.length_take]; omega), List.nil_append]
    rw [← h3, List.drop_take]
    congr 1
    omega
  obtain ⟨F, g1, g2, g3⟩ : ∃ F, (∀ b, E.ι a = some b → ¬ E.σ a b) ∧ RowOk H E (fun x => w.heap[x]?) a s2 m (E.κ a) c op zs cur.toList F ∧ (E.ι a = none → zs ≠ [] → True) := by
    cases hι : E.ι a with
    | none =>
      obtain ⟨hm0, hκ0, hc0⟩ := hbn hι
      have hop := (hnone hι).2
      subst hop
      refine ⟨fun _ _ _ => False, fun b hb => (by cases hb), ⟨by rw [hm0]; simp [ones], hcl, fun _ _ _ h => h.elim, fun _ _ _ _ _ h => h.elim, fun p hp => (by cases hp), List.nodup_nil, fun p hp => (by cases hp), fun k hk => (by omega), fun _ => ?_⟩, fun _ _ => trivial⟩
      rw [hm0, hκ0, hc0]
      simp [Builtin.zeroCells]
    | some b =>
      obtain ⟨_, hb2, F, g⟩ := hbs b hι
      exact ⟨F, fun b' hb' => (by cases hb'; exact hb2), g, fun _ _ => trivial⟩
  have hhp : ∀ x, E.σ a x → w'.heap[x]? = w.heap[x]? := fun x hx => k6.block x (hC.ltS a x hl hx) fun e => g1 x e.symm hx
  have hfst : ((op.map fun p => (p.1, renL (keepOf [a]) p.2)).map fun p => p.1) = op.map fun p => p.1 := by rw [List.map_map]; rfl
  have hB : BlkOk H (E.setK a (some b') κ' (m + 1)) w' a (renB (keepOf [a]) (.trow ty s2 (m + 1) none c ((m, l) :: op) zs)) := by
    refine ⟨e1.trans hl, by rw [e3, e4]; exact ⟨rfl, k3⟩, by rw [e3]; exact k4, fun q hq => (by cases hq), ?_⟩
    rw [e2, e3]
    refine ⟨fun hs' => ?_, cur', F, k1, ?_, hcl', fun k j x hx => g2.own k j x hx, g2.sep, fun p hp => ?_, ?_, fun p hp => ?_, fun k hk hn j hj => ?_, fun hz' => ?_⟩
    · have hs' : E.σ a b' := hs'
      rcases k7 with h | h
      · exact g1 b' h hs'
      · have := hC.ltS a b' hl hs'; omega
    · rw [k5]
      intro y hy
      rcases List.mem_append.1 hy with hy | hy
      · exact g2.one y hy
      · exact hones y hy
    · simp only [List.map_cons, List.mem_cons] at hp
      rcases hp with rfl | hp
      · exact Nat.lt_succ_self _
      · obtain ⟨p0, hp0, rfl⟩ := List.mem_map.1 hp
        have := g2.lt p0 hp0
        show p0.1 < m + 1
        omega
    · show (m :: ((op.map fun p => (p.1, renL (keepOf [a]) p.2)).map fun p => p.1)).Nodup
      rw [hfst, List.nodup_cons]
      refine ⟨fun hm => ?_, g2.once⟩
      obtain ⟨p, hp, e⟩ := List.mem_map.1 hm
      have := g2.lt p hp
      omega
    · simp only [List.map_cons, List.mem_cons] at hp
      rcases hp with rfl | hp
      · show RelL (renL (keepOf [a]) l) H _ ((cur'.toList.drop (m * s2)).take s2)
        rw [hnew]; exact RelL.ren _ Env.setK_via hr1
      · obtain ⟨p0, hp0, rfl⟩ := List.mem_map.1 hp
        have hlt := g2.lt p0 hp0
        have hk1 : (p0.1 + 1) * s2 ≤ m * s2 := Nat.mul_le_mul_right _ hlt
        rw [Nat.add_mul, Nat.one_mul] at hk1
        have e : (cur'.toList.drop (p0.1 * s2)).take s2 = (cur.toList.drop (p0.1 * s2)).take s2 := by
          refine List.ext_getElem? fun q => ?_
          rw [List.getElem?_take, List.getElem?_take]
          split
          · rename_i hq
            rw [List.getElem?_drop, List.getElem?_drop, hget _ (by omega)]
          · rfl
        show RelL (renL (keepOf [a]) p0.2) H _ ((cur'.toList.drop (p0.1 * s2)).take s2)
        rw [e]
        exact RelL.ren _ Env.setK_via (g2.known p0 hp0)
    · have hkm : k ≠ m := fun e => hn (m, renL (keepOf [a]) l) (by simp) e.symm
      obtain ⟨x, q1, q2⟩ := g2.tr k (by omega) (fun p hp => hn (p.1, renL (keepOf [a]) p.2) (by
        simp only [List.map_cons, List.mem_cons]
        exact .inr (List.mem_map.2 ⟨p, hp, rfl⟩))) j hj
      have hk1 : (k + 1) * s2 ≤ m * s2 := Nat.mul_le_mul_right _ (by omega)
      rw [Nat.add_mul, Nat.one_mul] at hk1
      exact ⟨x, by rw [hget _ (by omega)]; exact q1, TrOk.move (HH.le_refl _) _ (fun _ h => h) (fun y hy => hhp y (g2.own k j y hy)) q2⟩
    · have hzq : zs = z.cells.toList := by rw [← hzz']; exact (zsLe_ok hzl hz').symm
      rcases k8 with ⟨hκκ, k8⟩ | k8
      · rw [k8, hκκ]
        have := g2.spare hz'
        rw [hm1, ← List.drop_drop, this]
        have h3 : zs.toArray.size = s2 := by rw [hzq]; simp; omega
        have := zero_drop zs.toArray (E.κ a - m) 1 (by omega)
        rw [h3, Nat.one_mul] at this
        rw [this]
        congr 1
      · rw [k8, hzq]
  obtain ⟨hconc, hev⟩ := hC.moveK hl k6 (bo' := some b') (κ' := κ') (η' := m + 1) (fun g hg => by cases hg; exact k7.imp id id) hB
  refine ⟨.slice (some ⟨b', 0, none⟩) (m + 1) κ', w', H, E.setK a (some b') κ' (m + 1), ?_, ⟨e1.trans hl, by rw [e3, e4]; omega, ?_⟩, ?_, hev⟩
  · simp [execOp, hop, resolve, invoke, builtin, hxv, hrun, Result.andThen]
  · rw [e2, e3]
    exact ⟨some ⟨b', 0, none⟩, by simp, by simp⟩
  · refine hconc.eqv fun j => ?_
    simp only [applyW]
    rw [getM_kill]
    by_cases hj : a = j
    · subst hj; rw [getM_put_same, getM_put_same]; rfl
    · rw [getM_put_ne _ _ _ _ hj, getM_put_ne _ _ _ _ hj, getM_kill]
def getZ : List Value → Nat → Value
  | [], _ => .nilIface
  | v :: _, 0 => v
  | _ :: r, n + 1 => getZ r n
theorem getZ_ok : ∀ (l : List Value) (j : Nat), j < l.length → l[j]? = some (getZ l j)
  | [], _, h => by simp at h
  | _ :: _, 0, _ => rfl
  | _ :: r, j + 1, h => by simpa [getZ] using getZ_ok r j (by simpa using h)
def allSc : List Value → Bool
  | [] => true
  | v :: r => scalar v && allSc r
theorem allSc_get : ∀ {l : List Value}, allSc l = true → ∀ v ∈ l, scalar v = true
  | a :: r, h, v, hv => by
    simp only [allSc, Bool.and_eq_true] at h
    rcases List.mem_cons.1 hv with rfl | hv
    · exact h.1
    · exact allSc_get h.2 v hv
theorem scalar_one {v : Value} (h : scalar v = true) : v.oneCell' = true := by
  cases v <;> first | rfl | simp [scalar] at h
def upV (m k : Nat) : Value → Value → Option Value
  | .int kk a, .int kk' b => (match kindB kk kk' with | true => some (.int kk (if k < m then a else b)) | false => none)
  | .string a, .string b => some (.string (if k < m then a else b))
  | .bool a, .bool b => some (.bool (if k < m then a else b))
  | _, _ => none
theorem upV_ok {m k : Nat} {v z u : Value} (h : upV m k v z = some u) : u = (if k < m then v else z) ∧ scalar u = true := by
  unfold upV at h
  split at h
  · split at h
    · rename_i hk
      have := of_decide_eq_true hk
      subst this
      cases h
      refine ⟨?_, rfl⟩
      split <;> rfl
    · cases h
  · cases h
    refine ⟨?_, rfl⟩
    split <;> rfl
  · cases h
    refine ⟨?_, rfl⟩
    split <;> rfl
  · cases h
def upC (m k : Nat) (zv : Value) : Tr → Tr
  | .frow ty s n cc => (match zv with | .slice none 0 0 => .frow ty s (if k < m then n else 0) cc | _ => .av .junk)
  | .av (.y v) => (match upV m k v zv with | some u => .av (.y u) | none => .av .junk)
  | .av (.s v) => (match upV m k v zv with | some u => .av (.y u) | none => .av .junk)
  | _ => .av .junk
theorem upC_lo {H : HH} {hp : Nat → Option Obj} {m k : Nat} {zv v : Value} {t : Tr} {S : Nat → Prop} (hk : k < m) (h : TrOk H hp t v S) : TrOk H hp (upC m k zv t) v S := by
  unfold upC
  split
  · split
    · rw [if_pos hk]; exact h
    · trivial
  · split
    · rename_i hu
      obtain ⟨h1, h2⟩ := upV_ok hu
      rw [if_pos hk] at h1; subst h1; exact h
    · trivial
  · split
    · rename_i hu
      obtain ⟨h1, h2⟩ := upV_ok hu
      rw [if_pos hk] at h1; subst h1; exact h
    · trivial
  · trivial
theorem upC_hi {H : HH} {hp : Nat → Option Obj} {m k : Nat} {zv : Value} {t : Tr} {S : Nat → Prop} (hk : ¬ k < m) : TrOk H hp (upC m k zv t) zv S := by
  unfold upC
  split
  · split
    · rw [if_neg hk]; exact ⟨0, Nat.le_refl _, Nat.zero_le _, .inl ⟨rfl, rfl, rfl⟩⟩
    · trivial
  · split
    · rename_i hu
      obtain ⟨h1, h2⟩ := upV_ok hu
      rw [if_neg hk] at h1; subst h1; exact ⟨rfl, h2⟩
    · trivial
  · split
    · rename_i hu
      obtain ⟨h1, h2⟩ := upV_ok hu
      rw [if_neg hk] at h1; subst h1; exact ⟨rfl, h2⟩
    · trivial
  · trivial
def upRow (m : Nat) (zs : List Value) (c : Nat → Nat → Tr) (k j : Nat) : Tr := upC m k (getZ zs j) (c k j)
def upR (P : Program) (rd : Nat → Blk) (o : Oper) (t : Nat → AV) : Option CE := match o.op with
  | .slice ty x none (some hi) none => (match P.underlying ty, ev t x, scV (ev t hi) with
    | some (.slice e), .own i sz 0 _, some (.int _ u) => (match sizeT P e, rd i with
      | some sz', .trow ty' s2 m (some q) c op zs => (match Nat.beq sz' sz && Nat.beq s2 sz && Nat.beq (len zs) sz && Nat.ble 1 sz && allSc zs with
        | true => some ⟨.own i sz 0 q, [i], [(i, .trow ty' sz q (some q) (upRow m zs c) (op.map fun p => (p.1, renL (keepOf [i]) p.2)) zs)], [i], [u = (q : Int)]⟩
        | false => none)
      | _, _ => none)
    | _, _, _ => none)
  | _ => none
theorem grownBy_refl (w : World) (r : Option Nat) : w.grownBy w r := ⟨rfl, rfl, rfl, Nat.le_refl _, fun _ _ _ => rfl⟩
theorem upR_ok {P : Program} {o : Oper} {t : Nat → AV} {rd : Nat → Blk} {e : CE} (h : upR P rd o t = some e) (ho : Hold e.ob) : CE.Good P o t rd e := by
  unfold upR at h
  split at h
  case h_2 => cases h
  rename_i ty x hi hop
  split at h
  case h_2 => cases h
  rename_i el i sz n ku u hu hx0 hu'
  split at h
  case h_2 => cases h
  rename_i sz' ty' s2 m q c op zs hsz hg
  split at h
  case h_2 => cases h
  rename_i hs
  simp only [Bool.and_eq_true, Nat.beq_eq, Nat.ble_eq, len_eq] at hs
  obtain ⟨⟨⟨⟨rfl, rfl⟩, hzl⟩, hs0⟩, hsc⟩ := hs
  cases h
  have b2 := ho (u = (q : Int)) (by simp)
  subst b2
  have hzn : zs ≠ [] := fun e => by rw [e] at hzl; simp at hzl; omega
  intro M hM
  refine runs_stepZ fun H E w a hC hT => ?_
  have hx := rel_ev hT x
  rw [hx0] at hx
  have hku := scV_ok hu' (rel_ev hT hi)
  obtain ⟨hl, hη, hκm, hcap, hnone, hsome⟩ := trow_open hC ((hM i (by simp)).trans hg)
  obtain ⟨_, hκ, hm2⟩ := hx
  have hκq := hcap q rfl
  have key : ∀ A, a.eval x = .slice A n (E.κ i) → (execOp a.eval o).run P w = .ok (.value (.slice (if E.κ i = 0 then A else A.map (·.add 0)) q (E.κ i))) w := by
    intro A hv
    have hrun := run_boundsU (P := P) (n := n) w (cap := E.κ i) (lo := none) (l := 0) (u := (q : Int)) (ku := ku) (.inl ⟨rfl, rfl⟩) (Int.le_refl _) (by omega) (by omega)
    simp [execOp, hop, hv, Instr.sliceAt, run_underlying hu, Instr.slice, hku, hrun, run_sizeOf' w hsz]
  obtain ⟨e1, e2, e3, e4⟩ := E.setK_same i (E.ι i) (E.κ i) q
  have hB : BlkOk H (E.setK i (E.ι i) (E.κ i) q) w i (renB (keepOf [i]) (.trow ty' s2 q (some q) (upRow m zs c) op zs)) := by
    refine ⟨e1.trans hl, by rw [e3, e4]; exact ⟨rfl, by omega⟩, by rw [e3]; exact hκm, fun q' hq' => (by cases hq'; rw [e3]; exact hκq), ?_⟩
    rw [e2, e3]
    cases hι : E.ι i with
    | none => exact ⟨(hnone hι).1, by rw [(hnone hι).2]; rfl⟩
    | some b =>
      obtain ⟨hs1, vs, F, g1, g2⟩ := hsome b hι
      have hsp := g2.spare hzn
      have hvl := g2.size
      have hmκ : m * s2 ≤ E.κ i * s2 := Nat.mul_le_mul_right _ hη.2
      have hspv : ∀ (p : Nat) (v : Value), (vs.toList.drop (m * s2))[p]? = some v → v ∈ zs := by
        intro p v hv
        rw [hsp] at hv
        simp only [Builtin.zeroCells, Array.toList_map, List.getElem?_map, Array.toList_range] at hv
        obtain ⟨y, hy, rfl⟩ := Option.map_eq_some_iff.1 hv
        have hz0 : 0 < zs.toArray.size := by simp; omega
        have hlt := Nat.mod_lt y hz0
        rw [getElem!_pos zs.toArray _ hlt]
        exact List.getElem_mem (by simpa using hlt)
      refine ⟨fun h => hs1 h, vs, F, g1, ?_, g2.size, fun k j x hx => g2.own k j x hx, g2.sep, fun p hp => ?_, ?_, fun p hp => ?_, fun k hk hn j hj => ?_, fun _ => ?_⟩
      · intro y hy
        rw [← List.take_append_drop (m * s2) vs.toList, List.take_append] at hy
        rcases List.mem_append.1 hy with hy | hy
        · have hle : m * s2 ≤ q * s2 := Nat.mul_le_mul_right _ (by omega)
          rw [List.take_take, Nat.min_eq_right hle] at hy
          exact g2.one y hy
        · obtain ⟨p, hp⟩ := List.mem_iff_getElem?.1 (List.mem_of_mem_take hy)
          exact scalar_one (allSc_get hsc y (hspv p y hp))
      · obtain ⟨p0, hp0, rfl⟩ := List.mem_map.1 hp
        have := g2.lt p0 hp0
        show p0.1 < q
        omega
      · rw [List.map_map]; exact g2.once
      · obtain ⟨p0, hp0, rfl⟩ := List.mem_map.1 hp
        exact RelL.ren _ Env.setK_via (g2.known p0 hp0)
      · by_cases hkm : k < m
        · obtain ⟨x, q1, q2⟩ := g2.tr k hkm (fun p hp => hn (p.1, renL (keepOf [i]) p.2) (List.mem_map.2 ⟨p, hp, rfl⟩)) j hj
          exact ⟨x, q1, upC_lo hkm q2⟩
        · refine ⟨getZ zs j, ?_, upC_hi hkm⟩
          have hkk : k * s2 + j = m * s2 + ((k - m) * s2 + j) := by
            rw [← Nat.add_assoc, ← Nat.add_mul]; congr 2; omega
          have hlt : (k - m) * s2 + j < (E.κ i - m) * s2 := by
            have : (k - m + 1) * s2 ≤ (E.κ i - m) * s2 := Nat.mul_le_mul_right _ (by omega)
            rw [Nat.add_mul, Nat.one_mul] at this; omega
          rw [hkk, ← List.getElem?_drop, hsp]
          have hzz : zs.toArray.size = s2 := by simpa using hzl
          simp only [Builtin.zeroCells, Array.toList_map, List.getElem?_map, Array.toList_range, hzz]
          rw [List.getElem?_range hlt]
          have hmod : ((k - m) * s2 + j) % s2 = j := by
            rw [Nat.mul_comm, Nat.mul_add_mod]; exact Nat.mod_eq_of_lt hj
          simp only [Option.map_some, hmod]
          have hjl : j < zs.toArray.size := by omega
          rw [getElem!_pos zs.toArray _ hjl]
          have := getZ_ok zs j (by omega)
          rw [List.getElem?_eq_getElem (by omega)] at this
          simpa using this
      · rw [hκq, Nat.sub_self]
        have hq2 : q * s2 = E.κ i * s2 := by rw [hκq]
        rw [List.drop_eq_nil_of_le (by omega)]
        simp [Builtin.zeroCells]
  obtain ⟨hconc, hev⟩ := hC.moveK hl (grownBy_refl w _) (bo' := E.ι i) (κ' := E.κ i) (η' := q) (fun g hg => .inl hg) hB
  have hfin : Conc H (E.setK i (E.ι i) (E.κ i) q) w (applyW [(i, .trow ty' s2 q (some q) (upRow m zs c) (op.map fun p => (p.1, renL (keepOf [i]) p.2)) zs)] (killM [i] M)) := by
    refine hconc.eqv fun j => ?_
    simp only [applyW]
    rw [getM_kill]
    by_cases hj : i = j
    · subst hj; rw [getM_put_same, getM_put_same]; rfl
    · rw [getM_put_ne _ _ _ _ hj, getM_put_ne _ _ _ _ hj, getM_kill]
  cases hι : E.ι i with
  | none =>
    rw [hι] at hm2
    obtain ⟨_, rfl, hv⟩ := hm2
    have hκ0 := (hnone hι).1
    have := key none (by rw [hκ0]; exact hv)
    rw [hκ0] at this
    refine ⟨_, w, H, _, this, ⟨e1.trans hl, by rw [e3, e4]; omega, ?_⟩, hfin, hev⟩
    rw [e2, hι]
    refine ⟨rfl, by omega, ?_⟩
    have : q = 0 := by omega
    subst this
    rfl
  | some b =>
    rw [hι] at hm2
    obtain ⟨ad, hv, had⟩ := hm2
    have had0 := had.1 (.inl rfl)
    have := key ad (by simpa using hv)
    refine ⟨_, w, H, _, this, ⟨e1.trans hl, by rw [e3, e4]; omega, ?_⟩, hfin, hev⟩
    rw [e2, e3, hι]
    refine ⟨some ⟨b, 0, none⟩, ?_, ⟨fun _ => by simp, by simp⟩⟩
    rw [had0]
    split <;> simp [addr_add]
def trR (P : Program) (rd : Nat → Blk) (nid h : Nat) (o : Oper) (t : Nat → AV) : Option (T CE) :=
  match Nat.beq h 786 with
  | true => idxR P rd nid o t
  | false => (match Nat.beq h 787 with
    | true => (match mkR P nid o t with | some e => some e.toT | none => none)
    | false => (match Nat.ble 1000000 h with
      | true => (match nilR P nid h o t with | some e => some e.toT | none => none)
      | false => (match Nat.beq h 781 with
        | true => (match upR P rd o t with | some e => some e.toT | none => none)
        | false => (match o.op with
          | .call { callee := .builtin .append, .. } => (match appR P rd o t with | some e => some e.toT | none => none)
          | _ => none))))
theorem trR_ok {P : Program} {rd : Nat → Blk} {nid h : Nat} {o : Oper} {t : Nat → AV} {T0 : T CE} (hd : ∀ k, nid ≤ k → rd k = .dead) (hh : trR P rd nid h o t = some T0) : T0.Sat (CE.Good P o t rd) := by
  unfold trR at hh
  split at hh
  · exact idxR_ok hd hh
  · split at hh
    · split at hh
      case h_2 => cases hh
      rename_i e he
      cases hh
      exact CE.toT_ok fun ho => mkR_ok hd he ho
    · split at hh
      · split at hh
        case h_2 => cases hh
        rename_i e he
        cases hh
        exact CE.toT_ok fun _ => nilR_ok hd he
      · split at hh
        · split at hh
          case h_2 => cases hh
          rename_i e he
          cases hh
          exact CE.toT_ok fun ho => upR_ok he ho
        · split at hh
          · split at hh
            case h_2 => cases hh
            rename_i e he
            cases hh
            exact CE.toT_ok fun ho => appR_ok he ho
          · cases hh
end Go.Ax
