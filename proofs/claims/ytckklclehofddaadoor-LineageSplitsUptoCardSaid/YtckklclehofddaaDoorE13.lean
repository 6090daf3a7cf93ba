import Derived.ReadAgain
import Derived.SizedLaws
import Derived.ProofKit
import Derived.Below
import Derived.Test.YtckklclehofddaaDoorE12
set_option linter.unusedVariables false
set_option linter.unusedSimpArgs false
set_option linter.unusedSectionVars false
namespace Go.Ax
open Go Go.ChangeShapes Go.WideShapes Go.RowKit
variable [Inhabited Gl0]
set_option maxRecDepth 100000
inductive Sh where
  | int (k : IntKind)
  | bool
  | str
  | sl (e : Sh)
  | st (fs : List Sh)
mutual
def Sh.size : Sh → Nat
  | .st fs => Sh.sizeL fs
  | _ => 1
def Sh.sizeL : List Sh → Nat
  | [] => 0
  | s :: r => s.size + Sh.sizeL r
end
mutual
def Sh.ok (P : Program) : Sh → TypeId → Bool
  | .int k, t => match P.underlying t with | some (.int k') => decide (k' = k) | _ => false
  | .bool, t => match P.underlying t with | some .bool => true | _ => false
  | .str, t => match P.underlying t with | some .string => true | _ => false
  | .sl e, t => match P.underlying t with | some (.slice u) => Sh.ok P e u && Nat.beq (P.cellsOf u) e.size | _ => false
  | .st fs, t => match P.underlying t with | some (.struct l) => Sh.okL P fs l.toList 0 && Nat.beq (P.cellsOf t) (Sh.sizeL fs) | _ => false
def Sh.okL (P : Program) : List Sh → List Field → Nat → Bool
  | [], [], _ => true
  | s :: r, f :: fs, o => Nat.beq f.offset o && (Nat.beq (P.cellsOf f.type) s.size && (Sh.ok P s f.type && Sh.okL P r fs (o + s.size)))
  | _, _, _ => false
end
mutual
def Sh.enc {K : Type} : Sh → DataW K → List AV
  | .int k, d => match d with | .lit (.int _ n) => [.y (.int k n)] | _ => []
  | .bool, d => match d with | .lit (.bool b) => [.y (.bool b)] | _ => []
  | .str, d => match d with | .lit (.string l) => [.y (.string ⟨l.toArray⟩)] | _ => []
  | .sl e, d => match d with | .slice xs _ => [.ys true e.size xs.length (fun k j => get (Sh.enc e (xs.getD k .nil)) j)] | _ => [.ys true e.size 0 (fun _ _ => .junk)]
  | .st fs, d => match d with | .agg ds => Sh.encL fs ds | _ => []
def Sh.encL {K : Type} : List Sh → List (DataW K) → List AV
  | [], _ => []
  | s :: r, l => match l with | d :: ds => s.enc d ++ Sh.encL r ds | [] => []
end
mutual
def Sh.wf {K : Type} : Sh → DataW K → Prop
  | .int k, d => ∃ k' n, d = .lit (.int k' n) ∧ (Lit.int k n).wf = true
  | .bool, d => ∃ b, d = .lit (.bool b)
  | .str, d => ∃ l, d = .lit (.string l) ∧ l.length ≤ maxLen
  | .sl e, d => d = .nil ∨ ∃ xs r, d = .slice xs r ∧ ∀ x ∈ xs, Sh.wf e x
  | .st fs, d => ∃ ds, d = .agg ds ∧ Sh.wfL fs ds
def Sh.wfL {K : Type} : List Sh → List (DataW K) → Prop
  | [], l => l = []
  | s :: r, l => ∃ d ds, l = d :: ds ∧ Sh.wf s d ∧ Sh.wfL r ds
end
def Sh.okL' (P : Program) : List Sh → List TypeId → Bool
  | [], [] => true
  | s :: r, t :: ts => s.ok P t && Sh.okL' P r ts
  | _, _ => false
def Sh.relL' {K : Type} (w : World) : List Sh → List (DataW K) → List Value → Prop
  | s :: r, d :: ds, v :: vs => RelL (s.enc d) (fun _ => heapI w) E0 v.cells.toList ∧ Sh.relL' w r ds vs
  | [], [], [] => True
  | _, _, _ => False
theorem RelL.app : ∀ {a b : List AV} {H : HH} {E : Env} {xs ys : List Value}, RelL a H E xs → RelL b H E ys → RelL (a ++ b) H E (xs ++ ys)
  | [], _, _, _, _, _, h1, h2 => by
    simp only [RelL] at h1
    subst h1; exact h2
  | _ :: _, _, _, _, _, _, h1, h2 => by
    obtain ⟨v, r, rfl, h3, h4⟩ := h1
    exact ⟨v, _, rfl, h3, RelL.app h4 h2⟩
section
variable {K : Type} {enc : TypeId × Value → K} {P : Program} {w : World} {sp : Nat → Bool}
theorem cells_at? {a : Addr} {n : Nat} {cs : List Value} (h : w.cells? 0 a n = some cs) : cs.length = n ∧ ∀ j, j < n → w.cell? (a.add j) = cs[j]? := by
  unfold World.cells? at h
  rw [if_pos (Nat.zero_le _)] at h
  refine ⟨by simpa using mapM_some_length h, fun j hj => mapM_some_get h j j (by simp [hj])⟩
mutual
theorem lift_rel : ∀ (sh : Sh) {fuel : Nat} {t : TypeId} {cs : List Value} {x : DataW K × List MemPlace}, sh.ok P t = true → DataW.trod enc P w 0 sp true fuel t cs = some x →
    RelL (sh.enc x.1) (fun _ => heapI w) E0 cs ∧ (∀ v ∈ cs, v.oneCell' = true) ∧ sh.wf x.1
  | .int k, fuel, t, cs, x, hk, h => by
    unfold Sh.ok at hk
    split at hk
    · rename_i k' hu
      have := of_decide_eq_true hk
      subst this
      obtain ⟨n, rfl, rfl, hw⟩ := DataW.trod_int hu h
      exact ⟨⟨_, _, rfl, ⟨rfl, rfl⟩, rfl⟩, fun v hv => by simp at hv; subst hv; rfl, _, _, rfl, hw⟩
    · cases hk
  | .bool, fuel, t, cs, x, hk, h => by
    unfold Sh.ok at hk
    split at hk
    · rename_i hu
      obtain ⟨n, rfl, rfl⟩ := DataW.trod_bool hu h
      exact ⟨⟨_, _, rfl, ⟨rfl, rfl⟩, rfl⟩, fun v hv => by simp at hv; subst hv; rfl, _, rfl⟩
    · cases hk
  | .str, fuel, t, cs, x, hk, h => by
    unfold Sh.ok at hk
    split at hk
    · rename_i hu
      obtain ⟨s, rfl, rfl, hs⟩ := DataW.trod_string hu h
      exact ⟨⟨_, _, rfl, ⟨by simp, rfl⟩, rfl⟩, fun v hv => by simp at hv; subst hv; rfl, _, rfl, by simpa using hs⟩
    · cases hk
  | .sl e, fuel, t, cs, x, hk, h => by
    unfold Sh.ok at hk
    split at hk
    · rename_i u hu
      rw [Bool.and_eq_true, Nat.beq_eq] at hk
      rcases DataW.trod_slice hu h with ⟨rfl, rfl⟩ | ⟨a, len, cap, elems, rest, n, rfl, rfl, rfl, _, hlc, _, hlen, hel, _, _⟩
      · exact ⟨⟨_, _, rfl, ⟨none, 0, rfl, ⟨Nat.le_refl _, fun _ => rfl⟩, fun h => absurd h (Nat.lt_irrefl _)⟩, rfl⟩, fun v hv => by simp at hv; subst hv; rfl, Or.inl rfl⟩
      · refine ⟨⟨_, _, rfl, ⟨some a, cap, by simp [hlen], ⟨by simpa [hlen] using hlc, fun h => by cases h⟩, fun _ => ⟨a, rfl, fun k hk' j hj => ?_⟩⟩, rfl⟩, fun v hv => by simp at hv; subst hv; rfl, Or.inr ⟨_, _, rfl, fun y hy => ?_⟩⟩
        case refine_2 =>
          obtain ⟨z, hz, rfl⟩ := List.mem_map.1 hy
          obtain ⟨i, hi, rfl⟩ := List.mem_iff_getElem.1 hz
          have h1 := hel i (by omega)
          rw [List.getElem?_eq_getElem hi, Option.bind_eq_some_iff] at h1
          obtain ⟨cs', hc, ht⟩ := h1
          exact (lift_rel e hk.1 ht).2.2
        have hk2 : k < elems.length := by simpa using hk'
        have h1 := hel k (by omega)
        rw [List.getElem?_eq_getElem hk2, Option.bind_eq_some_iff] at h1
        obtain ⟨cs', hc, ht⟩ := h1
        obtain ⟨h2, h3, _⟩ := lift_rel e hk.1 ht
        obtain ⟨h4, h5⟩ := cells_at? hc
        have hj' : j < cs'.length := by rw [h4, hk.2]; exact hj
        have h6 := h5 j (by omega)
        rw [add_add', List.getElem?_eq_getElem hj', hk.2] at h6
        refine ⟨cs'[j], h6, h3 _ (List.getElem_mem hj'), ?_⟩
        have h7 := relL_get h2 _ _ (List.getElem?_eq_getElem hj')
        have h8 : (elems.map (·.1)).getD k .nil = elems[k].1 := by simp [hk2]
        show Rel (get (e.enc ((elems.map (·.1)).getD k .nil)) j) _ _ _
        rw [h8]; exact h7
    · cases hk
  | .st fs, fuel, t, cs, x, hk, h => by
    unfold Sh.ok at hk
    split at hk
    · rename_i l hu
      rw [Bool.and_eq_true, Nat.beq_eq] at hk
      obtain ⟨xs, n, rfl, rfl, hl, hxs, hf⟩ := DataW.trod_struct hu h
      have := lift_relL fs (cs := cs) (o := 0) (xs := xs) (n := n) hk.1 (by rw [hl, hk.2]; omega) (by simpa using hxs) (fun i f hif => hf i f (by simpa using hif))
      obtain ⟨h1, h2, h3⟩ := this
      exact ⟨by simpa [Sh.enc] using h1, by simpa using h2, _, rfl, h3⟩
    · cases hk
theorem lift_relL : ∀ (fs : List Sh) {l : List Field} {o n : Nat} {cs : List Value} {xs : List (DataW K × List MemPlace)}, Sh.okL P fs l o = true → cs.length = o + Sh.sizeL fs → xs.length = l.length →
    (∀ (i : Nat) (f : Field), l[i]? = some f → DataW.trod enc P w 0 sp true n f.type ((cs.drop f.offset).take (P.cellsOf f.type)) = xs[i]?) →
    RelL (Sh.encL fs (xs.map (·.1))) (fun _ => heapI w) E0 (cs.drop o) ∧ (∀ v ∈ cs.drop o, v.oneCell' = true) ∧ Sh.wfL fs (xs.map (·.1))
  | [], l, o, n, cs, xs, hk, hl, hx, hf => by
    have : cs.drop o = [] := List.drop_eq_nil_of_le (by simp [Sh.sizeL] at hl; omega)
    rw [this]
    refine ⟨rfl, fun v hv => (by cases hv), ?_⟩
    match l, hk with
    | [], _ => simpa [Sh.wfL] using hx
    | _ :: _, hk => simp [Sh.okL] at hk
  | s :: r, l, o, n, cs, xs, hk, hl, hx, hf => by
    match l, xs, hk, hx, hf with
    | [], _, hk, _, _ => simp [Sh.okL] at hk
    | f :: fs', x :: xs', hk, hx, hf =>
      simp only [Sh.okL, Bool.and_eq_true, Nat.beq_eq] at hk
      obtain ⟨h1, h2, h3, h4⟩ := hk
      have h5 := hf 0 f rfl
      rw [h1, h2] at h5
      obtain ⟨h6, h7, h10⟩ := lift_rel s h3 h5
      obtain ⟨h8, h9, h11⟩ := lift_relL r (l := fs') (o := o + s.size) (n := n) (cs := cs) (xs := xs') h4 (by simp [Sh.sizeL] at hl; omega) (by simpa using hx) (fun i g hg => hf (i + 1) g hg)
      have e : cs.drop o = (cs.drop o).take s.size ++ cs.drop (o + s.size) := by
        rw [← List.drop_drop, List.take_append_drop]
      rw [e]
      exact ⟨RelL.app h6 h8, fun v hv => by
        rcases List.mem_append.1 hv with hv | hv
        · exact h7 v hv
        · exact h9 v hv, _, _, rfl, h10, h11⟩
end
theorem lift_all : ∀ (shs : List Sh) {ts : List TypeId} {vs : List Value} {ds : List (DataW K)} {ps : List MemPlace}, Sh.okL' P shs ts = true → DataW.TrodAll enc P w 0 sp true ts vs ds ps →
    Sh.relL' w shs ds vs ∧ Sh.wfL shs ds
  | [], [], _, _, _, _, h => by
    obtain ⟨rfl, rfl, _⟩ := trodAll_nil h
    exact ⟨trivial, rfl⟩
  | [], _ :: _, _, _, _, hk, _ => by simp [Sh.okL'] at hk
  | _ :: _, [], _, _, _, hk, _ => by simp [Sh.okL'] at hk
  | s :: r, t :: ts, vs, ds, ps, hk, h => by
    simp only [Sh.okL', Bool.and_eq_true] at hk
    obtain ⟨v, vs', d, ds', p, q, rfl, rfl, rfl, ⟨n, h1⟩, h2⟩ := trodAll_cons h
    obtain ⟨h3, h4, h5⟩ := lift_rel s hk.1 h1
    obtain ⟨h6, h7⟩ := lift_all r hk.2 h2
    exact ⟨⟨h3, h6⟩, _, _, rfl, h5, h7⟩
theorem TrodAll_carry {w' : World} : ∀ {ts : List TypeId} {vs : List Value} {ds : List (DataW K)} {ps : List MemPlace}, DataW.TrodAll enc P w 0 sp true ts vs ds ps → (∀ p ∈ ps, w.sameAt w' p) → DataW.TrodAll enc P w' 0 sp true ts vs ds ps
  | [], [], [], _, h, _ => h
  | _ :: _, _ :: _, _ :: _, _, ⟨p, q, ⟨n, h1⟩, h2, e⟩, hs => ⟨p, q, ⟨n, DataW.trod_carry n _ _ _ h1 fun x hx => hs x (by rw [e]; exact List.mem_append_left _ hx)⟩, TrodAll_carry h2 (fun x hx => hs x (by rw [e]; exact List.mem_append_right _ hx)), e⟩
def slicesOk (P : Program) : Bool := (List.range P.types.size).all fun t => match P.underlying t with | some (.slice e) => decide (0 < P.cellsOf e) | _ => true
theorem slicesOk_pos (h : slicesOk P = true) : ∀ t e, t < P.types.size → P.underlying t = some (.slice e) → 0 < P.cellsOf e := by
  intro t e ht hu
  have := List.all_eq_true.1 h t (List.mem_range.2 ht)
  rw [hu] at this
  exact of_decide_eq_true this
theorem post_open {fn : Func} {s : ChangeSpec} {t : TypeId} {apart : Bool} {w' : World} {args : Array Value} {ds gs : List (DataW K)} {before : List MemPlace} {mv : List Nat} {H H' : HH} {E' : Env} (hr : fn.resultTypes.toList = [t])
    (ht : P.underlying t = some .bool) (hv : s.vars = []) (hs : s.fn K ds = { results := [.lit (.bool true)], args := ds }) (hl : laidOutB P = true) (hm : mapsRowed P = true) (hz : slicesOk P = true) (hts : ∀ t ∈ fn.params.toList, t < P.types.size)
    (hW : DataW.Whole enc P fn.params.toList s.vars apart w args.toList ds gs before) (hE : Evol mv H E0 w H' E' w') :
    s.post enc P fn apart true false false w args (.bool true) w' := by
  have hlt := hW.lt
  have hW' := hW
  obtain ⟨p, q, hA, hV, rfl, hfz, hnd⟩ := hW
  rw [hv] at hV
  obtain ⟨rfl, rfl⟩ := trodVars_none hV
  have hsz : fn.resultTypes.size = 1 := by rw [← Array.length_toList, hr]; rfl
  have e0 : s.fn K (ds ++ []) = { results := [.lit (.bool true)], args := ds } := by rw [List.append_nil]; exact hs
  refine ⟨ds, [], _, [], p, [], hW', ?_, ?_, ?_, evol_kept hE _, fun h => by cases h⟩
  · rw [e0, hr, hsz]
    exact trodAll_mk1 (shut_bool ht true)
  · rw [e0]
    refine TrodAll_carry (DataW.TrodAll.respare (kids_rows hl hm) (slicesOk_pos hz) hts hA fun x hx => ?_) fun x hx => ?_
    · have := hlt x (by simpa using hx)
      simpa using this
    · have hb := hlt x (by simpa using hx)
      have hk := hE.keep x.block hb fun j hj => E0_has hj
      cases x with
      | cell b off =>
        have hk' : w'.heap[b]? = w.heap[b]? := hk
        show w'.cell? ⟨b, off, none⟩ = w.cell? ⟨b, off, none⟩
        unfold World.cell?
        dsimp only
        rw [hk']
      | map b => exact hk
  · rw [e0, hv]; rfl
theorem open_calls {f : FuncId} {fn : Func} {s : ChangeSpec} {t : TypeId} {apart : Bool} {args : Array Value} {ds gs : List (DataW K)} {before : List MemPlace} {avs : List AV} {M : List Blk} {mv : List Nat} (h : ACall P f avs [] (.y (.bool true)) M mv) (hrel : RelL avs (fun _ => heapI w) E0 args.toList)
    (hr : fn.resultTypes.toList = [t]) (ht : P.underlying t = some .bool) (hv : s.vars = []) (hs : s.fn K ds = { results := [.lit (.bool true)], args := ds }) (hl : laidOutB P = true) (hm : mapsRowed P = true) (hz : slicesOk P = true) (hts : ∀ t ∈ fn.params.toList, t < P.types.size)
    (hW : DataW.Whole enc P fn.params.toList s.vars apart w args.toList ds gs before) (hg : GlOk w := by exact fun _ h => by cases h) :
    Calls P f args w fun e w' => ∃ v, e = .returned v ∧ s.post enc P fn apart true false false w args v w' := by
  refine (h (fun _ => heapI w) E0 w args (conc_nil (fun b o hb => hb) ⟨fun b o hb => hb, hg⟩) hrel).mono ?_
  rintro e w' ⟨v, H', E', rfl, hr', hC', hE'⟩
  obtain ⟨rfl, _⟩ := hr'
  exact ⟨_, rfl, post_open hr ht hv hs hl hm hz hts hW hE'⟩
end
def slAV {K : Type} (e : Sh) : DataW K → AV
  | .slice xs _ => .ys true e.size xs.length (fun k j => get (Sh.enc e (xs.getD k .nil)) j)
  | _ => .ys true e.size 0 (fun _ _ => .junk)
theorem slAV_eq {K : Type} (e : Sh) (d : DataW K) : (Sh.sl e).enc d = [slAV e d] := by cases d <;> rfl
def listOf {K α : Type} (to : DataW K → α) : DataW K → List α
  | .slice xs _ => xs.map to
  | _ => []
theorem conv_sl {K α : Type} [Inhabited α] {e : Sh} {encA : α → List AV} {to : DataW K → α} (hto : ∀ x, e.wf x → e.enc x = encA (to x)) {d : DataW K} (hd : (Sh.sl e).wf d) {H : HH} {E : Env} {v : Value} (h : Rel (slAV e d) H E v) :
    Rel (.ys true e.size (listOf to d).length (cellsOf' encA (listOf to d))) H E v := by
  rcases hd with rfl | ⟨xs, r, rfl, hx⟩
  · obtain ⟨a, cap, h1, h2, _⟩ := h
    exact ⟨a, cap, h1, h2, fun h => absurd h (Nat.lt_irrefl _)⟩
  · obtain ⟨a, cap, h1, h2, h3⟩ := h
    refine ⟨a, cap, by simpa [listOf] using h1, by simpa [listOf] using h2, fun h0 => ?_⟩
    obtain ⟨ad, h4, h5⟩ := h3 (by simpa [listOf] using h0)
    refine ⟨ad, h4, fun k hk j hj => ?_⟩
    have hk' : k < xs.length := by simpa [listOf] using hk
    obtain ⟨x, h6, h7, h8⟩ := h5 k hk' j hj
    refine ⟨x, h6, h7, ?_⟩
    have e1 : xs.getD k .nil = xs[k] := by simp [hk']
    have e2 : (listOf to (DataW.slice xs r)).getD k default = to xs[k] := by simp [listOf, hk']
    show Rel (get (encA ((listOf to (DataW.slice xs r)).getD k default)) j) _ _ _
    rw [e2, ← hto _ (hx _ (List.getElem_mem hk')), ← e1]
    exact h8
theorem weights_cons {K : Type} {P : Program} {t : TypeId} {ts : List TypeId} {d : DataW K} {ds : List (DataW K)} (h : (DataW.weightsEach P (t :: ts) (d :: ds)).all (· ≤ reachBytes) = true) : (d.weights P t).all (· ≤ reachBytes) = true ∧ (DataW.weightsEach P ts ds).all (· ≤ reachBytes) = true := by
  rw [DataW.weightsEach, List.all_append, Bool.and_eq_true] at h
  exact h
theorem weights_struct {K : Type} {P : Program} {t : TypeId} {fs : Array Field} {ds : List (DataW K)} (hu : P.underlying t = some (.struct fs)) (h : ((DataW.agg ds).weights P t).all (· ≤ reachBytes) = true) : (DataW.weightsEach P (fs.toList.map (·.type)) ds).all (· ≤ reachBytes) = true := by
  rw [DataW.weights, hu] at h
  exact h
theorem weights_slice {K α : Type} {P : Program} {t u : TypeId} (to : DataW K → α) {d : DataW K} (hu : P.underlying t = some (.slice u)) (h : (d.weights P t).all (· ≤ reachBytes) = true) : (listOf to d).length * P.bytesOf u ≤ 140737488351232 := by
  cases d
  case slice xs r =>
    rw [DataW.weights, hu] at h
    simp only [List.all_cons, Bool.and_eq_true, decide_eq_true_eq] at h
    have h1 := h.1
    rw [Nat.add_mul] at h1
    simp only [listOf, List.length_map]
    unfold reachBytes at h1
    omega
  all_goals simp [listOf]
theorem call_of {P : Program} {f : FuncId} {avs : List AV} (h : (T.ret (AV.y (.bool true), ([] : List Blk), ([] : List Nat))).Sat (ACall' P f avs [])) : ACall P f avs [] (.y (.bool true)) [] [] := by
  obtain ⟨a, ha, rfl⟩ := h (fun a => a = (AV.y (.bool true), [], [])) rfl
  exact ha
end Go.Ax

namespace Go.Ax
open Go Go.RowKit
variable [Inhabited Gl0]
theorem conc_below {H : HH} {E : Env} {w w' : World} {M : List Blk} (hC : Conc H E w M) (hb : Below w.heap.size w w') : Conc H E w' M ∧ Evol [] H E w H E w' := by
  refine ⟨⟨fun b o hx => (hb.block b (IH.lt_of hC.imm hx)).trans (hC.imm b o hx), hC.tf, fun i => ?_, hC.injH, hC.sepH, fun i b hl hx => Nat.lt_of_lt_of_le (hC.ltS i b hl hx) hb.size⟩, ⟨hb.os, hb.tape, hb.output, hb.size, fun c hc _ => hb.block c hc, fun j c hj => .inl ⟨j, hj⟩, HH.le_refl _, fun _ _ _ hx => .inl hx, fun _ hx _ => ⟨hx, rfl, rfl, rfl⟩⟩⟩
  have := (hC.blk i).move (f := some) (H' := H) (E' := E) (w' := w') (i' := i) (HH.le_refl _) (fun a c hc hl => by cases hc; exact ⟨hl, rfl, rfl, rfl⟩) rfl rfl rfl rfl (fun _ => Iff.rfl) fun b he => hb.block b (hC.ltH he)
  rwa [renB_some] at this
theorem call_below {P : Program} {f : FuncId} {args : List AV} {r : AV} (h : ∀ (w : World) (vals : Array Value), (∃ H E, RelL args H E vals.toList) → Calls P f vals w fun e w' => ∃ v, e = .returned v ∧ (∀ H E, Rel r H E v) ∧ Below w.heap.size w w') : (T.ret (r, [], []) : T An).Sat (ACall' P f args []) := by
  refine T.Sat.ret fun H E w vals hC hargs => ?_
  refine (h w vals ⟨H, E, hargs⟩).mono ?_
  rintro e w' ⟨v, he, hr, hb⟩
  obtain ⟨h1, h2⟩ := conc_below hC hb
  exact ⟨v, H, E, he, hr H E, h1, h2⟩
theorem conv_slR {K α : Type} [Inhabited α] {e : Sh} {encA : α → List AV} {to : DataW K → α} (hto : ∀ x, e.wf x → ∀ j, j < e.size → ∀ H E v, Rel (get (e.enc x) j) H E v → Rel (get (encA (to x)) j) H E v) {d : DataW K} (hd : (Sh.sl e).wf d) {H : HH} {E : Env} {v : Value} (h : Rel (slAV e d) H E v) :
    Rel (.ys true e.size (listOf to d).length (cellsOf' encA (listOf to d))) H E v := by
  rcases hd with rfl | ⟨xs, r, rfl, hx⟩
  · obtain ⟨a, cap, h1, h2, _⟩ := h
    exact ⟨a, cap, h1, h2, fun h => absurd h (Nat.lt_irrefl _)⟩
  · obtain ⟨a, cap, h1, h2, h3⟩ := h
    refine ⟨a, cap, by simpa [listOf] using h1, by simpa [listOf] using h2, fun h0 => ?_⟩
    obtain ⟨ad, h4, h5⟩ := h3 (by simpa [listOf] using h0)
    refine ⟨ad, h4, fun k hk j hj => ?_⟩
    have hk' : k < xs.length := by simpa [listOf] using hk
    obtain ⟨x, h6, h7, h8⟩ := h5 k hk' j hj
    refine ⟨x, h6, h7, ?_⟩
    have e1 : xs.getD k .nil = xs[k] := by simp [hk']
    have e2 : (listOf to (DataW.slice xs r)).getD k default = to xs[k] := by simp [listOf, hk']
    show Rel (get (encA ((listOf to (DataW.slice xs r)).getD k default)) j) _ _ _
    rw [e2]
    have h8 : Rel (get (e.enc (xs.getD k .nil)) j) (H.at true) E0 x := h8
    rw [e1] at h8
    exact hto _ (hx _ (List.getElem_mem hk')) j hj _ _ _ h8
end Go.Ax

namespace Go.Ax
open Go
variable [Inhabited Gl0]
end Go.Ax
