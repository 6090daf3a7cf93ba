import Derived.ReadAgain
import Derived.SizedLaws
import Derived.ProofKit
import Derived.Below
import Derived.Test.YtfiohpojlgkmkaaGreatDoorE11
set_option linter.unusedVariables false
set_option linter.unusedSimpArgs false
set_option linter.unusedSectionVars false
namespace Go.Ax
open Go Go.ChangeShapes Go.WideShapes Go.RowKit
variable [Inhabited Gl0]
set_option maxRecDepth 100000
inductive Sh where
  | int (k : IntKind)
  | bool
  | str
  | sl (e : Sh)
  | st (fs : List Sh)
mutual
def Sh.size : Sh → Nat
  | .st fs => Sh.sizeL fs
  | _ => 1
def Sh.sizeL : List Sh → Nat
  | [] => 0
  | s :: r => s.size + Sh.sizeL r
end
mutual
def Sh.ok (P : Program) : Sh → TypeId → Bool
  | .int k, t => match P.underlying t with | some (.int k') => decide (k' = k) | _ => false
  | .bool, t => match P.underlying t with | some .bool => true | _ => false
  | .str, t => match P.underlying t with | some .string => true | _ => false
  | .sl e, t => match P.underlying t with | some (.slice u) => Sh.ok P e u && Nat.beq (P.cellsOf u) e.size | _ => false
  | .st fs, t => match P.underlying t with | some (.struct l) => Sh.okL P fs l.toList 0 && Nat.beq (P.cellsOf t) (Sh.sizeL fs) | _ => false
def Sh.okL (P : Program) : List Sh → List Field → Nat → Bool
  | [], [], _ => true
  | s :: r, f :: fs, o => Nat.beq f.offset o && (Nat.beq (P.cellsOf f.type) s.size && (Sh.ok P s f.type && Sh.okL P r fs (o + s.size)))
  | _, _, _ => false
end
mutual
def Sh.enc {K : Type} : Sh → DataW K → List AV
  | .int k, d => match d with | .lit (.int _ n) => [.y (.int k n)] | _ => []
  | .bool, d => match d with | .lit (.bool b) => [.y (.bool b)] | _ => []
  | .str, d => match d with | .lit (.string l) => [.y (.string ⟨l.toArray⟩)] | _ => []
  | .sl e, d => match d with | .slice xs _ => [.ys true e.size xs.length (fun k j => get (Sh.enc e (xs.getD k .nil)) j)] | _ => [.ys true e.size 0 (fun _ _ => .junk)]
  | .st fs, d => match d with | .agg ds => Sh.encL fs ds | _ => []
def Sh.encL {K : Type} : List Sh → List (DataW K) → List AV
  | [], _ => []
  | s :: r, l => match l with | d :: ds => s.enc d ++ Sh.encL r ds | [] => []
end
theorem RelL.app : ∀ {a b : List AV} {H : HH} {E : Env} {xs ys : List Value}, RelL a H E xs → RelL b H E ys → RelL (a ++ b) H E (xs ++ ys)
  | [], _, _, _, _, _, h1, h2 => by
    simp only [RelL] at h1
    subst h1; exact h2
  | _ :: _, _, _, _, _, _, h1, h2 => by
    obtain ⟨v, r, rfl, h3, h4⟩ := h1
    exact ⟨v, _, rfl, h3, RelL.app h4 h2⟩
section
variable {K : Type} {enc : TypeId × Value → K} {P : Program} {w : World} {sp : Nat → Bool}
theorem TrodAll_carry {w' : World} : ∀ {ts : List TypeId} {vs : List Value} {ds : List (DataW K)} {ps : List MemPlace}, DataW.TrodAll enc P w 0 sp true ts vs ds ps → (∀ p ∈ ps, w.sameAt w' p) → DataW.TrodAll enc P w' 0 sp true ts vs ds ps
  | [], [], [], _, h, _ => h
  | _ :: _, _ :: _, _ :: _, _, ⟨p, q, ⟨n, h1⟩, h2, e⟩, hs => ⟨p, q, ⟨n, DataW.trod_carry n _ _ _ h1 fun x hx => hs x (by rw [e]; exact List.mem_append_left _ hx)⟩, TrodAll_carry h2 (fun x hx => hs x (by rw [e]; exact List.mem_append_right _ hx)), e⟩
def slicesOk (P : Program) : Bool := (List.range P.types.size).all fun t => match P.underlying t with | some (.slice e) => decide (0 < P.cellsOf e) | _ => true
theorem slicesOk_pos (h : slicesOk P = true) : ∀ t e, t < P.types.size → P.underlying t = some (.slice e) → 0 < P.cellsOf e := by
  intro t e ht hu
  have := List.all_eq_true.1 h t (List.mem_range.2 ht)
  rw [hu] at this
  exact of_decide_eq_true this
theorem post_open {fn : Func} {s : ChangeSpec} {t : TypeId} {apart : Bool} {w' : World} {args : Array Value} {ds gs : List (DataW K)} {before : List MemPlace} {mv : List Nat} {H H' : HH} {E' : Env} (hr : fn.resultTypes.toList = [t])
    (ht : P.underlying t = some .bool) (hv : s.vars = []) (hs : s.fn K ds = { results := [.lit (.bool true)], args := ds }) (hl : laidOutB P = true) (hm : mapsRowed P = true) (hz : slicesOk P = true) (hts : ∀ t ∈ fn.params.toList, t < P.types.size)
    (hW : DataW.Whole enc P fn.params.toList s.vars apart w args.toList ds gs before) (hE : Evol mv H E0 w H' E' w') :
    s.post enc P fn apart true false false w args (.bool true) w' := by
  have hlt := hW.lt
  have hW' := hW
  obtain ⟨p, q, hA, hV, rfl, hfz, hnd⟩ := hW
  rw [hv] at hV
  obtain ⟨rfl, rfl⟩ := trodVars_none hV
  have hsz : fn.resultTypes.size = 1 := by rw [← Array.length_toList, hr]; rfl
  have e0 : s.fn K (ds ++ []) = { results := [.lit (.bool true)], args := ds } := by rw [List.append_nil]; exact hs
  refine ⟨ds, [], _, [], p, [], hW', ?_, ?_, ?_, evol_kept hE _, fun h => by cases h⟩
  · rw [e0, hr, hsz]
    exact trodAll_mk1 (shut_bool ht true)
  · rw [e0]
    refine TrodAll_carry (DataW.TrodAll.respare (kids_rows hl hm) (slicesOk_pos hz) hts hA fun x hx => ?_) fun x hx => ?_
    · have := hlt x (by simpa using hx)
      simpa using this
    · have hb := hlt x (by simpa using hx)
      have hk := hE.keep x.block hb fun j hj => E0_has hj
      cases x with
      | cell b off =>
        have hk' : w'.heap[b]? = w.heap[b]? := hk
        show w'.cell? ⟨b, off, none⟩ = w.cell? ⟨b, off, none⟩
        unfold World.cell?
        dsimp only
        rw [hk']
      | map b => exact hk
  · rw [e0, hv]; rfl
theorem open_calls {f : FuncId} {fn : Func} {s : ChangeSpec} {t : TypeId} {apart : Bool} {args : Array Value} {ds gs : List (DataW K)} {before : List MemPlace} {avs : List AV} {M : List Blk} {mv : List Nat} (h : ACall P f avs [] (.y (.bool true)) M mv) (hrel : RelL avs (fun _ => heapI w) E0 args.toList)
    (hr : fn.resultTypes.toList = [t]) (ht : P.underlying t = some .bool) (hv : s.vars = []) (hs : s.fn K ds = { results := [.lit (.bool true)], args := ds }) (hl : laidOutB P = true) (hm : mapsRowed P = true) (hz : slicesOk P = true) (hts : ∀ t ∈ fn.params.toList, t < P.types.size)
    (hW : DataW.Whole enc P fn.params.toList s.vars apart w args.toList ds gs before) (hg : GlOk w := by exact fun _ h => by cases h) :
    Calls P f args w fun e w' => ∃ v, e = .returned v ∧ s.post enc P fn apart true false false w args v w' := by
  refine (h (fun _ => heapI w) E0 w args (conc_nil (fun b o hb => hb) ⟨fun b o hb => hb, hg⟩) hrel).mono ?_
  rintro e w' ⟨v, H', E', rfl, hr', hC', hE'⟩
  obtain ⟨rfl, _⟩ := hr'
  exact ⟨_, rfl, post_open hr ht hv hs hl hm hz hts hW hE'⟩
end
theorem call_of {P : Program} {f : FuncId} {avs : List AV} (h : (T.ret (AV.y (.bool true), ([] : List Blk), ([] : List Nat))).Sat (ACall' P f avs [])) : ACall P f avs [] (.y (.bool true)) [] [] := by
  obtain ⟨a, ha, rfl⟩ := h (fun a => a = (AV.y (.bool true), [], [])) rfl
  exact ha
end Go.Ax

namespace Go.Ax
open Go Go.RowKit
variable [Inhabited Gl0]
theorem conc_below {H : HH} {E : Env} {w w' : World} {M : List Blk} (hC : Conc H E w M) (hb : Below w.heap.size w w') : Conc H E w' M ∧ Evol [] H E w H E w' := by
  refine ⟨⟨fun b o hx => (hb.block b (IH.lt_of hC.imm hx)).trans (hC.imm b o hx), hC.tf, fun i => ?_, hC.injH, hC.sepH, fun i b hl hx => Nat.lt_of_lt_of_le (hC.ltS i b hl hx) hb.size⟩, ⟨hb.os, hb.tape, hb.output, hb.size, fun c hc _ => hb.block c hc, fun j c hj => .inl ⟨j, hj⟩, HH.le_refl _, fun _ _ _ hx => .inl hx, fun _ hx _ => ⟨hx, rfl, rfl, rfl⟩⟩⟩
  have := (hC.blk i).move (f := some) (H' := H) (E' := E) (w' := w') (i' := i) (HH.le_refl _) (fun a c hc hl => by cases hc; exact ⟨hl, rfl, rfl, rfl⟩) rfl rfl rfl rfl (fun _ => Iff.rfl) fun b he => hb.block b (hC.ltH he)
  rwa [renB_some] at this
theorem call_below {P : Program} {f : FuncId} {args : List AV} {r : AV} (h : ∀ (w : World) (vals : Array Value), (∃ H E, RelL args H E vals.toList) → Calls P f vals w fun e w' => ∃ v, e = .returned v ∧ (∀ H E, Rel r H E v) ∧ Below w.heap.size w w') : (T.ret (r, [], []) : T An).Sat (ACall' P f args []) := by
  refine T.Sat.ret fun H E w vals hC hargs => ?_
  refine (h w vals ⟨H, E, hargs⟩).mono ?_
  rintro e w' ⟨v, he, hr, hb⟩
  obtain ⟨h1, h2⟩ := conc_below hC hb
  exact ⟨v, H, E, he, hr H E, h1, h2⟩
end Go.Ax

namespace Go.Ax
open Go
variable [Inhabited Gl0]
end Go.Ax

namespace Go.Ax
open Go
variable [Inhabited Gl0]
theorem Conc.congr {H : HH} {E : Env} {w : World} {M M' : List Blk} (h : Conc H E w M) (hg : ∀ j, getM M' j = getM M j) : Conc H E w M' :=
  ⟨h.imm, h.tf, fun j => by rw [hg]; exact h.blk j, h.injH, h.sepH, h.ltS⟩
def frzNew (P : Program) (rd : Nat → Blk) (nid : Nat) (o : Oper) (t : Nat → AV) : Option CE := match yop P rd nid o t with
  | some e => (match e.wr, e.kl with
    | [(i, B)], [] => (match frzE (fun j => match Nat.beq j i with | true => B | false => .dead) e.r with
      | some f => (match f.rd, f.wr, f.kl with
        | [i1], [(i2, .dead)], [i3] => (match Nat.beq i1 i && Nat.beq i2 i && Nat.beq i3 i with
          | true => some ⟨f.r, e.rd, [(i, .dead)], [i], e.ob ++ f.ob⟩
          | false => none)
        | _, _, _ => none)
      | none => none)
    | _, _ => none)
  | none => none
theorem frzNew_ok {P : Program} {rd : Nat → Blk} {nid : Nat} {o : Oper} {t : Nat → AV} {e : CE} (hd : ∀ k, nid ≤ k → rd k = .dead) (h : frzNew P rd nid o t = some e) (ho : Hold e.ob) : CE.Good P o t rd e := by
  unfold frzNew at h
  split at h
  case h_2 => cases h
  rename_i g hg
  split at h
  case h_2 => cases h
  rename_i i B hw hk
  split at h
  case h_2 => cases h
  rename_i f hf
  split at h
  case h_2 => cases h
  rename_i i1 i2 i3 f1 f2 f3
  split at h
  case h_2 => cases h
  rename_i hi
  simp only [Bool.and_eq_true, Nat.beq_eq] at hi
  obtain ⟨⟨rfl, rfl⟩, rfl⟩ := hi
  cases h
  obtain ⟨o1, o2⟩ := ho.append
  intro M hM H E w a K Q hC hT hdf hkk
  have hs := yop_ok hg o1 hd (M := M) hM
  refine hs H E w a K Q hC hT hdf fun v w' H' E' hr hc hev => ?_
  rw [hw, hk] at hc
  rw [hk] at hev
  have hc : Conc H' E' w' (putM M _ B) := hc
  obtain ⟨H2, E2, q1, q2, q3⟩ := frzV hf o2 (M := putM M _ B) (fun j hj => by
    rw [f1] at hj
    obtain rfl := List.mem_singleton.1 hj
    rw [getM_put_same, Nat.beq_refl]) hc hr
  rw [f2, f3] at q2
  rw [f3] at q3
  refine hkk v w' H2 E2 q1 (q2.congr fun j => ?_) (hev.trans q3 fun _ h => by cases h)
  show getM (putM (killM [i3] M) i3 .dead) j = getM (putM (killM [i3] (putM M i3 B)) i3 .dead) j
  by_cases hj : i3 = j
  · subst hj
    rw [getM_put_same, getM_put_same]
  · rw [getM_put_ne _ _ _ _ hj, getM_put_ne _ _ _ _ hj, getM_kill, getM_kill, getM_put_ne _ _ _ _ hj]
def spF (P : Program) (sh : Nat → Nat) (fz : Nat → Bool) : SP := fun nid p o t rd => match fz p with
  | false => spX P sh nid p o t rd
  | true => (match frzNew P rd nid o t with | some e => some e.toT | none => none)
theorem spF_ok (P : Program) (sh : Nat → Nat) (fz : Nat → Bool) : SpOk P (spF P sh fz) := by
  intro nid p o t rd T h hd
  unfold spF at h
  split at h
  · exact spX_ok P sh nid p o t rd T h hd
  · split at h
    · rename_i e he
      cases h
      exact CE.toT_ok fun ho => frzNew_ok hd he ho
    · cases h
def fz1 (f r p : Nat) (els : FuncId → Nat → Nat → Bool) : FuncId → Nat → Nat → Bool := fun f' r' p' => match Nat.beq f f' && Nat.beq r r' && Nat.beq p p' with | true => true | false => els f' r' p'
def noFz : FuncId → Nat → Nat → Bool := fun _ _ _ => false
def withF {P : Program} (h : HintsT P) (sh : FuncId → Nat → Nat → Nat) (fz : FuncId → Nat → Nat → Bool) : HintsT P := { h with sp := fun f r => spF P (sh f r) (fz f r), spOk := fun _ _ => spF_ok P _ _ }
end Go.Ax
