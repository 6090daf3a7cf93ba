import Derived.Test.YtghhkabankbkoaaAxS
import Derived.ProofKit
set_option linter.unusedVariables false
set_option linter.unusedSimpArgs false
/-! From what a call answers to the statement. -/
namespace Go.Ax
open Go Go.ChangeShapes Go.WideShapes Go.RowKit

theorem evol_kept {mv : List Nat} {H H' : HH} {E' : Env} {w w' : World} (h : Evol mv H E0 w H' E' w') (may : MemPlace → Prop) : w.keptBut w' may := by
  refine ⟨h.os, h.output, fun i hi => ?_⟩
  have := h.keep i hi fun j hj => by simp [E0] at hj
  rw [this]
  cases w.heap[i]? with
  | none => rfl
  | some o => cases o <;> first | exact ⟨rfl, rfl, rfl, fun _ _ => rfl⟩ | exact .inr ⟨rfl, rfl⟩ | rfl

/-- a law without arguments -/
theorem post_closed {K : Type} {enc : TypeId × Value → K} {P : Program} {fn : Func} {s : ChangeSpec} {t : TypeId} {apart : Bool} {w w' : World} {ds gs : List (DataW K)} {before : List MemPlace} {mv : List Nat} {H H' : HH} {E' : Env} (hp : fn.params.toList = []) (hr : fn.resultTypes.toList = [t])
    (ht : P.underlying t = some .bool) (hs : s.fn K [] = { results := [.lit (.bool true)], args := [] }) (hv : s.vars = []) (hW : DataW.Whole enc P fn.params.toList s.vars apart w (#[] : Array Value).toList ds gs before) (hE : Evol mv H E0 w H' E' w') :
    s.post enc P fn apart true false false w #[] (.bool true) w' := by
  have hW' := hW
  obtain ⟨p, q, hA, hV, rfl, hfz, hnd⟩ := hW
  rw [hp] at hA
  rw [hv] at hV
  obtain ⟨_, rfl, rfl⟩ := trodAll_nil hA
  obtain ⟨rfl, rfl⟩ := trodVars_none hV
  have hsz : fn.resultTypes.size = 1 := by rw [← Array.length_toList, hr]; rfl
  have e0 : s.fn K ([] ++ []) = { results := [.lit (.bool true)], args := [] } := hs
  refine ⟨[], [], _, [], [], [], hW', ?_, ?_, ?_, evol_kept hE _, fun h => by cases h⟩
  · rw [e0, hr, hsz]
    exact trodAll_mk1 (shut_bool ht true)
  · rw [e0, hp]; exact trodAll_mk0
  · rw [e0, hv]; rfl

theorem closed_calls {K : Type} {enc : TypeId × Value → K} {P : Program} {f : FuncId} {fn : Func} {s : ChangeSpec} {t : TypeId} {apart : Bool} {w : World} {args : Array Value} {ds gs : List (DataW K)} {before : List MemPlace} {M : List Blk} {mv : List Nat} (h : ACall P f [] [] (.s (.bool true)) M mv)
    (hp : fn.params.toList = []) (hr : fn.resultTypes.toList = [t]) (ht : P.underlying t = some .bool) (hs : s.fn K [] = { results := [.lit (.bool true)], args := [] }) (hv : s.vars = [])
    (hW : DataW.Whole enc P fn.params.toList s.vars apart w args.toList ds gs before) :
    Calls P f args w fun e w' => ∃ v, e = .returned v ∧ s.post enc P fn apart true false false w args v w' := by
  have hargs : args = #[] := by
    obtain ⟨p, q, hA, _⟩ := hW
    rw [hp] at hA
    obtain ⟨h0, _⟩ := trodAll_nil hA
    exact Array.ext' h0
  subst hargs
  refine (h (fun b => if b then fun _ => none else heapI w) E0 w #[] (conc_nil (fun b o hb => hb) fun b o hb => by cases hb) rfl).mono ?_
  rintro e w' ⟨v, H', E', rfl, hr', hC', hE'⟩
  obtain ⟨rfl, _⟩ := hr'
  exact ⟨_, rfl, post_closed hp hr ht hs hv hW hE'⟩

def isT : Option Ans → Bool
  | some (.s (.bool true), _, _, []) => true
  | _ => false
theorem closed_of {P : Program} (hm : P.follows .mixedOrders = true) {ht : Hints} (hct : ht.Ok P) (n : Nat) {f : FuncId} (h : isT (inl P (ecode P ht n) f [] []) = true) : ∃ M mv, ACall P f [] [] (.s (.bool true)) M mv := by
  unfold isT at h
  split at h
  · rename_i M mv he
    exact ⟨M, mv, inl_ok (ecode_ok hm hct n) he fun p hp => by cases hp⟩
  · cases h
end Go.Ax
