import Derived.Test.YtghhkabankbkoaaAxR
import Derived.Test.YtghhkabankbkoaaAxU
import Derived.Test.YtghhkabankbkoaaAxT
set_option linter.unusedVariables false
set_option linter.unusedSimpArgs false
/-! Trees of outcomes. -/
namespace Go.Ax
open Go

/-- what may come out, by the bools that decide, and what is owed on the way -/
inductive T (α : Type) where
  | ret (a : α)
  | ite (b : Bool) (y n : T α)
  | need (p : Prop) (k : T α)
  | both (a b : T α)
  | hyp (p : Prop) (k : T α)
  | all (f : Nat → T α)
  | fail

def T.post {α : Type} : T α → (α → Prop) → Prop
  | .ret a, Q => Q a
  | .ite b y n, Q => (b = true → y.post Q) ∧ (b = false → n.post Q)
  | .need p k, Q => p ∧ k.post Q
  | .both a b, Q => a.post Q ∧ b.post Q
  | .hyp p k, Q => p → k.post Q
  | .all f, Q => ∀ x, (f x).post Q
  | .fail, _ => False
def T.bind {α β : Type} : T α → (α → T β) → T β
  | .ret a, f => f a
  | .ite b y n, f => .ite b (y.bind f) (n.bind f)
  | .need p k, f => .need p (k.bind f)
  | .both a b, f => .both (a.bind f) (b.bind f)
  | .hyp p k, f => .hyp p (k.bind f)
  | .all g, f => .all fun x => (g x).bind f
  | .fail, _ => .fail
def T.map {α β : Type} (f : α → β) : T α → T β
  | .ret a => .ret (f a)
  | .ite b y n => .ite b (y.map f) (n.map f)
  | .need p k => .need p (k.map f)
  | .both a b => .both (a.map f) (b.map f)
  | .hyp p k => .hyp p (k.map f)
  | .all g => .all fun x => (g x).map f
  | .fail => .fail
/-- nothing in it is left open -/
def T.det {α : Type} : T α → Bool
  | .ret _ => true
  | .ite _ y n => y.det && n.det
  | .need _ k => k.det
  | .fail => true
  | _ => false
def T.needs {α : Type} : List Prop → T α → T α
  | [], t => t
  | p :: r, t => .need p (T.needs r t)
def T.ofOpt {α : Type} : Option α → T α
  | some a => .ret a
  | none => .fail

theorem T.post_mono {α : Type} {P Q : α → Prop} (h : ∀ a, P a → Q a) : ∀ {t : T α}, t.post P → t.post Q
  | .ret a, hp => h a hp
  | .ite _ _ _, hp => ⟨fun e => T.post_mono h (hp.1 e), fun e => T.post_mono h (hp.2 e)⟩
  | .need _ _, hp => ⟨hp.1, T.post_mono h hp.2⟩
  | .both _ _, hp => ⟨T.post_mono h hp.1, T.post_mono h hp.2⟩
  | .hyp _ _, hp => fun q => T.post_mono h (hp q)
  | .all _, hp => fun x => T.post_mono h (hp x)
  | .fail, hp => hp
theorem T.post_bind {α β : Type} {Q : β → Prop} {f : α → T β} : ∀ {t : T α}, (t.bind f).post Q → t.post fun a => (f a).post Q
  | .ret _, h => h
  | .ite _ _ _, h => ⟨fun e => T.post_bind (h.1 e), fun e => T.post_bind (h.2 e)⟩
  | .need _ _, h => ⟨h.1, T.post_bind h.2⟩
  | .both _ _, h => ⟨T.post_bind h.1, T.post_bind h.2⟩
  | .hyp _ _, h => fun q => T.post_bind (h q)
  | .all _, h => fun x => T.post_bind (h x)
  | .fail, h => h
theorem T.post_map {α β : Type} {Q : β → Prop} {f : α → β} : ∀ {t : T α}, (t.map f).post Q → t.post fun a => Q (f a)
  | .ret _, h => h
  | .ite _ _ _, h => ⟨fun e => T.post_map (h.1 e), fun e => T.post_map (h.2 e)⟩
  | .need _ _, h => ⟨h.1, T.post_map h.2⟩
  | .both _ _, h => ⟨T.post_map h.1, T.post_map h.2⟩
  | .hyp _ _, h => fun q => T.post_map (h q)
  | .all _, h => fun x => T.post_map (h x)
  | .fail, h => h
theorem T.det_map {α β : Type} {f : α → β} : ∀ {t : T α}, (t.map f).det = t.det
  | .ret _ => rfl
  | .ite _ y n => by simp only [T.map, T.det, T.det_map (t := y), T.det_map (t := n)]
  | .need _ k => by simp only [T.map, T.det, T.det_map (t := k)]
  | .both _ _ => rfl
  | .hyp _ _ => rfl
  | .all _ => rfl
  | .fail => rfl
theorem T.post_needs {α : Type} {Q : α → Prop} : ∀ {l : List Prop} {t : T α}, (T.needs l t).post Q → Hold l ∧ t.post Q
  | [], _, h => ⟨fun _ hp => (List.not_mem_nil hp).elim, h⟩
  | p :: r, t, h => by
    obtain ⟨h1, h2⟩ := T.post_needs (l := r) h.2
    refine ⟨fun q hq => ?_, h2⟩
    rcases List.mem_cons.1 hq with rfl | hq
    · exact h.1
    · exact h1 q hq
/-- the leaf that is come to -/
theorem T.post_ex {α : Type} {P Q : α → Prop} : ∀ {t : T α}, t.det = true → t.post P → t.post Q → ∃ a, P a ∧ Q a
  | .ret a, _, h, k => ⟨a, h, k⟩
  | .ite b y n, hd, h, k => by
    simp only [T.det, Bool.and_eq_true] at hd
    cases b with
    | true => exact T.post_ex hd.1 (h.1 rfl) (k.1 rfl)
    | false => exact T.post_ex hd.2 (h.2 rfl) (k.2 rfl)
  | .need _ t, hd, h, k => T.post_ex (t := t) hd h.2 k.2
  | .fail, _, h, _ => h.elim

/-- whatever is shown of the leaves holds of one that is right -/
def T.Sat {α : Type} (t : T α) (Ok : α → Prop) : Prop := ∀ Q, t.post Q → ∃ a, Ok a ∧ Q a
theorem T.Sat.mono {α : Type} {t : T α} {P Q : α → Prop} (h : t.Sat P) (k : ∀ a, P a → Q a) : t.Sat Q := fun R hr => by
  obtain ⟨a, h1, h2⟩ := h R hr
  exact ⟨a, k a h1, h2⟩
theorem T.Sat.ret {α : Type} {a : α} {P : α → Prop} (h : P a) : (T.ret a).Sat P := fun _ hq => ⟨a, h, hq⟩
theorem T.Sat.fail {α : Type} {P : α → Prop} : (T.fail : T α).Sat P := fun _ h => h.elim
theorem T.Sat.ite {α : Type} {b : Bool} {y n : T α} {P : α → Prop} (h : b = true → y.Sat P) (k : b = false → n.Sat P) : (T.ite b y n).Sat P := fun Q hq => by
  cases b with
  | true => exact h rfl Q (hq.1 rfl)
  | false => exact k rfl Q (hq.2 rfl)
theorem T.Sat.need {α : Type} {p : Prop} {t : T α} {P : α → Prop} (h : p → t.Sat P) : (T.need p t).Sat P := fun Q hq => h hq.1 Q hq.2
theorem T.Sat.left {α : Type} {a b : T α} {P : α → Prop} (h : a.Sat P) : (T.both a b).Sat P := fun Q hq => h Q hq.1
theorem T.Sat.right {α : Type} {a b : T α} {P : α → Prop} (h : b.Sat P) : (T.both a b).Sat P := fun Q hq => h Q hq.2
theorem T.Sat.hyp {α : Type} {p : Prop} {t : T α} {P : α → Prop} (hp : p) (h : t.Sat P) : (T.hyp p t).Sat P := fun Q hq => h Q (hq hp)
theorem T.Sat.all {α : Type} {f : Nat → T α} {P : α → Prop} (x : Nat) (h : (f x).Sat P) : (T.all f).Sat P := fun Q hq => h Q (hq x)
theorem T.Sat.needs {α : Type} {l : List Prop} {t : T α} {P : α → Prop} (h : Hold l → t.Sat P) : (T.needs l t).Sat P := fun Q hq => by
  obtain ⟨h1, h2⟩ := T.post_needs hq
  exact h h1 Q h2
theorem T.Sat.bind {α β : Type} {t : T α} {f : α → T β} {P : α → Prop} {R : β → Prop} (h : t.Sat P) (k : ∀ a, P a → (f a).Sat R) : (t.bind f).Sat R := fun Q hq => by
  obtain ⟨a, h1, h2⟩ := h _ (T.post_bind hq)
  exact k a h1 Q h2
theorem T.Sat.map {α β : Type} {t : T α} {f : α → β} {P : α → Prop} {R : β → Prop} (h : t.Sat P) (k : ∀ a, P a → R (f a)) : (t.map f).Sat R := fun Q hq => by
  obtain ⟨a, h1, h2⟩ := h _ (T.post_map hq)
  exact ⟨_, k a h1, h2⟩
theorem T.Sat.ofOpt {α : Type} {o : Option α} {P : α → Prop} (h : ∀ a, o = some a → P a) : (T.ofOpt o).Sat P := by
  cases o with
  | none => exact T.Sat.fail
  | some a => exact T.Sat.ret (h a rfl)
/-- what is shown by another tree -/
theorem T.Sat.of_post {α : Type} {t t' : T α} {le : α → α → Prop} {P : α → Prop} (hd : t'.det = true) (h : t.Sat P) (hle : ∀ a b, P a → le a b → P b) (hp : t.post fun a => t'.post fun b => le a b) : t'.Sat P := fun Q hq => by
  obtain ⟨a, h1, h2⟩ := h _ hp
  obtain ⟨b, h3, h4⟩ := T.post_ex hd h2 hq
  exact ⟨b, hle a b h1 h3, h4⟩

/-! What is reckoned is reckoned at once. -/
def fN {α : Type} (n : Nat) (k : Nat → α) : α := match n with | 0 => k 0 | m + 1 => k (m + 1)
theorem fN_eq {α : Type} (n : Nat) (k : Nat → α) : fN n k = k n := by cases n <;> rfl
def fV {α : Type} (v : Value) (k : Value → α) : α := match v with
  | .int d n => k (.int d n)
  | .bool b => k (.bool b)
  | .string b => k (.string b)
  | v => k v
theorem fV_eq {α : Type} (v : Value) (k : Value → α) : fV v k = k v := by cases v <;> rfl
def fFn {α : Type} (f : Fn) (k : Fn → α) : α := match f with
  | .func g => fN g fun g => k (.func g)
  | f => k f
theorem fFn_eq {α : Type} (f : Fn) (k : Fn → α) : fFn f k = k f := by cases f <;> simp [fFn, fN_eq]
mutual
def fA {α : Type} : AV → (AV → α) → α
  | .s v, k => fV v fun v => k (.s v)
  | .y v, k => fV v fun v => k (.y v)
  | .junk, k => k .junk
  | .ptr i a b c, k => fN i fun i => k (.ptr i a b c)
  | .own i a b c, k => fN i fun i => k (.own i a b c)
  | .sl b z n c, k => k (.sl b z n c)
  | .ys b z n c, k => k (.ys b z n c)
  | .yn b z n c, k => k (.yn b z n c)
  | .ip b m c, k => k (.ip b m c)
  | .agg cs, k => fL cs fun cs => k (.agg cs)
  | .tup cs, k => fL cs fun cs => k (.tup cs)
  | .fn f a b, k => fFn f fun f => fL a fun a => fL b fun b => k (.fn f a b)
  | .ifc t a, k => fN t fun t => fA a fun a => k (.ifc t a)
def fL {α : Type} : List AV → (List AV → α) → α
  | [], k => k []
  | a :: r, k => fA a fun a => fL r fun r => k (a :: r)
end
mutual
theorem fA_eq {α : Type} : ∀ (a : AV) (k : AV → α), fA a k = k a
  | .s _, _ => by simp only [fA, fV_eq]
  | .y _, _ => by simp only [fA, fV_eq]
  | .junk, _ => rfl
  | .ptr .., _ => by simp only [fA, fN_eq]
  | .own .., _ => by simp only [fA, fN_eq]
  | .sl .., _ => rfl
  | .ys .., _ => rfl
  | .yn .., _ => rfl
  | .ip .., _ => rfl
  | .agg cs, _ => by simp only [fA, fL_eq cs]
  | .tup cs, _ => by simp only [fA, fL_eq cs]
  | .fn f a b, _ => by simp only [fA, fFn_eq, fL_eq a, fL_eq b]
  | .ifc t a, _ => by simp only [fA, fN_eq, fA_eq a]
theorem fL_eq {α : Type} : ∀ (l : List AV) (k : List AV → α), fL l k = k l
  | [], _ => rfl
  | a :: r, _ => by simp only [fL, fA_eq a, fL_eq r]
end
def fSp {α β : Type} : List β → (List β → α) → α
  | [], k => k []
  | a :: r, k => fSp r fun r => k (a :: r)
theorem fSp_eq {α β : Type} : ∀ (l : List β) (k : List β → α), fSp l k = k l
  | [], _ => rfl
  | a :: r, _ => by simp only [fSp, fSp_eq r]
def fB {α : Type} : Blk → (Blk → α) → α
  | .box t cs, k => fL cs fun cs => k (.box t cs)
  | .lst t z n c cs, k => fSp cs fun cs => k (.lst t z n c cs)
  | .row t z n c d, k => k (.row t z n c d)
  | .dead, k => k .dead
theorem fB_eq {α : Type} (B : Blk) (k : Blk → α) : fB B k = k B := by cases B <;> simp only [fB, fL_eq, fSp_eq]
def fW {α : Type} : List (Nat × Blk) → (List (Nat × Blk) → α) → α
  | [], k => k []
  | (i, B) :: r, k => fN i fun i => fB B fun B => fW r fun r => k ((i, B) :: r)
theorem fW_eq {α : Type} : ∀ (l : List (Nat × Blk)) (k : List (Nat × Blk) → α), fW l k = k l
  | [], _ => rfl
  | (i, B) :: r, _ => by simp only [fW, fN_eq, fB_eq, fW_eq r]
def fNs {α : Type} : List Nat → (List Nat → α) → α
  | [], k => k []
  | a :: r, k => fN a fun a => fNs r fun r => k (a :: r)
theorem fNs_eq {α : Type} : ∀ (l : List Nat) (k : List Nat → α), fNs l k = k l
  | [], _ => rfl
  | a :: r, _ => by simp only [fNs, fN_eq, fNs_eq r]
def fE {α : Type} (e : CE) (k : CE → α) : α := fA e.r fun r => fNs e.rd fun rd => fW e.wr fun wr => fNs e.kl fun kl => k ⟨r, rd, wr, kl, e.ob⟩
theorem fE_eq {α : Type} (e : CE) (k : CE → α) : fE e k = k e := by simp only [fE, fA_eq, fNs_eq, fW_eq]
def fM {α : Type} : List Blk → (List Blk → α) → α
  | [], k => k []
  | B :: r, k => fB B fun B => fM r fun r => k (B :: r)
theorem fM_eq {α : Type} : ∀ (l : List Blk) (k : List Blk → α), fM l k = k l
  | [], _ => rfl
  | B :: r, _ => by simp only [fM, fB_eq, fM_eq r]
def fS {α : Type} (s : St) (k : St → α) : α := fSp s.t fun t => fSp s.m fun m => fNs s.mv fun mv => k ⟨t, m, mv⟩
theorem fS_eq {α : Type} (s : St) (k : St → α) : fS s k = k s := by simp only [fS, fSp_eq, fNs_eq]

/-! Symbolic values by the operations of known ones. -/
def svL : List AV → List AV
  | [] => []
  | .y v :: r => .s v :: svL r
  | a :: r => a :: svL r
def sv : AV → AV
  | .y v => .s v
  | .ys b sz n c => .sl b sz n c
  | .yn b sz n c => .sl b sz n c
  | .agg cs => .agg (svL cs)
  | a => a
def anyY : List AV → Bool
  | [] => false
  | .y _ :: _ => true
  | _ :: r => anyY r
def isRow : Blk → Bool
  | .row .. => true
  | _ => false
/-- is something symbolic in it? -/
def isY (rd : Nat → Blk) : AV → Bool
  | .y _ => true
  | .ys .. => true
  | .yn .. => true
  | .agg cs => anyY cs
  | .own i _ _ _ => isRow (rd i)
  | .ptr i _ _ _ => isRow (rd i)
  | _ => false
def anyOp (rd : Nat → Blk) (t : Nat → AV) : List Operand → Bool
  | [] => false
  | x :: r => isY rd (ev t x) || anyOp rd t r
def retag : AV → AV
  | .s v => .y v
  | .sl b sz n c => .ys b sz n c
  | a => a
theorem relL_sv : ∀ {l : List AV} {H : HH} {E : Env} {vs : List Value}, RelL l H E vs → RelL (svL l) H E vs
  | [], _, _, _, h => h
  | a :: r, _, _, _, h => by
    obtain ⟨v, q, rfl, h1, h2⟩ := h
    cases a <;> exact ⟨v, q, rfl, h1, relL_sv h2⟩
theorem rel_sv {a : AV} {H : HH} {E : Env} {v : Value} (h : Rel a H E v) : Rel (sv a) H E v := by
  cases a with
  | agg cs => obtain ⟨vs, rfl, h⟩ := h; exact ⟨vs, rfl, relL_sv h⟩
  | yn b sz n c => obtain ⟨ad, cap, hu, hn, hk⟩ := h; exact ⟨some ad, cap, hu, ⟨hn, fun h => by cases h⟩, fun _ => ⟨ad, rfl, hk⟩⟩
  | _ => exact h
theorem rel_retag {a : AV} {H : HH} {E : Env} {v : Value} (h : Rel a H E v) : Rel (retag a) H E v := by
  cases a <;> exact h
theorem relT_sv {t : Nat → AV} {H : HH} {E : Env} {a : Act} (h : RelT t H E a) : RelT (fun i => sv (t i)) H E a := fun i => rel_sv (h i)

/-- does the operation reckon with its operands' values? -/
def reckons : Op → Bool
  | .binOp .. | .unOp .. | .convert .. | .slice .. | .indexAddr .. | .index .. | .makeSlice .. => true
  | .load .. | .store .. => true
  | .call { callee := .builtin _, .. } => true
  | _ => false

def yGo (P : Program) (rd : Nat → Blk) (nid : Nat) (o : Oper) (h : Option Hint) (u : Nat → AV) (tag : Bool) : Option CE :=
  match aop P h rd nid u o.op with
  | some e => some ⟨(match tag with | true => retag e.r | false => e.r), opRd u o.op ++ ids e.wr, killW e.kl e.wr, e.kl, e.ob.map (· = true)⟩
  | none => none
def yop (P : Program) (rd : Nat → Blk) (nid : Nat) (o : Oper) (t : Nat → AV) : Option CE :=
  match o.op with
  | .load _ a => (match isY rd (ev t a) with | true => yGo P rd nid o (some .ok) t false | false => yGo P rd nid o none t false)
  | .store _ a _ => (match isY rd (ev t a) with | true => yGo P rd nid o (some .ok) t false | false => yGo P rd nid o none t false)
  | op => (match reckons op && anyOp rd t op.operands.toList with
    | true => yGo P rd nid o (some .ok) (fun i => sv (t i)) true
    | false => yGo P rd nid o none t false)
theorem stepT_sv {P : Program} {o : Oper} {t : Nat → AV} {M : List Blk} {e : CE} (h : StepT P o (fun i => sv (t i)) M e) : StepT P o t M e :=
  fun H E w a K Q hC hT hd hk => h H E w a K Q hC (relT_sv hT) hd hk
theorem stepT_retag {P : Program} {o : Oper} {t : Nat → AV} {M : List Blk} {r : AV} {rd : List Nat} {wr : List (Nat × Blk)} {kl : List Nat} {ob : List Prop} (h : StepT P o t M ⟨r, rd, wr, kl, ob⟩) : StepT P o t M ⟨retag r, rd, wr, kl, ob⟩ :=
  fun H E w a K Q hC hT hd hk => h H E w a K Q hC hT hd fun v w' H' E' hr hc he => hk v w' H' E' (rel_retag hr) hc he
theorem yGo_ok {P : Program} {rd : Nat → Blk} {nid : Nat} {o : Oper} {hh : Option Hint} {u : Nat → AV} {tag : Bool} {e : CE} (h : yGo P rd nid o hh u tag = some e) (ho : Hold e.ob) (hd : ∀ k, nid ≤ k → rd k = .dead) {M : List Blk} (hM : ∀ i ∈ e.rd, getM M i = rd i) : StepT P o u M e := by
  unfold yGo at h
  split at h
  case h_2 => cases h
  rename_i ef hef
  cases h
  have hs := aop_step hef ho hd hM
  cases tag with
  | true => exact stepT_retag hs
  | false => exact hs
theorem yop_ok {P : Program} {rd : Nat → Blk} {nid : Nat} {o : Oper} {t : Nat → AV} {e : CE} (h : yop P rd nid o t = some e) (ho : Hold e.ob) (hd : ∀ k, nid ≤ k → rd k = .dead) {M : List Blk} (hM : ∀ i ∈ e.rd, getM M i = rd i) : StepT P o t M e := by
  unfold yop at h
  split at h
  · split at h <;> exact yGo_ok h ho hd hM
  · split at h <;> exact yGo_ok h ho hd hM
  · split at h
    · exact stepT_sv (yGo_ok h ho hd hM)
    · exact yGo_ok h ho hd hM
end Go.Ax
