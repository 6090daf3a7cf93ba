import Derived.Test.YtnbhdjadlbhknaaGreatDoorW3
import Derived.Test.YtnbhdjadlbhknaaGreatDoorW5
import Derived.Test.YtnbhdjadlbhknaaGreatDoorW6
set_option linter.unusedVariables false
set_option linter.unusedSimpArgs false
set_option linter.unusedSectionVars false
namespace Go.Proofs.YtnbhdjadlbhknaaGreatDoor.J
open Go.Ax
set_option maxRecDepth 1000000
theorem many_fwd {α : Type} {l : List Int} {f : RS → α × RS} {enc : α → List Int} {ok : α → Prop} (hf : Cdc l f enc ok) : ∀ (xs : List α) (s : RS) (a : List α) (r : List Int), ROk l s → s.e = 0 → (∀ x ∈ xs, ok x) → l.drop s.at_ = xs.flatMap enc ++ r → manyS f xs.length s a = (a ++ xs, ⟨s.at_ + (xs.flatMap enc).length, 0, s.bad⟩)
  | [], s, a, r, h, he, ho, hd => by
    simp [manyS]
    exact rs_eq rfl he rfl
  | x :: xs, s, a, r, h, he, ho, hd => by
    rw [List.flatMap_cons, List.append_assoc] at hd
    have h1 := hf.fwd s x _ h he (ho x (by simp)) hd
    have h2 := hf.rok s h
    simp only [List.length_cons]
    unfold manyS
    rw [h1] at h2 ⊢
    have := many_fwd hf xs _ (a ++ [x]) r h2 rfl (fun y hy => ho y (by simp [hy])) (drop_next hd)
    simp only
    rw [this]
    simp [Nat.add_assoc]
theorem many_bwd {α : Type} {l : List Int} {f : RS → α × RS} {enc : α → List Int} {ok : α → Prop} (hf : Cdc l f enc ok) : ∀ (n : Nat) (s : RS) (a : List α), ROk l s → (manyS f n s a).2.e = 0 → s.e = 0 ∧ ∃ xs r, xs.length = n ∧ (∀ x ∈ xs, ok x) ∧ (manyS f n s a).1 = a ++ xs ∧ l.drop s.at_ = xs.flatMap enc ++ r ∧ (manyS f n s a).2 = ⟨s.at_ + (xs.flatMap enc).length, 0, s.bad⟩
  | 0, s, a, h, he => by
    have he : s.e = 0 := he
    exact ⟨he, [], l.drop s.at_, rfl, fun x hx => absurd hx (by simp), by simp [manyS], by simp, by simp [manyS]; exact rs_eq rfl he rfl⟩
  | n + 1, s, a, h, he => by
    unfold manyS at he ⊢
    obtain ⟨b1, xs, r, b2, b3, b4, b5, b6⟩ := many_bwd hf n _ _ (hf.rok s h) he
    obtain ⟨a1, a2, a3, r1, a4⟩ := hf.bwd s h b1
    refine ⟨a1, (f s).1 :: xs, r, by simp [b2], fun x hx => ?_, ?_, ?_, ?_⟩
    · rcases List.mem_cons.1 hx with rfl | hx
      · exact a2
      · exact b3 x hx
    · rw [b4]; simp
    · have h5 := drop_next a4
      have h6 : (f s).2.at_ = s.at_ + (enc (f s).1).length := by rw [a3]
      rw [h6, h5] at b5
      rw [a4, b5]
      simp
    · rw [b6, a3]
      simp [Nat.add_assoc]
theorem len_flat {α : Type} {enc : α → List Int} {ok : α → Prop} (hp : ∀ x, ok x → 1 ≤ (enc x).length) : ∀ xs : List α, (∀ x ∈ xs, ok x) → xs.length ≤ (xs.flatMap enc).length
  | [], _ => by simp
  | a :: xs, h => by
    have h1 := hp a (h a (by simp))
    have h2 := len_flat hp xs fun x hx => h x (by simp [hx])
    simp only [List.flatMap_cons, List.length_append, List.length_cons]
    omega
structure LstOk {α : Type} (most : Int) (ok : α → Prop) (xs : List α) : Prop where
  n : (xs.length : Int) ≤ most
  n2 : (xs.length : Int) < 18446744073709551616
  ok : ∀ x ∈ xs, ok x
theorem cdc_many {α : Type} {l : List Int} {f : RS → α × RS} {enc : α → List Int} {ok : α → Prop} (hf : Cdc l f enc ok) (hp : ∀ x, ok x → 1 ≤ (enc x).length) (most : Int) :
    Cdc l (fun s => manyS f (countS l s most).1.toNat (countS l s most).2 []) (fun xs => uintB (xs.length : Int) ++ xs.flatMap enc) (LstOk most ok) where
  fwd := fun s xs r h he ho hd => by
    rw [List.append_assoc] at hd
    have hc := count_fwd (most := most) (n := xs.length) h he ho.n ho.n2 (by have := len_flat hp xs ho.ok; rw [List.length_append]; omega) hd
    have hrk := (countS_ok (most := most) h).1
    show manyS f (countS l s most).1.toNat (countS l s most).2 [] = _
    rw [hc] at hrk ⊢
    simp only [Int.toNat_natCast]
    have := many_fwd hf xs _ [] r hrk rfl ho.ok (drop_next hd)
    rw [this]
    simp [Nat.add_assoc]
  bwd := fun s h he => by
    have he : (manyS f (countS l s most).1.toNat (countS l s most).2 []).2.e = 0 := he
    obtain ⟨b1, xs, r, b2, b3, b4, b5, b6⟩ := many_bwd hf _ _ _ (countS_ok (most := most) h).1 he
    obtain ⟨g1, g2, g3, g4⟩ := count_good b1
    obtain ⟨a1, a2, a3, r1, a4⟩ := (cdc_uint l).bwd s h g2
    show s.e = 0 ∧ LstOk most ok (manyS f (countS l s most).1.toNat (countS l s most).2 []).1 ∧ (manyS f (countS l s most).1.toNat (countS l s most).2 []).2 = ⟨s.at_ + (uintB ((manyS f (countS l s most).1.toNat (countS l s most).2 []).1.length : Int) ++ (manyS f (countS l s most).1.toNat (countS l s most).2 []).1.flatMap enc).length, 0, s.bad⟩ ∧ ∃ r, l.drop s.at_ = (uintB ((manyS f (countS l s most).1.toNat (countS l s most).2 []).1.length : Int) ++ (manyS f (countS l s most).1.toNat (countS l s most).2 []).1.flatMap enc) ++ r
    rw [b4, b6]
    rw [g1] at b2 b5 ⊢
    have e : (xs.length : Int) = (uintS l s).1 := by have := a2.lo; omega
    simp only [List.nil_append]
    rw [e]
    refine ⟨a1, ⟨by omega, by have := a2.hi; omega, b3⟩, ?_, r, ?_⟩
    · rw [a3]; simp [Nat.add_assoc]
    · have h5 := drop_next a4
      have h6 : (uintS l s).2.at_ = s.at_ + (uintB (uintS l s).1).length := by rw [a3]
      rw [h6, h5] at b5
      rw [a4, b5]
      simp
  rok := fun s h => many_ok (fun s h => hf.rok s h) _ _ _ (countS_ok h).1
structure RecOk (x : Rec) : Prop where
  u : RecU x
  k : x.key.size ≤ 32
  v : x.val.length ≤ 256
  b : Bytes x.val
theorem cdc_rec (l : List Int) : Cdc l (recS l) recB RecOk := by
  have h := ((cdc_uint l).pair ((cdc_str l 32).pair ((cdc_bytes l 256).pair ((cdc_uint l).pair (cdc_uint l))))).map (β := Rec) (fun a => ⟨a.1, a.2.1, a.2.2.1, a.2.2.2.1, a.2.2.2.2⟩) (fun x => (x.off, x.key, x.val, x.prod, x.seq)) (eb := recB) (ob := RecOk) (fun x => rfl)
    (fun a ha => by
      obtain ⟨h1, h2, h3, h4, h5⟩ := ha
      refine ⟨by simp [recB], ⟨h1, h4, h5⟩, ?_, ?_, h3.b⟩
      · have := h2.1; show a.2.1.size ≤ 32; omega
      · have := h3.n; show a.2.2.1.length ≤ 256; omega)
    (fun x hx => ⟨hx.u.off, ⟨by have := hx.k; show (x.key.size : Int) ≤ 32; omega, by have := hx.k; show (x.key.size : Int) < _; omega⟩, ⟨by have := hx.v; show (x.val.length : Int) ≤ 256; omega, by have := hx.v; show (x.val.length : Int) < _; omega, hx.b⟩, hx.u.prod, hx.u.seq⟩)
  exact (h.whole default).of fun s => rfl
structure RngOk (r : Rng) : Prop where
  lo : r.lo.size ≤ 32
  hi : r.hi.size ≤ 32
theorem cdc_rng (l : List Int) : Cdc l (rngS l) rngB RngOk := by
  have h := ((cdc_str l 32).pair (cdc_str l 32)).map (β := Rng) (fun a => ⟨a.1, a.2⟩) (fun x => (x.lo, x.hi)) (eb := rngB) (ob := RngOk) (fun x => rfl)
    (fun a ha => ⟨rfl, by have := ha.1.1; show a.1.size ≤ 32; omega, by have := ha.2.1; show a.2.size ≤ 32; omega⟩)
    (fun x hx => ⟨⟨by have := hx.lo; show (x.lo.size : Int) ≤ 32; omega, by have := hx.lo; show (x.lo.size : Int) < _; omega⟩, ⟨by have := hx.hi; show (x.hi.size : Int) ≤ 32; omega, by have := hx.hi; show (x.hi.size : Int) < _; omega⟩⟩)
  exact (h.whole default).of fun s => rfl
theorem cdc_prod (l : List Int) : Cdc l (prodS l) prodB ProdU := by
  have h := ((cdc_uint l).pair ((cdc_uint l).pair ((cdc_bool l).pair (cdc_uint l)))).map (β := P.Producer) (fun a => ⟨a.1, a.2.1, a.2.2.1, a.2.2.2⟩) (fun x => (x.id, x.seq, x.here, x.offset)) (eb := prodB) (ob := ProdU) (fun x => rfl)
    (fun a ha => ⟨by simp [prodB], ha.1, ha.2.1, ha.2.2.2⟩) (fun x hx => ⟨hx.id, hx.seq, trivial, hx.offset⟩)
  exact h.of fun s => rfl
structure ConOk (x : Con) : Prop where
  n : x.name.size ≤ 32
  o : U64 x.off
theorem cdc_con (l : List Int) : Cdc l (conS l) conB ConOk := by
  have h := ((cdc_str l 32).pair (cdc_uint l)).map (β := Con) (fun a => ⟨a.1, a.2⟩) (fun x => (x.name, x.off)) (eb := conB) (ob := ConOk) (fun x => rfl)
    (fun a ha => ⟨rfl, by have := ha.1.1; show a.1.size ≤ 32; omega, ha.2⟩)
    (fun x hx => ⟨⟨by have := hx.n; show (x.name.size : Int) ≤ 32; omega, by have := hx.n; show (x.name.size : Int) < _; omega⟩, hx.o⟩)
  exact h.of fun s => rfl
theorem recsN_many (l : List Int) : ∀ n s a, (recsN l n s a).2.e = 0 ∨ (manyS (recS l) n s a).2.e = 0 → ROk l s → recsN l n s a = manyS (recS l) n s a
  | 0, s, a, _, _ => rfl
  | n + 1, s, a, h, hs => by
    unfold recsN manyS at *
    by_cases h0 : (s.e != 0) = true
    · exfalso
      have hne : s.e ≠ 0 := by simpa using h0
      rw [if_pos h0] at h
      rcases h with h | h
      · exact hne h
      · obtain ⟨b1, _⟩ := many_bwd (cdc_rec l) n _ _ (rec_ok hs) h
        exact hne ((cdc_rec l).bwd s hs b1).1
    · rw [if_neg h0] at h ⊢
      exact recsN_many l n _ _ h (rec_ok hs)
theorem cdc_list (l : List Int) (most : Int) : Cdc l (fun s => listS l s most) listB (LstOk most RecOk) := by
  have h := cdc_many (cdc_rec l) (fun x _ => recB_pos x) most
  refine ⟨fun s x r hs he ho hd => ?_, fun s hs he => ?_, fun s hs => listS_ok hs⟩
  · have h1 := h.fwd s x r hs he ho hd
    have h2 := recsN_many l _ _ [] (.inr (by rw [h1])) (countS_ok (most := most) hs).1
    exact h2.trans h1
  · have h2 : listS l s most = _ := recsN_many l _ _ [] (.inl he) (countS_ok (most := most) hs).1
    have h3 := h.bwd s hs (by have := he; rw [h2] at this; exact this)
    rw [h2]
    exact h3
end Go.Proofs.YtnbhdjadlbhknaaGreatDoor.J

namespace Go.Proofs.YtnbhdjadlbhknaaGreatDoor.R
open Go.Ax
set_option maxRecDepth 1000000
noncomputable def passN (b : Bool) (l : List P.Producer) (id seq : Int) : Ctr Tryz.prog := ⟨139, [P.encPs b l, .y (.int .u64 id), .y (.int .u64 seq)], [], .need (l.length ≤ 9223372036854775806) (P.takeR l (P.mkP id seq false 0)), T.Sat.need fun h => P.pass_c b l id seq h⟩
def pasP (c : Cmd) : P.Producer := P.mkP c.prod c.seq false 0
def comE' (p : Part) (c : Cmd) : Int := comE p.cons ⟨c.name, c.off⟩ (IntKind.u64.wrap (p.recs.length : Nat))
def refV : AV := .ifc 184 (.ptr 0 0 0 0)
def refM (c : Cmd) (e : Int) : List Blk := [.box 186 [.y (.int .i64 c.kind), .ifc 31 (.y (.int .i64 e))]]
def agM (c : Cmd) : List Blk := [.box 186 [.y (.int .i64 c.kind), .ifc 141 (.agg [])]]
def cmE (p : Part) (c : Cmd) : Int := if P.judgeV p.prods c.prod c.seq ≠ 1 then 999 else if p.frozen ≠ 0 then 164 else if comE' p c ≠ 0 then comE' p c else P.takeE p.prods (pasP c)
def cmQ (p : Part) (c : Cmd) : Part := ⟨p.rng, p.epoch, p.frozen, p.recs, P.putL p.prods (pasP c), putL p.cons ⟨c.name, c.off⟩⟩
def cmT (p : Part) (c : Cmd) : T An := .ite (cmE p c == 0) (.ret (.tup [.agg (encPt true (cmQ p c)), .s .nilIface], [], []))
  (.ite (cmE p c == 999) (.ret (.tup [.agg (encPt true p), refV], agM c, []))
    (.ret (.tup [.agg (encPt true p), refV], refM c (cmE p c), [])))
noncomputable def cmH (p : Part) (c : Cmd) : HintsT Tryz.prog := withSh (hh _ noLp (cs1 105 1 6 (juC true p.prods c.prod c.seq) (cs1 105 6 11 (cmC true p.cons ⟨c.name, c.off⟩ (IntKind.u64.wrap (p.recs.length : Nat))) (cs1 105 9 6 (passN true p.prods c.prod c.seq) noCs))) noOp) (sh1 105 13 0 779 noSh)
def vcCo_q2 (p : Part) : Prop := (true = true ∧ List.length p.recs = List.length p.recs ∧ contLe (List.length p.recs) (5 : Nat) (cellsOf' encR p.recs) (cellsOf' encR p.recs))
def vcCo_q7 (p : Part) : Prop := (true = true ∧ List.length p.prods = List.length p.prods ∧ contLe (List.length p.prods) (4 : Nat) (cellsOf' P.encP p.prods) (cellsOf' P.encP p.prods))
def vcCo_q1 (p : Part) : Prop := (p.rng.lo = p.rng.lo ∧ p.rng.hi = p.rng.hi ∧ p.epoch = p.epoch ∧ p.frozen = p.frozen ∧ (vcCo_q2 p) ∧ (vcCo_q7 p) ∧ (true = true ∧ List.length p.cons = List.length p.cons ∧ contLe (List.length p.cons) (2 : Nat) (cellsOf' encC p.cons) (cellsOf' encC p.cons)) ∧ True)
def vcCo_q6 (p : Part) (c : Cmd) : Prop := ((cmE p c == (0 : Int)) = true → ((p.rng.lo = p.rng.lo ∧ p.rng.hi = p.rng.hi ∧ p.epoch = p.epoch ∧ p.frozen = p.frozen ∧ (vcCo_q2 p) ∧ (true = true ∧ List.length p.prods = List.length (P.putL p.prods (pasP c)) ∧ contLe (List.length p.prods) (4 : Nat) (cellsOf' P.encP p.prods) (cellsOf' P.encP (P.putL p.prods (pasP c)))) ∧ (true = true ∧ List.length p.cons = List.length (putL p.cons { name := c.name, off := c.off : Con }) ∧ contLe (List.length p.cons) (2 : Nat) (cellsOf' encC p.cons) (cellsOf' encC (putL p.cons { name := c.name, off := c.off : Con }))) ∧ True) ∧ True ∧ True) ∧ True)
def vcCo_q9 (p : Part) : Prop := ((vcCo_q1 p) ∧ ((0 : Nat) = (0 : Nat) ∧ (0 : Nat) = (0 : Nat)) ∧ True)
def vcCo_q3 (p : Part) (c : Cmd) : Prop := ((P.takeE p.prods (P.mkP c.prod c.seq false (0 : Int)) != (0 : Int)) = true → ((P.takeE p.prods (P.mkP c.prod c.seq false (0 : Int)) == (0 : Int)) = true → (vcCo_q6 p c) ∧ ((cmE p c == (0 : Int)) = false → ((cmE p c == (999 : Int)) = true → ((vcCo_q1 p) ∧ False ∧ True) ∧ False) ∧ ((cmE p c == (999 : Int)) = false → ((vcCo_q1 p) ∧ False ∧ True) ∧ False))) ∧ ((P.takeE p.prods (P.mkP c.prod c.seq false (0 : Int)) == (0 : Int)) = false → ((cmE p c == (0 : Int)) = true → False) ∧ ((cmE p c == (0 : Int)) = false → ((cmE p c == (999 : Int)) = true → (vcCo_q9 p) ∧ (c.kind = c.kind ∧ False ∧ True) ∧ True) ∧ ((cmE p c == (999 : Int)) = false → (vcCo_q9 p) ∧ (c.kind = c.kind ∧ P.takeE p.prods (P.mkP c.prod c.seq false (0 : Int)) = cmE p c ∧ True) ∧ True))))
def vcCo_q4 (p : Part) (c : Cmd) : Prop := (true = true ∧ List.length (P.putL p.prods (P.mkP c.prod c.seq false (0 : Int))) = List.length p.prods ∧ contLe (List.length (P.putL p.prods (P.mkP c.prod c.seq false (0 : Int)))) (4 : Nat) (Ax.rowAt (0 : Nat) (cellsOf' P.encP (P.putL p.prods (P.mkP c.prod c.seq false (0 : Int))))) (cellsOf' P.encP p.prods))
def vcCo_q5 (p : Part) (c : Cmd) : Prop := (true = true ∧ List.length (putL p.cons { name := c.name, off := c.off : Con }) = List.length p.cons ∧ contLe (List.length (putL p.cons { name := c.name, off := c.off : Con })) (2 : Nat) (Ax.rowAt (0 : Nat) (cellsOf' encC (putL p.cons { name := c.name, off := c.off : Con }))) (cellsOf' encC p.cons))
def vcCo_q8 (p : Part) (c : Cmd) : Prop := (true = true ∧ List.length (putL p.cons { name := c.name, off := c.off : Con }) = List.length (putL p.cons { name := c.name, off := c.off : Con }) ∧ contLe (List.length (putL p.cons { name := c.name, off := c.off : Con })) (2 : Nat) (Ax.rowAt (0 : Nat) (cellsOf' encC (putL p.cons { name := c.name, off := c.off : Con }))) (cellsOf' encC (putL p.cons { name := c.name, off := c.off : Con })))
def vcCo_q10 (p : Part) (c : Cmd) : Prop := (true = true ∧ List.length (P.putL p.prods (P.mkP c.prod c.seq false (0 : Int))) = List.length (P.putL p.prods (pasP c)) ∧ contLe (List.length (P.putL p.prods (P.mkP c.prod c.seq false (0 : Int)))) (4 : Nat) (Ax.rowAt (0 : Nat) (cellsOf' P.encP (P.putL p.prods (P.mkP c.prod c.seq false (0 : Int))))) (cellsOf' P.encP (P.putL p.prods (pasP c))))
def vcCo (p : Part) (c : Cmd) : Prop :=
  ((vcCo_q7 p) ∧ c.prod = c.prod ∧ c.seq = c.seq ∧ True) ∧ True ∧ List.length p.prods ≤ (9223372036854775806 : Nat) ∧ ((P.judgeV p.prods c.prod c.seq != (1 : Int)) = true → ((cmE p c == (0 : Int)) = true → False) ∧ ((cmE p c == (0 : Int)) = false → ((cmE p c == (999 : Int)) = true → (vcCo_q9 p) ∧ (c.kind = c.kind ∧ True ∧ True) ∧ True) ∧ ((cmE p c == (999 : Int)) = false → (vcCo_q9 p) ∧ (c.kind = c.kind ∧ False ∧ True) ∧ True))) ∧ ((P.judgeV p.prods c.prod c.seq != (1 : Int)) = false → ((p.frozen != (0 : Int)) = true → ((cmE p c == (0 : Int)) = true → False) ∧ ((cmE p c == (0 : Int)) = false → ((cmE p c == (999 : Int)) = true → (vcCo_q9 p) ∧ (c.kind = c.kind ∧ False ∧ True) ∧ True) ∧ ((cmE p c == (999 : Int)) = false → (vcCo_q9 p) ∧ (c.kind = c.kind ∧ (164 : Int) = cmE p c ∧ True) ∧ True))) ∧ ((p.frozen != (0 : Int)) = false → ((true = true ∧ List.length p.cons = List.length p.cons ∧ contLe (List.length p.cons) (2 : Nat) (cellsOf' encC p.cons) (cellsOf' encC p.cons)) ∧ (c.name = c.name ∧ c.off = c.off ∧ True) ∧ IntKind.wrap IntKind.u64 (↑(List.length p.recs) : Int) = IntKind.wrap IntKind.u64 (↑(List.length p.recs) : Int) ∧ True) ∧ True ∧ List.length p.cons ≤ (9223372036854775806 : Nat) ∧ ((comE p.cons { name := c.name, off := c.off : Con } (IntKind.wrap IntKind.u64 (↑(List.length p.recs) : Int)) == (0 : Int)) = true → ((vcCo_q7 p) ∧ c.prod = c.prod ∧ c.seq = c.seq ∧ True) ∧ True ∧ List.length p.prods ≤ (9223372036854775806 : Nat) ∧ ((P.takeE p.prods (P.mkP c.prod c.seq false (0 : Int)) == (0 : Int)) = true → (∀ (k : Nat), k < List.length (P.putL p.prods (P.mkP c.prod c.seq false (0 : Int))) → ∀ (j : Nat), j < (4 : Nat) → tagT (cellsOf' P.encP (P.putL p.prods (P.mkP c.prod c.seq false (0 : Int))) k j) = true) ∧ (∀ (k : Nat), k < List.length (putL p.cons { name := c.name, off := c.off : Con }) → ∀ (j : Nat), j < (2 : Nat) → tagT (cellsOf' encC (putL p.cons { name := c.name, off := c.off : Con }) k j) = true) ∧ ((cmE p c == (0 : Int)) = true → ((p.rng.lo = p.rng.lo ∧ p.rng.hi = p.rng.hi ∧ p.epoch = p.epoch ∧ p.frozen = p.frozen ∧ (vcCo_q2 p) ∧ (vcCo_q10 p c) ∧ (vcCo_q8 p c) ∧ True) ∧ True ∧ True) ∧ True) ∧ ((cmE p c == (0 : Int)) = false → ((cmE p c == (999 : Int)) = true → ((p.rng.lo = p.rng.lo ∧ p.rng.hi = p.rng.hi ∧ p.epoch = p.epoch ∧ p.frozen = p.frozen ∧ (vcCo_q2 p) ∧ (vcCo_q4 p c) ∧ (vcCo_q5 p c) ∧ True) ∧ False ∧ True) ∧ False) ∧ ((cmE p c == (999 : Int)) = false → ((p.rng.lo = p.rng.lo ∧ p.rng.hi = p.rng.hi ∧ p.epoch = p.epoch ∧ p.frozen = p.frozen ∧ (vcCo_q2 p) ∧ (vcCo_q4 p c) ∧ (vcCo_q5 p c) ∧ True) ∧ False ∧ True) ∧ False))) ∧ ((P.takeE p.prods (P.mkP c.prod c.seq false (0 : Int)) == (0 : Int)) = false → (vcCo_q3 p c) ∧ ((P.takeE p.prods (P.mkP c.prod c.seq false (0 : Int)) != (0 : Int)) = false → (∀ (k : Nat), k < List.length (putL p.cons { name := c.name, off := c.off : Con }) → ∀ (j : Nat), j < (2 : Nat) → tagT (cellsOf' encC (putL p.cons { name := c.name, off := c.off : Con }) k j) = true) ∧ ((cmE p c == (0 : Int)) = true → ((p.rng.lo = p.rng.lo ∧ p.rng.hi = p.rng.hi ∧ p.epoch = p.epoch ∧ p.frozen = p.frozen ∧ (vcCo_q2 p) ∧ List.length (P.putL p.prods (pasP c)) = (0 : Nat) ∧ (vcCo_q8 p c) ∧ True) ∧ True ∧ True) ∧ True) ∧ ((cmE p c == (0 : Int)) = false → ((cmE p c == (999 : Int)) = true → ((p.rng.lo = p.rng.lo ∧ p.rng.hi = p.rng.hi ∧ p.epoch = p.epoch ∧ p.frozen = p.frozen ∧ (vcCo_q2 p) ∧ List.length p.prods = (0 : Nat) ∧ (vcCo_q5 p c) ∧ True) ∧ False ∧ True) ∧ False) ∧ ((cmE p c == (999 : Int)) = false → ((p.rng.lo = p.rng.lo ∧ p.rng.hi = p.rng.hi ∧ p.epoch = p.epoch ∧ p.frozen = p.frozen ∧ (vcCo_q2 p) ∧ List.length p.prods = (0 : Nat) ∧ (vcCo_q5 p c) ∧ True) ∧ False ∧ True) ∧ False))))) ∧ ((comE p.cons { name := c.name, off := c.off : Con } (IntKind.wrap IntKind.u64 (↑(List.length p.recs) : Int)) == (0 : Int)) = false → ((comE p.cons { name := c.name, off := c.off : Con } (IntKind.wrap IntKind.u64 (↑(List.length p.recs) : Int)) != (0 : Int)) = true → ((comE p.cons { name := c.name, off := c.off : Con } (IntKind.wrap IntKind.u64 (↑(List.length p.recs) : Int)) == (0 : Int)) = true → (vcCo_q6 p c) ∧ ((cmE p c == (0 : Int)) = false → ((cmE p c == (999 : Int)) = true → ((vcCo_q1 p) ∧ False ∧ True) ∧ False) ∧ ((cmE p c == (999 : Int)) = false → ((vcCo_q1 p) ∧ False ∧ True) ∧ False))) ∧ ((comE p.cons { name := c.name, off := c.off : Con } (IntKind.wrap IntKind.u64 (↑(List.length p.recs) : Int)) == (0 : Int)) = false → ((cmE p c == (0 : Int)) = true → False) ∧ ((cmE p c == (0 : Int)) = false → ((cmE p c == (999 : Int)) = true → (vcCo_q9 p) ∧ (c.kind = c.kind ∧ False ∧ True) ∧ True) ∧ ((cmE p c == (999 : Int)) = false → (vcCo_q9 p) ∧ (c.kind = c.kind ∧ comE p.cons { name := c.name, off := c.off : Con } (IntKind.wrap IntKind.u64 (↑(List.length p.recs) : Int)) = cmE p c ∧ True) ∧ True)))) ∧ ((comE p.cons { name := c.name, off := c.off : Con } (IntKind.wrap IntKind.u64 (↑(List.length p.recs) : Int)) != (0 : Int)) = false → ((vcCo_q7 p) ∧ c.prod = c.prod ∧ c.seq = c.seq ∧ True) ∧ True ∧ List.length p.prods ≤ (9223372036854775806 : Nat) ∧ ((P.takeE p.prods (P.mkP c.prod c.seq false (0 : Int)) == (0 : Int)) = true → (∀ (k : Nat), k < List.length (P.putL p.prods (P.mkP c.prod c.seq false (0 : Int))) → ∀ (j : Nat), j < (4 : Nat) → tagT (cellsOf' P.encP (P.putL p.prods (P.mkP c.prod c.seq false (0 : Int))) k j) = true) ∧ ((cmE p c == (0 : Int)) = true → ((p.rng.lo = p.rng.lo ∧ p.rng.hi = p.rng.hi ∧ p.epoch = p.epoch ∧ p.frozen = p.frozen ∧ (vcCo_q2 p) ∧ (vcCo_q10 p c) ∧ List.length (putL p.cons { name := c.name, off := c.off : Con }) = (0 : Nat) ∧ True) ∧ True ∧ True) ∧ True) ∧ ((cmE p c == (0 : Int)) = false → ((cmE p c == (999 : Int)) = true → ((p.rng.lo = p.rng.lo ∧ p.rng.hi = p.rng.hi ∧ p.epoch = p.epoch ∧ p.frozen = p.frozen ∧ (vcCo_q2 p) ∧ (vcCo_q4 p c) ∧ List.length p.cons = (0 : Nat) ∧ True) ∧ False ∧ True) ∧ False) ∧ ((cmE p c == (999 : Int)) = false → ((p.rng.lo = p.rng.lo ∧ p.rng.hi = p.rng.hi ∧ p.epoch = p.epoch ∧ p.frozen = p.frozen ∧ (vcCo_q2 p) ∧ (vcCo_q4 p c) ∧ List.length p.cons = (0 : Nat) ∧ True) ∧ False ∧ True) ∧ False))) ∧ ((P.takeE p.prods (P.mkP c.prod c.seq false (0 : Int)) == (0 : Int)) = false → (vcCo_q3 p c) ∧ ((P.takeE p.prods (P.mkP c.prod c.seq false (0 : Int)) != (0 : Int)) = false → ((cmE p c == (0 : Int)) = true → ((p.rng.lo = p.rng.lo ∧ p.rng.hi = p.rng.hi ∧ p.epoch = p.epoch ∧ p.frozen = p.frozen ∧ (vcCo_q2 p) ∧ List.length (P.putL p.prods (pasP c)) = (0 : Nat) ∧ List.length (putL p.cons { name := c.name, off := c.off : Con }) = (0 : Nat) ∧ True) ∧ True ∧ True) ∧ True) ∧ ((cmE p c == (0 : Int)) = false → ((cmE p c == (999 : Int)) = true → ((p.rng.lo = p.rng.lo ∧ p.rng.hi = p.rng.hi ∧ p.epoch = p.epoch ∧ p.frozen = p.frozen ∧ (vcCo_q2 p) ∧ List.length p.prods = (0 : Nat) ∧ List.length p.cons = (0 : Nat) ∧ True) ∧ False ∧ True) ∧ False) ∧ ((cmE p c == (999 : Int)) = false → ((p.rng.lo = p.rng.lo ∧ p.rng.hi = p.rng.hi ∧ p.epoch = p.epoch ∧ p.frozen = p.frozen ∧ (vcCo_q2 p) ∧ List.length p.prods = (0 : Nat) ∧ List.length p.cons = (0 : Nat) ∧ True) ∧ False ∧ True) ∧ False))))))))
theorem vcCo_eq (p : Part) (c : Cmd) : (ctrVC Tryz.prog (cmH p c) 105 [.agg (encPt true p), .agg (encCm c)] [] (cmT p c)) = vcCo p c := by kernel_rfl
end Go.Proofs.YtnbhdjadlbhknaaGreatDoor.R

namespace Go.Proofs.YtnbhdjadlbhknaaGreatDoor.R
open Go.Ax
set_option maxRecDepth 1000000
theorem tRs (l : List Rec) : ∀ (k : Nat), k < l.length → ∀ (j : Nat), j < 5 → tagT (cellsOf' encR l k j) = true := fun k _ j hj => tagR _ j hj
theorem tPs (l : List P.Producer) : ∀ (k : Nat), k < l.length → ∀ (j : Nat), j < 4 → tagT (cellsOf' P.encP l k j) = true := fun k _ j hj => D.tagP _ j hj
theorem tCs (l : List Con) : ∀ (k : Nat), k < l.length → ∀ (j : Nat), j < 2 → tagT (cellsOf' encC l k j) = true := fun k _ j hj => D.tagC _ j hj
theorem take_999 (l : List P.Producer) (x : P.Producer) : P.takeE l x ≠ 999 := by
  unfold P.takeE
  repeat' split
  all_goals decide
theorem com_999 (l : List Con) (x : Con) (e : Int) : comE l x e ≠ 999 := by
  unfold comE
  repeat' split
  all_goals decide
theorem co_c (p : Part) (c : Cmd) (h : PartIn p) : (cmT p c).Sat (ACall' Tryz.prog 105 [.agg (encPt true p), .agg (encCm c)] []) := by
  refine ctr_vc (ht := cmH p c) Tryz.mixed rfl ?_
  rw [vcCo_eq p c]
  unfold vcCo vcCo_q10 vcCo_q8 vcCo_q5 vcCo_q4 vcCo_q3 vcCo_q9 vcCo_q6 vcCo_q1 vcCo_q7 vcCo_q2
  have h1 := h.rl
  have h2 := h.pl
  have h3 := h.cl
  have t1 := tRs p.recs
  have t2 := tPs (P.putL p.prods (pasP c))
  have t3 := tCs (putL p.cons ⟨c.name, c.off⟩)
  have e1 : P.takeE p.prods (P.mkP c.prod c.seq false 0) = P.takeE p.prods (pasP c) := rfl
  have e2 : P.putL p.prods (P.mkP c.prod c.seq false 0) = P.putL p.prods (pasP c) := rfl
  have e3 : comE p.cons ⟨c.name, c.off⟩ (IntKind.u64.wrap (p.recs.length : Nat)) = comE' p c := rfl
  rw [e1, e2, e3]
  have q1 : p.prods.length ≤ 9223372036854775806 := by omega
  have q2 : p.recs.length ≤ 9223372036854775806 := by omega
  have q3 : p.cons.length ≤ 9223372036854775806 := by omega
  unfold cmE
  by_cases c2 : P.judgeV p.prods c.prod c.seq = 1
  · by_cases c4 : p.frozen = 0
    · by_cases c5 : comE' p c = 0
      · by_cases c6 : P.takeE p.prods (pasP c) = 0
        · simp [c2, c4, c5, c6, q1, q3]
          exact ⟨t2, t3⟩
        · by_cases c7 : P.takeE p.prods (pasP c) = 999
          · exact absurd c7 (take_999 _ _)
          · simp [c2, c4, c5, c6, c7, q1, q3]
      · by_cases c7 : comE' p c = 999
        · exact absurd c7 (com_999 _ _ _)
        · simp [c2, c4, c5, c7, q1, q3]
    · simp [c2, c4, q1]
  · simp [c2, q1]
noncomputable def coC (p : Part) (c : Cmd) : Ctr Tryz.prog := ⟨105, [.agg (encPt true p), .agg (encCm c)], [], .need (PartIn p) (cmT p c), T.Sat.need fun h => co_c p c h⟩
end Go.Proofs.YtnbhdjadlbhknaaGreatDoor.R

namespace Go.Proofs.YtnbhdjadlbhknaaGreatDoor.R
open Go.Ax
set_option maxRecDepth 1000000
structure Act where
  q : Part
  x : Res
  e : Int
end Go.Proofs.YtnbhdjadlbhknaaGreatDoor.R

namespace Go.Proofs.YtnbhdjadlbhknaaGreatDoor.R
open Go.Ax
set_option maxRecDepth 1000000
end Go.Proofs.YtnbhdjadlbhknaaGreatDoor.R

namespace Go.Proofs.YtnbhdjadlbhknaaGreatDoor.R
open Go.Ax
set_option maxRecDepth 1000000
theorem ok_len {p : Part} (h : partOk p = true) : p.recs.length ≤ 4096 ∧ p.prods.length ≤ 256 ∧ p.cons.length ≤ 64 := by
  obtain ⟨_, _, a, b, c, _⟩ := D.ok_parts h
  have h1 := log_len a
  simp [P.isTable] at b
  simp [isCons] at c
  exact ⟨h1, b.2, c.2⟩
end Go.Proofs.YtnbhdjadlbhknaaGreatDoor.R

namespace Go.Proofs.YtnbhdjadlbhknaaGreatDoor.R
open Go.Ax
set_option maxRecDepth 1000000
def byL (l : List Int) : List UInt8 := (List.range l.length).map fun k => UInt8.ofNat (l.getD k 0).toNat
def eqRc (x y : Rec) : Bool := x.off == y.off && (x.key.data.toList == y.key.data.toList && (byL x.val == byL y.val && (x.prod == y.prod && x.seq == y.seq)))
def sameF (a b : List Rec) (k : Nat) : Bool := (List.range' k (a.length - k)).all fun j => eqRc (a.getD j default) (b.getD j default)
def smT (b1 b2 : Bool) (a b : List Rec) (k : Nat) : List AV := mkT 82 [(0, encRs b1 a), (1, encRs b2 b), (4, .s (.bool false)), (5, .y (.int .i64 k))]
def smS (r : Bool) : Exit × List AV × List Blk := match r with
  | true => (.exit 0, mkT 82 [], [])
  | false => (.ret, mkT 82 [(4, .s (.bool false))], [])
def smO (a b : List Rec) (k : Nat) : T Bool := .ite (sameF a b k) (.ret true) (.ret false)
def vcSmL (b1 : Bool) (b2 : Bool) (a : List Rec) (b : List Rec) (k : Nat) : Prop :=
  (decide ((↑k : Int) < (↑(List.length a) : Int)) = true → (true && decide ((↑k : Int) < (↑(List.length a) : Int))) = true ∧ (true && decide ((↑k : Int) < (↑(List.length b) : Int))) = true ∧ (((List.getD a (Int.toNat (↑k : Int)) (@default Rec instInhabitedRec)).off != (List.getD b (Int.toNat (↑k : Int)) (@default Rec instInhabitedRec)).off) = true → (sameF a b k = true → False) ∧ (sameF a b k = false → (false = false ∧ True) ∧ True ∧ true = true)) ∧ (((List.getD a (Int.toNat (↑k : Int)) (@default Rec instInhabitedRec)).off != (List.getD b (Int.toNat (↑k : Int)) (@default Rec instInhabitedRec)).off) = false → (true && decide ((↑k : Int) < (↑(List.length a) : Int))) = true ∧ (true && decide ((↑k : Int) < (↑(List.length b) : Int))) = true ∧ ((!(List.getD a (Int.toNat (↑k : Int)) (@default Rec instInhabitedRec)).key.data.toList == (List.getD b (Int.toNat (↑k : Int)) (@default Rec instInhabitedRec)).key.data.toList) = true → (sameF a b k = true → False) ∧ (sameF a b k = false → (false = false ∧ True) ∧ True ∧ true = true)) ∧ ((!(List.getD a (Int.toNat (↑k : Int)) (@default Rec instInhabitedRec)).key.data.toList == (List.getD b (Int.toNat (↑k : Int)) (@default Rec instInhabitedRec)).key.data.toList) = false → (true && decide ((↑k : Int) < (↑(List.length a) : Int))) = true ∧ (∀ (k_1 : Nat), k_1 < List.length (List.getD a (Int.toNat (↑k : Int)) (@default Rec instInhabitedRec)).val → true = true) ∧ (true && decide ((↑k : Int) < (↑(List.length b) : Int))) = true ∧ (∀ (k_1 : Nat), k_1 < List.length (List.getD b (Int.toNat (↑k : Int)) (@default Rec instInhabitedRec)).val → true = true) ∧ ((!List.map (fun (a : AV) => match match a with | AV.s (Value.int IntKind.u8 n) => some n | AV.y (Value.int IntKind.u8 n) => some n | x => none with | some n => UInt8.ofNat (Int.toNat n) | none => (0 : UInt8)) (List.map (fun (k_1 : Nat) => AV.y (Value.int IntKind.u8 (List.getD (List.getD a (Int.toNat (↑k : Int)) (@default Rec instInhabitedRec)).val k_1 (0 : Int)))) (List.range (List.length (List.getD a (Int.toNat (↑k : Int)) (@default Rec instInhabitedRec)).val))) == List.map (fun (a : AV) => match match a with | AV.s (Value.int IntKind.u8 n) => some n | AV.y (Value.int IntKind.u8 n) => some n | x => none with | some n => UInt8.ofNat (Int.toNat n) | none => (0 : UInt8)) (List.map (fun (k_1 : Nat) => AV.y (Value.int IntKind.u8 (List.getD (List.getD b (Int.toNat (↑k : Int)) (@default Rec instInhabitedRec)).val k_1 (0 : Int)))) (List.range (List.length (List.getD b (Int.toNat (↑k : Int)) (@default Rec instInhabitedRec)).val)))) = true → (sameF a b k = true → False) ∧ (sameF a b k = false → (false = false ∧ True) ∧ True ∧ true = true)) ∧ ((!List.map (fun (a : AV) => match match a with | AV.s (Value.int IntKind.u8 n) => some n | AV.y (Value.int IntKind.u8 n) => some n | x => none with | some n => UInt8.ofNat (Int.toNat n) | none => (0 : UInt8)) (List.map (fun (k_1 : Nat) => AV.y (Value.int IntKind.u8 (List.getD (List.getD a (Int.toNat (↑k : Int)) (@default Rec instInhabitedRec)).val k_1 (0 : Int)))) (List.range (List.length (List.getD a (Int.toNat (↑k : Int)) (@default Rec instInhabitedRec)).val))) == List.map (fun (a : AV) => match match a with | AV.s (Value.int IntKind.u8 n) => some n | AV.y (Value.int IntKind.u8 n) => some n | x => none with | some n => UInt8.ofNat (Int.toNat n) | none => (0 : UInt8)) (List.map (fun (k_1 : Nat) => AV.y (Value.int IntKind.u8 (List.getD (List.getD b (Int.toNat (↑k : Int)) (@default Rec instInhabitedRec)).val k_1 (0 : Int)))) (List.range (List.length (List.getD b (Int.toNat (↑k : Int)) (@default Rec instInhabitedRec)).val)))) = false → (true && decide ((↑k : Int) < (↑(List.length a) : Int))) = true ∧ (true && decide ((↑k : Int) < (↑(List.length b) : Int))) = true ∧ (((List.getD a (Int.toNat (↑k : Int)) (@default Rec instInhabitedRec)).prod != (List.getD b (Int.toNat (↑k : Int)) (@default Rec instInhabitedRec)).prod) = true → (sameF a b k = true → False) ∧ (sameF a b k = false → (false = false ∧ True) ∧ True ∧ true = true)) ∧ (((List.getD a (Int.toNat (↑k : Int)) (@default Rec instInhabitedRec)).prod != (List.getD b (Int.toNat (↑k : Int)) (@default Rec instInhabitedRec)).prod) = false → (true && decide ((↑k : Int) < (↑(List.length a) : Int))) = true ∧ (true && decide ((↑k : Int) < (↑(List.length b) : Int))) = true ∧ (((List.getD a (Int.toNat (↑k : Int)) (@default Rec instInhabitedRec)).seq != (List.getD b (Int.toNat (↑k : Int)) (@default Rec instInhabitedRec)).seq) = true → (sameF a b k = true → False) ∧ (sameF a b k = false → (false = false ∧ True) ∧ True ∧ true = true)) ∧ (((List.getD a (Int.toNat (↑k : Int)) (@default Rec instInhabitedRec)).seq != (List.getD b (Int.toNat (↑k : Int)) (@default Rec instInhabitedRec)).seq) = false → ∃ (j : Nat), List.length a - j < List.length a - k ∧ (((b1 = b1 ∧ List.length a = List.length a ∧ contLe (List.length a) (5 : Nat) (cellsOf' encR a) (cellsOf' encR a)) ∧ (b2 = b2 ∧ List.length b = List.length b ∧ contLe (List.length b) (5 : Nat) (cellsOf' encR b) (cellsOf' encR b)) ∧ false = false ∧ IntKind.wrap IntKind.i64 ((↑k : Int) + (1 : Int)) = (↑j : Int) ∧ True) ∧ True ∧ true = true) ∧ true = true ∧ (sameF a b j = true → (sameF a b k = true → true = true) ∧ (sameF a b k = false → true = false)) ∧ (sameF a b j = false → (sameF a b k = true → false = true) ∧ (sameF a b k = false → false = false)))))))) ∧ (decide ((↑k : Int) < (↑(List.length a) : Int)) = false → (sameF a b k = true → True ∧ True ∧ true = true) ∧ (sameF a b k = false → False))
theorem vcSmL_eq (b1 : Bool) (b2 : Bool) (a : List Rec) (b : List Rec) (k : Nat) : (loopVC Tryz.prog (hT _) 73 4 (fun k => a.length - k) (smT b1 b2 a b) (fun _ => []) [0, 1] (smO a b) smS k) = vcSmL b1 b2 a b k := by kernel_rfl
def eqCc (x y : Con) : Bool := x.name.data.toList == y.name.data.toList && x.off == y.off
def sameG (a b : List Con) (k : Nat) : Bool := (List.range' k (a.length - k)).all fun j => eqCc (a.getD j default) (b.getD j default)
def scT (b1 b2 : Bool) (a b : List Con) (k : Nat) : List AV := mkT 26 [(0, encCs b1 a), (1, encCs b2 b), (4, .s (.bool false)), (5, .y (.int .i64 k))]
def scS (r : Bool) : Exit × List AV × List Blk := match r with
  | true => (.exit 0, mkT 26 [], [])
  | false => (.ret, mkT 26 [(4, .s (.bool false))], [])
def scO (a b : List Con) (k : Nat) : T Bool := .ite (sameG a b k) (.ret true) (.ret false)
def vcScL (b1 : Bool) (b2 : Bool) (a : List Con) (b : List Con) (k : Nat) : Prop :=
  (decide ((↑k : Int) < (↑(List.length a) : Int)) = true → (true && decide ((↑k : Int) < (↑(List.length a) : Int))) = true ∧ (true && decide ((↑k : Int) < (↑(List.length b) : Int))) = true ∧ ((!((List.getD a (Int.toNat (↑k : Int)) (@default Con instInhabitedCon)).name.data.toList == (List.getD b (Int.toNat (↑k : Int)) (@default Con instInhabitedCon)).name.data.toList && ((List.getD a (Int.toNat (↑k : Int)) (@default Con instInhabitedCon)).off == (List.getD b (Int.toNat (↑k : Int)) (@default Con instInhabitedCon)).off && true))) = true → (sameG a b k = true → False) ∧ (sameG a b k = false → (false = false ∧ True) ∧ True ∧ true = true)) ∧ ((!((List.getD a (Int.toNat (↑k : Int)) (@default Con instInhabitedCon)).name.data.toList == (List.getD b (Int.toNat (↑k : Int)) (@default Con instInhabitedCon)).name.data.toList && ((List.getD a (Int.toNat (↑k : Int)) (@default Con instInhabitedCon)).off == (List.getD b (Int.toNat (↑k : Int)) (@default Con instInhabitedCon)).off && true))) = false → ∃ (j : Nat), List.length a - j < List.length a - k ∧ (((b1 = b1 ∧ List.length a = List.length a ∧ contLe (List.length a) (2 : Nat) (cellsOf' encC a) (cellsOf' encC a)) ∧ (b2 = b2 ∧ List.length b = List.length b ∧ contLe (List.length b) (2 : Nat) (cellsOf' encC b) (cellsOf' encC b)) ∧ false = false ∧ IntKind.wrap IntKind.i64 ((↑k : Int) + (1 : Int)) = (↑j : Int) ∧ True) ∧ True ∧ true = true) ∧ true = true ∧ (sameG a b j = true → (sameG a b k = true → true = true) ∧ (sameG a b k = false → true = false)) ∧ (sameG a b j = false → (sameG a b k = true → false = true) ∧ (sameG a b k = false → false = false)))) ∧ (decide ((↑k : Int) < (↑(List.length a) : Int)) = false → (sameG a b k = true → True ∧ True ∧ true = true) ∧ (sameG a b k = false → False))
theorem vcScL_eq (b1 : Bool) (b2 : Bool) (a : List Con) (b : List Con) (k : Nat) : (loopVC Tryz.prog (hT _) 75 4 (fun k => a.length - k) (scT b1 b2 a b) (fun _ => []) [0, 1] (scO a b) scS k) = vcScL b1 b2 a b k := by kernel_rfl
end Go.Proofs.YtnbhdjadlbhknaaGreatDoor.R

namespace Go.Proofs.YtnbhdjadlbhknaaGreatDoor.R
open Go.Ax
set_option maxRecDepth 1000000
theorem sameG_end {a b : List Con} {k : Nat} (h : a.length ≤ k) : sameG a b k = true := by
  unfold sameG
  rw [show a.length - k = 0 by omega]; rfl
theorem sameG_step {a b : List Con} {k : Nat} (h : k < a.length) : sameG a b k = (eqCc (a.getD k default) (b.getD k default) && sameG a b (k + 1)) := by
  unfold sameG
  rw [show a.length - k = (a.length - (k + 1)) + 1 by omega, List.range'_succ]; rfl
theorem sameF_end {a b : List Rec} {k : Nat} (h : a.length ≤ k) : sameF a b k = true := by
  unfold sameF
  rw [show a.length - k = 0 by omega]; rfl
theorem sameF_step {a b : List Rec} {k : Nat} (h : k < a.length) : sameF a b k = (eqRc (a.getD k default) (b.getD k default) && sameF a b (k + 1)) := by
  unfold sameF
  rw [show a.length - k = (a.length - (k + 1)) + 1 by omega, List.range'_succ]; rfl
theorem sc_loop (b1 b2 : Bool) (a b : List Con) (hl : a.length ≤ 9223372036854775806) (he : a.length = b.length) (k : Nat) : LoopOk Tryz.prog 75 4 (loopAt Tryz.prog 75 4) ⟨scT b1 b2 a b k, [], []⟩ ((scO a b k).map (lout [0, 1] scS)) := by
  refine loop_vc Tryz.mixed (fun _ => rfl) (fun k => (vcScL_eq b1 b2 a b k).mpr ?_) k
  unfold vcScL
  by_cases h : k < a.length
  · have hz : decide ((k : Int) < a.length) = true := by simp; omega
    have hz2 : decide ((k : Int) < b.length) = true := by simp; omega
    have hw : IntKind.i64.wrap ((k : Int) + 1) = ((k + 1 : Nat) : Int) := by rw [wrap_i64 (by omega) (by omega)]; omega
    rw [sameG_step h, Int.toNat_natCast]
    simp only [hz, hz2, hw]
    unfold eqCc
    generalize ((a.getD k default).name.data.toList == (b.getD k default).name.data.toList) = q1
    generalize ((a.getD k default).off == (b.getD k default).off) = q2
    cases q1 <;> cases q2 <;> simp
    exact ⟨k + 1, by omega, by omega, by simp⟩
  · have hz : decide ((k : Int) < a.length) = false := by simp; omega
    simp only [hz, sameG_end (b := b) (Nat.le_of_not_lt h)]
    simp
theorem sm_loop (b1 b2 : Bool) (a b : List Rec) (hl : a.length ≤ 9223372036854775806) (he : a.length = b.length) (k : Nat) : LoopOk Tryz.prog 73 4 (loopAt Tryz.prog 73 4) ⟨smT b1 b2 a b k, [], []⟩ ((smO a b k).map (lout [0, 1] smS)) := by
  refine loop_vc Tryz.mixed (fun _ => rfl) (fun k => (vcSmL_eq b1 b2 a b k).mpr ?_) k
  unfold vcSmL
  by_cases h : k < a.length
  · have hz : decide ((k : Int) < a.length) = true := by simp; omega
    have hz2 : decide ((k : Int) < b.length) = true := by simp; omega
    have hw : IntKind.i64.wrap ((k : Int) + 1) = ((k + 1 : Nat) : Int) := by rw [wrap_i64 (by omega) (by omega)]; omega
    rw [sameF_step h, Int.toNat_natCast]
    simp only [hz, hz2, hw, List.map_map, Function.comp_def]
    unfold eqRc byL
    generalize ((a.getD k default).key.data.toList == (b.getD k default).key.data.toList) = q1
    generalize (List.map (fun (i : Nat) => UInt8.ofNat (Int.toNat (List.getD (a.getD k default).val i 0))) (List.range (a.getD k default).val.length) == List.map (fun (i : Nat) => UInt8.ofNat (Int.toNat (List.getD (b.getD k default).val i 0))) (List.range (b.getD k default).val.length)) = q2
    have n1 : ((a.getD k default).off != (b.getD k default).off) = !((a.getD k default).off == (b.getD k default).off) := rfl
    have n2 : ((a.getD k default).prod != (b.getD k default).prod) = !((a.getD k default).prod == (b.getD k default).prod) := rfl
    have n3 : ((a.getD k default).seq != (b.getD k default).seq) = !((a.getD k default).seq == (b.getD k default).seq) := rfl
    rw [n1, n2, n3]
    generalize ((a.getD k default).off == (b.getD k default).off) = q3
    generalize ((a.getD k default).prod == (b.getD k default).prod) = q4
    generalize ((a.getD k default).seq == (b.getD k default).seq) = q5
    cases q1 <;> cases q2 <;> cases q3 <;> cases q4 <;> cases q5 <;> simp
    exact ⟨k + 1, by omega, by omega, by simp⟩
  · have hz : decide ((k : Int) < a.length) = false := by simp; omega
    simp only [hz, sameF_end (b := b) (Nat.le_of_not_lt h)]
    simp
end Go.Proofs.YtnbhdjadlbhknaaGreatDoor.R

namespace Go.Proofs.YtnbhdjadlbhknaaGreatDoor.P
open Go.Ax
set_option maxRecDepth 1000000
noncomputable def sameN (b1 b2 : Bool) (a b : List Producer) : Ctr Tryz.prog := ⟨74, [encPs b1 a, encPs b2 b], [], .need (a.length ≤ 9223372036854775806) (smR a b), T.Sat.need fun h => same_c b1 b2 a b h⟩
structure Two where
  a : List Producer
  b : List Producer
  ta : List Int
  tb : List Int
structure Two.Ok (x : Two) : Prop where
  a : x.a.length * 32 ≤ 140737488355200
  b : x.b.length * 32 ≤ 140737488355200
  ta : x.ta.length ≤ 9223372036854775806
  tb : x.tb.length ≤ 9223372036854775806
  oa : ∀ y ∈ x.a, 0 ≤ y.offset ∧ y.offset < 18446744073709551616
  ob : ∀ y ∈ x.b, 0 ≤ y.offset ∧ y.offset < 18446744073709551616
end Go.Proofs.YtnbhdjadlbhknaaGreatDoor.P

namespace Go.Proofs.YtnbhdjadlbhknaaGreatDoor.R
open Go.Ax
set_option maxRecDepth 1000000
def sameRs (a b : List Rec) : Bool := (a.length == b.length) && sameF a b 0
def sameCs (a b : List Con) : Bool := (a.length == b.length) && sameG a b 0
noncomputable def smH (b1 b2 : Bool) (a b : List Rec) : HintsT Tryz.prog := hh _ (lp1 73 4 (jobOf (smT b1 b2 a b) (fun _ => []) [0, 1] (smO a b) smS 0) noLp) noCs noOp
def vcSm (b1 : Bool) (b2 : Bool) (a : List Rec) (b : List Rec) : Prop :=
  (((↑(List.length a) : Int) != (↑(List.length b) : Int)) = true → false = sameRs a b ∧ True) ∧ (((↑(List.length a) : Int) != (↑(List.length b) : Int)) = false → (((b1 = b1 ∧ List.length a = List.length a ∧ contLe (List.length a) (5 : Nat) (cellsOf' encR a) (cellsOf' encR a)) ∧ (b2 = b2 ∧ List.length b = List.length b ∧ contLe (List.length b) (5 : Nat) (cellsOf' encR b) (cellsOf' encR b)) ∧ false = false ∧ (0 : Int) = (0 : Int) ∧ True) ∧ True ∧ true = true) ∧ LoopOk Tryz.prog (73 : Nat) (4 : Nat) (loopAt Tryz.prog (73 : Nat) (4 : Nat)) { t := smT b1 b2 a b (0 : Nat), m := [], mv := [] : St } (T.map (lout [(0 : Nat), (1 : Nat)] smS) (smO a b (0 : Nat))) ∧ (sameF a b (0 : Nat) = true → true = sameRs a b ∧ True) ∧ (sameF a b (0 : Nat) = false → false = sameRs a b ∧ True))
theorem vcSm_eq (b1 : Bool) (b2 : Bool) (a : List Rec) (b : List Rec) : (ctrVC Tryz.prog (smH b1 b2 a b) 73 [encRs b1 a, encRs b2 b] [] (boolR (sameRs a b))) = vcSm b1 b2 a b := by kernel_rfl
noncomputable def scH (b1 b2 : Bool) (a b : List Con) : HintsT Tryz.prog := hh _ (lp1 75 4 (jobOf (scT b1 b2 a b) (fun _ => []) [0, 1] (scO a b) scS 0) noLp) noCs noOp
def vcSc (b1 : Bool) (b2 : Bool) (a : List Con) (b : List Con) : Prop :=
  (((↑(List.length a) : Int) != (↑(List.length b) : Int)) = true → false = sameCs a b ∧ True) ∧ (((↑(List.length a) : Int) != (↑(List.length b) : Int)) = false → (((b1 = b1 ∧ List.length a = List.length a ∧ contLe (List.length a) (2 : Nat) (cellsOf' encC a) (cellsOf' encC a)) ∧ (b2 = b2 ∧ List.length b = List.length b ∧ contLe (List.length b) (2 : Nat) (cellsOf' encC b) (cellsOf' encC b)) ∧ false = false ∧ (0 : Int) = (0 : Int) ∧ True) ∧ True ∧ true = true) ∧ LoopOk Tryz.prog (75 : Nat) (4 : Nat) (loopAt Tryz.prog (75 : Nat) (4 : Nat)) { t := scT b1 b2 a b (0 : Nat), m := [], mv := [] : St } (T.map (lout [(0 : Nat), (1 : Nat)] scS) (scO a b (0 : Nat))) ∧ (sameG a b (0 : Nat) = true → true = sameCs a b ∧ True) ∧ (sameG a b (0 : Nat) = false → false = sameCs a b ∧ True))
theorem vcSc_eq (b1 : Bool) (b2 : Bool) (a : List Con) (b : List Con) : (ctrVC Tryz.prog (scH b1 b2 a b) 75 [encCs b1 a, encCs b2 b] [] (boolR (sameCs a b))) = vcSc b1 b2 a b := by kernel_rfl
theorem sm_c (b1 b2 : Bool) (a b : List Rec) (hl : a.length ≤ 9223372036854775806) : (boolR (sameRs a b)).Sat (ACall' Tryz.prog 73 [encRs b1 a, encRs b2 b] []) := by
  refine ctr_vc (ht := smH b1 b2 a b) Tryz.mixed rfl ?_
  rw [vcSm_eq b1 b2 a b]
  unfold vcSm
  by_cases he : a.length = b.length
  · have := sm_loop b1 b2 a b hl he 0
    simp [sameRs, he, this]
  · have he' : ¬ ((a.length : Int) = b.length) := by omega
    simp [sameRs, he, he']
theorem sc_c (b1 b2 : Bool) (a b : List Con) (hl : a.length ≤ 9223372036854775806) : (boolR (sameCs a b)).Sat (ACall' Tryz.prog 75 [encCs b1 a, encCs b2 b] []) := by
  refine ctr_vc (ht := scH b1 b2 a b) Tryz.mixed rfl ?_
  rw [vcSc_eq b1 b2 a b]
  unfold vcSc
  by_cases he : a.length = b.length
  · have := sc_loop b1 b2 a b hl he 0
    simp [sameCs, he, this]
  · have he' : ¬ ((a.length : Int) = b.length) := by omega
    simp [sameCs, he, he']
end Go.Proofs.YtnbhdjadlbhknaaGreatDoor.R

namespace Go.Proofs.YtnbhdjadlbhknaaGreatDoor.R
open Go.Ax
set_option maxRecDepth 1000000
noncomputable def smC (b1 b2 : Bool) (a b : List Rec) : Ctr Tryz.prog := ⟨73, [encRs b1 a, encRs b2 b], [], .need (a.length ≤ 9223372036854775806) (boolR (sameRs a b)), T.Sat.need fun h => sm_c b1 b2 a b h⟩
noncomputable def scC' (b1 b2 : Bool) (a b : List Con) : Ctr Tryz.prog := ⟨75, [encCs b1 a, encCs b2 b], [], .need (a.length ≤ 9223372036854775806) (boolR (sameCs a b)), T.Sat.need fun h => sc_c b1 b2 a b h⟩
def samePt (p q : Part) : Bool := sameRs p.recs q.recs && (P.sameP p.prods q.prods && (sameCs p.cons q.cons && ((p.rng.lo.data.toList == q.rng.lo.data.toList && p.rng.hi.data.toList == q.rng.hi.data.toList) && (p.epoch == q.epoch && p.frozen == q.frozen))))
noncomputable def sptH (b1 b2 : Bool) (p q : Part) : HintsT Tryz.prog := hh _ noLp (cs1 19 1 4 (smC b1 b2 p.recs q.recs) (cs1 19 2 4 (P.sameN b1 b2 p.prods q.prods) (cs1 19 3 4 (scC' b1 b2 p.cons q.cons) noCs))) noOp
def vcSpt (b1 : Bool) (b2 : Bool) (p : Part) (q : Part) : Prop :=
  ((b1 = b1 ∧ List.length p.recs = List.length p.recs ∧ contLe (List.length p.recs) (5 : Nat) (cellsOf' encR p.recs) (cellsOf' encR p.recs)) ∧ (b2 = b2 ∧ List.length q.recs = List.length q.recs ∧ contLe (List.length q.recs) (5 : Nat) (cellsOf' encR q.recs) (cellsOf' encR q.recs)) ∧ True) ∧ True ∧ List.length p.recs ≤ (9223372036854775806 : Nat) ∧ ((b1 = b1 ∧ List.length p.prods = List.length p.prods ∧ contLe (List.length p.prods) (4 : Nat) (cellsOf' P.encP p.prods) (cellsOf' P.encP p.prods)) ∧ (b2 = b2 ∧ List.length q.prods = List.length q.prods ∧ contLe (List.length q.prods) (4 : Nat) (cellsOf' P.encP q.prods) (cellsOf' P.encP q.prods)) ∧ True) ∧ True ∧ List.length p.prods ≤ (9223372036854775806 : Nat) ∧ ((b1 = b1 ∧ List.length p.cons = List.length p.cons ∧ contLe (List.length p.cons) (2 : Nat) (cellsOf' encC p.cons) (cellsOf' encC p.cons)) ∧ (b2 = b2 ∧ List.length q.cons = List.length q.cons ∧ contLe (List.length q.cons) (2 : Nat) (cellsOf' encC q.cons) (cellsOf' encC q.cons)) ∧ True) ∧ True ∧ List.length p.cons ≤ (9223372036854775806 : Nat) ∧ (sameRs p.recs q.recs = true → (P.sameP p.prods q.prods = true → (sameCs p.cons q.cons = true → ((p.rng.lo.data.toList == q.rng.lo.data.toList && (p.rng.hi.data.toList == q.rng.hi.data.toList && true)) = true → ((p.epoch == q.epoch) = true → (p.frozen == q.frozen) = samePt p q ∧ True) ∧ ((p.epoch == q.epoch) = false → false = samePt p q ∧ True)) ∧ ((p.rng.lo.data.toList == q.rng.lo.data.toList && (p.rng.hi.data.toList == q.rng.hi.data.toList && true)) = false → false = samePt p q ∧ True)) ∧ (sameCs p.cons q.cons = false → false = samePt p q ∧ True)) ∧ (P.sameP p.prods q.prods = false → false = samePt p q ∧ True)) ∧ (sameRs p.recs q.recs = false → false = samePt p q ∧ True)
theorem vcSpt_eq (b1 : Bool) (b2 : Bool) (p : Part) (q : Part) : (ctrVC Tryz.prog (sptH b1 b2 p q) 19 [.agg (encPt b1 p), .agg (encPt b2 q)] [] (boolR (samePt p q))) = vcSpt b1 b2 p q := by kernel_rfl
theorem spt_c (b1 b2 : Bool) (p q : Part) (h : PartIn p) : (boolR (samePt p q)).Sat (ACall' Tryz.prog 19 [.agg (encPt b1 p), .agg (encPt b2 q)] []) := by
  refine ctr_vc (ht := sptH b1 b2 p q) Tryz.mixed rfl ?_
  rw [vcSpt_eq b1 b2 p q]
  unfold vcSpt samePt
  have h1 := h.rl
  have h2 := h.pl
  have h3 := h.cl
  have g1 : p.recs.length ≤ 9223372036854775806 := by omega
  have g2 : p.prods.length ≤ 9223372036854775806 := by omega
  have g3 : p.cons.length ≤ 9223372036854775806 := by omega
  generalize sameRs p.recs q.recs = q1
  generalize P.sameP p.prods q.prods = q2
  generalize sameCs p.cons q.cons = q3
  generalize (p.rng.lo.data.toList == q.rng.lo.data.toList) = q4
  generalize (p.rng.hi.data.toList == q.rng.hi.data.toList) = q5
  generalize (p.epoch == q.epoch) = q6
  generalize (p.frozen == q.frozen) = q7
  cases q1 <;> cases q2 <;> cases q3 <;> cases q4 <;> cases q5 <;> cases q6 <;> simp [g1, g2, g3]
end Go.Proofs.YtnbhdjadlbhknaaGreatDoor.R

namespace Go.Proofs.YtnbhdjadlbhknaaGreatDoor.R
open Go.Ax
set_option maxRecDepth 1000000
def kS : ByteArray := ⟨#[107]⟩
def q0 : Part := ⟨⟨ByteArray.empty, ByteArray.empty⟩, 1, 0, [⟨0, kS, [118], 7, 1⟩], [⟨7, 1, true, 0⟩], []⟩
end Go.Proofs.YtnbhdjadlbhknaaGreatDoor.R

namespace Go.Proofs.YtnbhdjadlbhknaaGreatDoor.P
open Go.Ax
set_option maxRecDepth 1000000
theorem find_of {l : List Producer} {id : Int} (h : findI l id = true) : findD l id ∈ l ∧ (findD l id).id = id := by
  unfold findI at h
  unfold findD
  cases hf : l.find? (has id) with
  | none => rw [hf] at h; cases h
  | some x =>
    have h1 := List.find?_some hf
    have h2 := List.mem_of_find?_eq_some hf
    exact ⟨h2, by simpa [has] using h1⟩
def fresh (l : List Producer) (id seq : Int) : Prop := ∀ x ∈ l, x.id = id → x.seq < seq
end Go.Proofs.YtnbhdjadlbhknaaGreatDoor.P

namespace Go.Proofs.YtnbhdjadlbhknaaGreatDoor.D
open Go.Ax
set_option maxRecDepth 1000000
theorem snoc_ind {α : Type} {P : List α → Prop} (h0 : P []) (h1 : ∀ l x, P l → P (l ++ [x])) (l : List α) : P l := by
  rw [← List.reverse_reverse l]
  induction l.reverse with
  | nil => exact h0
  | cons x r ih => rw [List.reverse_cons]; exact h1 _ _ ih
theorem sel_put (s : Kn) (a b x : Int) : Kn.sel (Kn.put s a b) x = if a = x then b else Kn.sel s x := by
  unfold Kn.sel Kn.put updHas updC selI
  by_cases h : a = x
  · simp [h]
  · simp [h]
theorem knR_app (l : List Rec) (x : Rec) : knR (l ++ [x]) = (knR l).put x.prod x.seq := by simp [knR]
theorem knR_sel (l : List Rec) (a : Int) : (Kn.sel (knR l) a = 0 ∧ ∀ x ∈ l, x.prod ≠ a) ∨ ∃ x ∈ l, x.prod = a ∧ Kn.sel (knR l) a = x.seq := by
  refine snoc_ind (P := fun l => (Kn.sel (knR l) a = 0 ∧ ∀ x ∈ l, x.prod ≠ a) ∨ ∃ x ∈ l, x.prod = a ∧ Kn.sel (knR l) a = x.seq) ?_ ?_ l
  · exact .inl ⟨rfl, fun x hx => by cases hx⟩
  · intro l x ih
    rw [knR_app, sel_put]
    by_cases h : x.prod = a
    · rw [if_pos h]; exact .inr ⟨x, by simp, h, rfl⟩
    · rw [if_neg h]
      rcases ih with ⟨h1, h2⟩ | ⟨y, h1, h2, h3⟩
      · refine .inl ⟨h1, fun y hy => ?_⟩
        rcases List.mem_append.1 hy with hy | hy
        · exact h2 y hy
        · simp at hy; subst hy; exact h
      · exact .inr ⟨y, by simp [h1], h2, h3⟩
def up1 (x y : Rec) : Prop := x.prod = y.prod → x.seq < y.seq
def recOk (g : Rng) (K : Kn) (x : Rec) : Prop := hasK g x.key = true ∧ 0 < x.seq ∧ x.seq ≤ Kn.sel K x.prod
def ordL (g : Rng) (K : Kn) (l : List Rec) : Prop := (∀ x ∈ l, recOk g K x) ∧ l.Pairwise up1
theorem orFrom_all (p : Part) : ∀ n k, p.recs.length - k = n → (orFrom p k = true ↔ ∀ j, k ≤ j → j < p.recs.length → okO p j = true) := by
  intro n
  induction n with
  | zero =>
    intro k hk
    rw [orFrom_end (by omega)]
    exact ⟨fun _ j h1 h2 => by omega, fun _ => rfl⟩
  | succ n ih =>
    intro k hk
    rw [orFrom_step (by omega), Bool.and_eq_true, ih (k + 1) (by omega)]
    constructor
    · rintro ⟨h1, h2⟩ j h3 h4
      rcases Nat.eq_or_lt_of_le h3 with rfl | h5
      · exact h1
      · exact h2 j h5 h4
    · intro h
      exact ⟨h k (Nat.le_refl _) (by omega), fun j h1 h2 => h j (by omega) h2⟩
theorem okO_iff {p : Part} {k : Nat} (h : k < p.recs.length) : okO p k = true ↔ hasK p.rng p.recs[k].key = true ∧ Kn.sel (knR (p.recs.take k)) p.recs[k].prod < p.recs[k].seq ∧ p.recs[k].seq ≤ Kn.sel (knP p.prods) p.recs[k].prod := by
  unfold okO
  simp [List.getElem?_eq_getElem h]
theorem knR_le {g : Rng} {K : Kn} : ∀ {l : List Rec}, ordL g K l → ∀ x ∈ l, x.seq ≤ Kn.sel (knR l) x.prod := by
  intro l
  refine snoc_ind (P := fun l => ordL g K l → ∀ x ∈ l, x.seq ≤ Kn.sel (knR l) x.prod) ?_ ?_ l
  · intro _ x hx; cases hx
  · intro l y ih h x hx
    rw [knR_app, sel_put]
    have h2 : ordL g K l := ⟨fun z hz => h.1 z (by simp [hz]), (List.pairwise_append.1 h.2).1⟩
    have h3 := (List.pairwise_append.1 h.2).2.2
    rcases List.mem_append.1 hx with hx | hx
    · by_cases e : y.prod = x.prod
      · rw [if_pos e]
        have := h3 x hx y (by simp) e.symm
        omega
      · rw [if_neg e]; exact ih h2 x hx
    · simp at hx; subst hx; rw [if_pos rfl]; exact Int.le_refl _
theorem ord_take {p : Part} (h : ∀ j, j < p.recs.length → okO p j = true) : ∀ k, k ≤ p.recs.length → ordL p.rng (knP p.prods) (p.recs.take k) := by
  intro k
  induction k with
  | zero => intro _; exact ⟨fun x hx => by simp at hx, by simp⟩
  | succ k ih =>
    intro hk
    have ih := ih (by omega)
    obtain ⟨o1, o2, o3⟩ := (okO_iff (by omega)).1 (h k (by omega))
    rw [List.take_add_one, List.getElem?_eq_getElem (by omega)]
    have hs : ∀ x ∈ p.recs.take k, x.prod = p.recs[k].prod → x.seq < p.recs[k].seq := fun x hx e => by
      have := knR_le ih x hx
      rw [e] at this
      omega
    have h0 : 0 < p.recs[k].seq := by
      rcases knR_sel (p.recs.take k) p.recs[k].prod with ⟨q, _⟩ | ⟨x, hx, hx2, q⟩
      · omega
      · have := (ih.1 x hx).2.1
        omega
    refine ⟨fun x hx => ?_, ?_⟩
    · rcases List.mem_append.1 hx with hx | hx
      · exact ih.1 x hx
      · simp at hx; subst hx; exact ⟨o1, h0, o3⟩
    · refine List.pairwise_append.2 ⟨ih.2, by simp, fun x hx y hy => ?_⟩
      simp at hy; subst hy
      exact hs x hx
theorem or_iff (p : Part) : orFrom p 0 = true ↔ ordL p.rng (knP p.prods) p.recs := by
  rw [orFrom_all p _ 0 rfl]
  constructor
  · intro h
    have := ord_take (fun j hj => h j (Nat.zero_le _) hj) p.recs.length (Nat.le_refl _)
    rwa [List.take_length] at this
  · intro h j _ hj
    have hx := h.1 p.recs[j] (List.getElem_mem hj)
    refine (okO_iff hj).2 ⟨hx.1, ?_, hx.2.2⟩
    rcases knR_sel (p.recs.take j) p.recs[j].prod with ⟨q, _⟩ | ⟨x, h1, h2, q⟩
    · have := hx.2.1; omega
    · rw [q]
      have hp := h.2
      rw [← List.take_append_drop j p.recs] at hp
      refine (List.pairwise_append.1 hp).2.2 x h1 _ ?_ h2
      rw [List.mem_iff_getElem]
      exact ⟨0, by simp; omega, by simp⟩
end Go.Proofs.YtnbhdjadlbhknaaGreatDoor.D

namespace Go.Proofs.YtnbhdjadlbhknaaGreatDoor.D
open Go.Ax
set_option maxRecDepth 1000000
theorem logFrom_all (l : List Rec) : logFrom l 0 = true ↔ ∀ k, k < l.length → okR (l.getD k default) k = true := by
  unfold logFrom
  rw [List.all_eq_true]
  constructor
  · intro h k hk; exact h k (by simp; omega)
  · intro h k hk
    simp at hk
    exact h k (by omega)
theorem log_mem {l : List Rec} (h : isLog l = true) : ∀ x ∈ l, x.key.size ≤ 32 ∧ x.val.length ≤ 256 := by
  intro x hx
  obtain ⟨k, hk, rfl⟩ := List.mem_iff_getElem.1 hx
  simp only [isLog, Bool.and_eq_true] at h
  have := (logFrom_all l).1 h.1 k hk
  simp [okR, hk] at this
  exact ⟨by omega, by omega⟩
theorem map_len (l : List Con) (to : List Int) (h : to.length ≠ 0) : (mapU l to l.length).length = l.length := by
  simp [mapU, h]
theorem map_at {l : List Con} {to : List Int} (h : to.length ≠ 0) {k : Nat} (hk : k < l.length) : (mapU l to l.length).getD k default = movC to (l.getD k default) := by
  simp [mapU, h, hk]
theorem cons_iff (l : List Con) : coFrom l 0 = true ↔ ∀ k, k < l.length → coOk l k = true := by
  unfold coFrom
  rw [List.all_eq_true]
  constructor
  · intro h k hk; exact h k (by simp; omega)
  · intro h k hk
    simp at hk
    exact h k (by omega)
theorem map_cons {l : List Con} {to : List Int} (ht : to.length ≠ 0) (h : isCons l = true) : isCons (mapU l to l.length) = true := by
  simp only [isCons, Bool.and_eq_true, decide_eq_true_eq] at h ⊢
  rw [map_len l to ht]
  refine ⟨(cons_iff _).2 fun k hk => ?_, h.2⟩
  rw [map_len l to ht] at hk
  have h1 := (cons_iff _).1 h.1 k hk
  unfold coOk at *
  rw [map_at ht hk]
  by_cases h0 : 0 < k
  · rw [map_at ht (show k - 1 < l.length by omega)]
    exact h1
  · simp only [h0, decide_false, Bool.false_and] at h1 ⊢
    exact h1
theorem lost_all {p : Part} : p.prods.any (lostB p) = false ↔ ∀ x ∈ p.prods, lostB p x = false := by
  rw [List.any_eq_false]
  constructor
  · intro h x hx; simpa using h x hx
  · intro h x hx; simp [h x hx]
end Go.Proofs.YtnbhdjadlbhknaaGreatDoor.D

namespace Go.Proofs.YtnbhdjadlbhknaaGreatDoor.R
open Go.Ax
set_option maxRecDepth 1000000
theorem take_zero {l : List P.Producer} {x : P.Producer} : P.takeE l x = 0 ↔ P.isTable l = true ∧ P.judgeV l x.id x.seq = 1 ∧ (P.findI l x.id = true ∨ ¬ l.length = 256) := by
  unfold P.takeE
  by_cases ht : P.isTable l = true
  · by_cases h4 : P.judgeV l x.id x.seq = 4
    · simp [ht, h4]
    · by_cases h5 : P.judgeV l x.id x.seq = 1
      · cases hf : P.findI l x.id
        · by_cases hn : l.length = 256
          · simp [ht, h5, hn]
          · simp [ht, h5, hn]
        · simp [ht, h5]
      · simp [ht, h4, h5]
  · simp [ht]
theorem cons_name {l : List Con} (h : isCons l = true) : ∀ z ∈ l, nameOk z.name = true := by
  intro z hz
  obtain ⟨k, hk, rfl⟩ := List.mem_iff_getElem.1 hz
  simp only [isCons, Bool.and_eq_true] at h
  have := (D.cons_iff l).1 h.1 k hk
  simp [coOk, hk] at this
  exact this.1
theorem ok_un {p : Part} (h : partOk p = true) : chkK p.rng = 0 ∧ p.epoch ≠ 0 ∧ isLog p.recs = true ∧ P.isTable p.prods = true ∧ isCons p.cons = true ∧ D.ordL p.rng (knP p.prods) p.recs ∧ (∀ x ∈ p.prods, lostB p x = false) ∧ ∀ x ∈ p.cons, x.off ≤ (p.recs.length : Nat) := by
  obtain ⟨a, b, c, d, e, f, g, i⟩ := D.ok_parts h
  refine ⟨a, b, c, d, e, (D.or_iff p).1 f, D.lost_all.1 g, fun x hx => ?_⟩
  rw [List.any_eq_false] at i
  have := i x hx
  simp [aheadB] at this; exact this
theorem same_refl (p : Part) : samePt p p = true := by
  have h1 : sameRs p.recs p.recs = true := by
    simp [sameRs, sameF, eqRc]
  have h2 : P.sameP p.prods p.prods = true := by
    unfold P.sameP P.sameFrom; simp [P.eqP]
  have h3 : sameCs p.cons p.cons = true := by
    simp [sameCs, sameG, eqCc]
  simp [samePt, h1, h2, h3]
end Go.Proofs.YtnbhdjadlbhknaaGreatDoor.R

namespace Go.Proofs.YtnbhdjadlbhknaaGreatDoor.J
open Go.Ax
set_option maxRecDepth 1000000
theorem rok_def {l : List Int} (h : RlOk l) : ROk l default := rok0 h.n h.b
theorem done_zero {l : List Int} {s : RS} (h : doneE l s = 0) : s.e = 0 ∧ l.length ≤ s.at_ := by
  unfold doneE at h
  by_cases h0 : s.e = 0 ∧ s.at_ < l.length
  · rw [if_pos h0] at h; exact absurd h (by decide)
  · rw [if_neg h0] at h
    exact ⟨h, by by_cases h1 : s.at_ < l.length
                 · exact absurd ⟨h, h1⟩ h0
                 · omega⟩
theorem done_all {l : List Int} {n : Nat} {b : Int} (h : n = l.length) : doneE l ⟨n, 0, b⟩ = 0 := by
  unfold doneE
  rw [if_neg (by simp; omega)]
theorem cdc_all {α : Type} {l : List Int} {f : RS → α × RS} {enc : α → List Int} {ok : α → Prop} (hf : Cdc l f enc ok) (h : RlOk l) (hd : doneE l (f default).2 = 0) : ok (f default).1 ∧ l = enc (f default).1 := by
  obtain ⟨h0, h1⟩ := done_zero hd
  obtain ⟨a1, a2, a3, r, a4⟩ := hf.bwd default (rok_def h) h0
  have a4 : l = enc (f default).1 ++ r := a4
  rw [a3] at h1
  have h2 := congrArg List.length a4
  rw [List.length_append] at h2
  have h3 : r = [] := List.eq_nil_of_length_eq_zero (by
    have : (default : RS).at_ = 0 := rfl
    rw [this] at h1
    simp only at h1
    omega)
  refine ⟨a2, ?_⟩
  rw [h3, List.append_nil] at a4
  exact a4
theorem cdc_none {α : Type} {x : α} {enc : α → List Int} {f : RS → α × RS} {ok : α → Prop} (hf : Cdc (enc x) f enc ok) (h : RlOk (enc x)) (ho : ok x) : f default = (x, ⟨(enc x).length, 0, 0⟩) ∧ doneE (enc x) (f default).2 = 0 := by
  have h1 := hf.fwd default x [] (rok_def h) rfl ho (by simp; rfl)
  have h2 : f default = (x, ⟨(enc x).length, 0, 0⟩) := h1.trans (by
    have : (default : RS).at_ = 0 := rfl
    have h3 : (default : RS).bad = 0 := rfl
    rw [this, h3, Nat.zero_add])
  exact ⟨h2, by rw [h2]; exact done_all rfl⟩
theorem Bytes.app {a b : List Int} (ha : Bytes a) (hb : Bytes b) : Bytes (a ++ b) := ⟨fun x hx => by
  rcases List.mem_append.1 hx with hx | hx
  · exact ha.b x hx
  · exact hb.b x hx⟩
theorem Bytes.nil : Bytes [] := ⟨fun x hx => absurd hx (by simp)⟩
theorem Bytes.flat {α : Type} {f : α → List Int} : ∀ {l : List α}, (∀ x ∈ l, Bytes (f x)) → Bytes (l.flatMap f)
  | [], _ => Bytes.nil
  | a :: l, h => by
    rw [List.flatMap_cons]
    exact (h a (by simp)).app (Bytes.flat fun x hx => h x (by simp [hx]))
theorem vint_bytes : ∀ (f : Nat) (v : Int), 0 ≤ v → v < 128 ^ (f + 1) → Bytes (vint f v)
  | 0, v, h0, h1 => ⟨fun x hx => by
    obtain rfl := List.mem_singleton.1 hx
    simp at h1
    omega⟩
  | f + 1, v, h0, h1 => by
    by_cases h : v < 128
    · rw [vint_end h]
      exact ⟨fun x hx => by
        obtain rfl := List.mem_singleton.1 hx
        omega⟩
    · rw [vint_step (by omega)]
      have : (128 : Int) ^ (f + 1 + 1) = 128 ^ (f + 1) * 128 := Int.pow_succ 128 (f + 1)
      rw [this] at h1
      have := vint_bytes f (v / 128) (by omega) (by omega)
      exact ⟨fun x hx => by
        rcases List.mem_cons.1 hx with rfl | hx
        · omega
        · exact this.b x hx⟩
theorem u_bytes {v : Int} (h : U64 v) : Bytes (uintB v) := vint_bytes 10 v h.lo (by
  have e : (128 : Int) ^ (10 + 1) = 151115727451828646838272 := by decide
  have := h.hi
  omega)
theorem zig_u {v : Int} (h : I64 v) : U64 (zig v) := ⟨zig0, by unfold zig; have := h.lo; have := h.hi; split <;> omega⟩
theorem i_bytes {v : Int} (h : I64 v) : Bytes (intB v) := u_bytes (zig_u h)
theorem t_bytes {t : List Int} (h : Bytes t) (hl : t.length ≤ 140737488355327) : Bytes (textB t) := (u_bytes ⟨by omega, by omega⟩).app h
theorem s_bytes {s : ByteArray} (hl : s.size ≤ 140737488355327) : Bytes (textB (strB s)) := t_bytes (strB_bytes s) (by rw [strB_len]; exact hl)
theorem b_bytes (b : Bool) : Bytes (boolB b) := ⟨fun x hx => by
  obtain rfl := List.mem_singleton.1 hx
  split <;> omega⟩
theorem rec_bytes {x : Rec} (h : RecOk x) : Bytes (recB x) := ((((u_bytes h.u.off).app (s_bytes (by have := h.k; omega))).app (t_bytes h.b (by have := h.v; omega))).app (u_bytes h.u.prod)).app (u_bytes h.u.seq)
theorem list_bytes {l : List Rec} {m : Int} (hm : m ≤ 100000) (h : LstOk m RecOk l) : Bytes (listB l) := (u_bytes ⟨by omega, by have := h.n; omega⟩).app (Bytes.flat fun x hx => rec_bytes (h.ok x hx))
theorem flat_len {α : Type} {f : α → List Int} {k : Nat} : ∀ {l : List α}, (∀ x ∈ l, (f x).length ≤ k) → (l.flatMap f).length ≤ l.length * k
  | [], _ => by simp
  | a :: l, h => by
    have h1 := h a (by simp)
    have h2 := flat_len (l := l) fun x hx => h x (by simp [hx])
    rw [List.flatMap_cons, List.length_append, List.length_cons, Nat.succ_mul]
    omega
theorem rec_len {x : Rec} (h : RecOk x) : (recB x).length ≤ 343 := by
  have h1 := uintB_len x.off
  have h2 := textS_len x.key
  have h3 := textB_len x.val
  have h4 := uintB_len x.prod
  have h5 := uintB_len x.seq
  have := h.k
  have := h.v
  simp only [recB, List.length_append]
  omega
theorem list_len {l : List Rec} {m : Int} (h : LstOk m RecOk l) (hm : m ≤ 4096) : (listB l).length ≤ 1404940 := by
  have h1 := uintB_len (l.length : Int)
  have h2 := flat_len (f := recB) (l := l) fun x hx => rec_len (h.ok x hx)
  have h3 := h.n
  have h4 : l.length * 343 ≤ 4096 * 343 := Nat.mul_le_mul_right _ (by omega)
  simp only [listB, List.length_append]
  omega
structure StOk (p : Part) : Prop where
  rng : RngOk p.rng
  epoch : U64 p.epoch
  frozen : U64 p.frozen
  recs : LstOk 4096 RecOk p.recs
  prods : LstOk 256 ProdU p.prods
  cons : LstOk 64 ConOk p.cons
def stS (l : List Int) (s : RS) : Part × RS :=
  let g := rngS l s; let e := uintS l g.2; let f := uintS l e.2; let r := listS l f.2 4096; let p := prodsS l r.2; let c := consS l p.2
  (⟨g.1, e.1, f.1, r.1, p.1, c.1⟩, c.2)
theorem cdc_st (l : List Int) : Cdc l (stS l) bytesB StOk := by
  have h := ((cdc_rng l).pair ((cdc_uint l).pair ((cdc_uint l).pair ((cdc_list l 4096).pair ((cdc_many (cdc_prod l) (fun x _ => prodB_pos x) 256).pair (cdc_many (cdc_con l) (fun x _ => conB_pos x) 64)))))).map (β := Part) (fun a => ⟨a.1, a.2.1, a.2.2.1, a.2.2.2.1, a.2.2.2.2.1, a.2.2.2.2.2⟩) (fun x => (x.rng, x.epoch, x.frozen, x.recs, x.prods, x.cons)) (eb := bytesB) (ob := StOk) (fun x => rfl)
    (fun a ha => ⟨by simp [bytesB, hdB, prodsB, consB], ha.1, ha.2.1, ha.2.2.1, ha.2.2.2.1, ha.2.2.2.2.1, ha.2.2.2.2.2⟩) (fun x hx => ⟨hx.rng, hx.epoch, hx.frozen, hx.recs, hx.prods, hx.cons⟩)
  exact h.of fun s => rfl
theorem st_raw (l : List Int) : rpRaw l = stS l default := by simp only [rpRaw, hdS, stS]
theorem prod_len (x : P.Producer) : (prodB x).length ≤ 34 := by
  have h1 := uintB_len x.id
  have h2 := uintB_len x.seq
  have h3 := uintB_len x.offset
  have h4 := boolB_len x.here
  simp only [prodB, List.length_append]
  omega
theorem con_len {x : Con} (h : ConOk x) : (conB x).length ≤ 54 := by
  have h1 := textS_len x.name
  have h2 := uintB_len x.off
  have := h.n
  simp only [conB, List.length_append]
  omega
theorem st_len {p : Part} (h : StOk p) : (bytesB p).length ≤ 2000000 := by
  have h1 := textS_len p.rng.lo
  have h2 := textS_len p.rng.hi
  have h3 := uintB_len p.epoch
  have h4 := uintB_len p.frozen
  have h5 := list_len h.recs (by decide)
  have h6 := uintB_len (p.prods.length : Int)
  have h7 := flat_len (f := prodB) (l := p.prods) fun x _ => prod_len x
  have h8 := uintB_len (p.cons.length : Int)
  have h9 := flat_len (f := conB) (l := p.cons) fun x hx => con_len (h.cons.ok x hx)
  have := h.rng.lo
  have := h.rng.hi
  have := h.prods.n
  have := h.cons.n
  have : p.prods.length * 34 ≤ 256 * 34 := Nat.mul_le_mul_right _ (by omega)
  have : p.cons.length * 54 ≤ 64 * 54 := Nat.mul_le_mul_right _ (by omega)
  simp only [bytesB, hdB, prodsB, consB, rngB, List.length_append]
  omega
theorem st_bytes {p : Part} (h : StOk p) : Bytes (bytesB p) := by
  have h1 : Bytes (rngB p.rng) := (s_bytes (by have := h.rng.lo; omega)).app (s_bytes (by have := h.rng.hi; omega))
  have h2 : Bytes (prodsB p.prods) := (u_bytes ⟨by omega, by have := h.prods.n; omega⟩).app (Bytes.flat fun x hx => (((u_bytes (h.prods.ok x hx).id).app (u_bytes (h.prods.ok x hx).seq)).app (b_bytes x.here)).app (u_bytes (h.prods.ok x hx).offset))
  have h3 : Bytes (consB p.cons) := (u_bytes ⟨by omega, by have := h.cons.n; omega⟩).app (Bytes.flat fun x hx => (s_bytes (by have := (h.cons.ok x hx).n; omega)).app (u_bytes (h.cons.ok x hx).o))
  exact ((((h1.app (u_bytes h.epoch)).app (u_bytes h.frozen)).app (list_bytes (by decide) h.recs)).app h2).app h3
theorem mem_getD {α : Type} [Inhabited α] {l : List α} {k : Nat} (h : k < l.length) : l.getD k default ∈ l := by
  simp only [List.getD, List.getElem?_eq_getElem h, Option.getD_some]
  exact List.getElem_mem h
theorem st_u {p : Part} (h : StOk p) : PtU p := ⟨h.epoch, h.frozen, fun k hk => (h.recs.ok _ (mem_getD hk)).u, fun k hk => h.prods.ok _ (mem_getD hk), fun k hk => (h.cons.ok _ (mem_getD hk)).o, ⟨by have := st_len h; omega⟩⟩
theorem st_rl {p : Part} (h : StOk p) : RlOk (bytesB p) := ⟨⟨by have := st_len h; omega⟩, st_bytes h⟩
theorem st_fwd {p : Part} (h : StOk p) (ho : partOk p = true) : rpS (bytesB p) = (p, 0) := by
  obtain ⟨h1, h2⟩ := cdc_none (cdc_st (bytesB p)) (st_rl h) h
  unfold rpS
  rw [st_raw, h1] at *
  rw [if_pos ⟨h2, ho⟩]
theorem st_bwd {b : List Int} (h : RlOk b) (h0 : (rpS b).2 = 0) : bytesB (rpS b).1 = b ∧ partOk (rpS b).1 = true ∧ StOk (rpS b).1 := by
  unfold rpS at h0 ⊢
  by_cases hc : doneE b (rpRaw b).2 = 0 ∧ partOk (rpRaw b).1 = true
  · rw [if_pos hc] at h0 ⊢
    obtain ⟨q1, q2⟩ := cdc_all (cdc_st b) h hc.1
    exact ⟨q2.symm, hc.2, q1⟩
  · rw [if_neg hc] at h0
    exact absurd h0 (by decide)
end Go.Proofs.YtnbhdjadlbhknaaGreatDoor.J

namespace Go.Proofs.YtnbhdjadlbhknaaGreatDoor.J
open Go.Ax
set_option maxRecDepth 1000000
theorem u_inj {v w : Int} {r q : List Int} (hv : U64 v) (hw : U64 w) (h : uintB v ++ r = uintB w ++ q) : v = w ∧ r = q := by
  have h1 := u_fwd hv r
  rw [h, u_fwd hw q] at h1
  have h2 : w = v := congrArg (fun x : Int × Int × Nat => x.2.1) h1
  subst h2
  exact ⟨rfl, List.append_cancel_left h⟩
theorem i_inj {v w : Int} {r q : List Int} (hv : I64 v) (hw : I64 w) (h : intB v ++ r = intB w ++ q) : v = w ∧ r = q := by
  obtain ⟨h1, h2⟩ := u_inj (zig_u hv) (zig_u hw) h
  have := congrArg zag h1
  rw [zag_zig, zag_zig] at this
  exact ⟨this, h2⟩
theorem t_inj {v w r q : List Int} (hv : v.length ≤ 140737488355327) (hw : w.length ≤ 140737488355327) (h : textB v ++ r = textB w ++ q) : v = w ∧ r = q := by
  unfold textB at h
  rw [List.append_assoc, List.append_assoc] at h
  obtain ⟨h1, h2⟩ := u_inj ⟨by omega, by omega⟩ ⟨by omega, by omega⟩ h
  exact List.append_inj h2 (by omega)
theorem s_inj {v w : ByteArray} {r q : List Int} (hv : v.size ≤ 140737488355327) (hw : w.size ≤ 140737488355327) (h : textB (strB v) ++ r = textB (strB w) ++ q) : v = w ∧ r = q := by
  obtain ⟨h1, h2⟩ := t_inj (by rw [strB_len]; exact hv) (by rw [strB_len]; exact hw) h
  have := congrArg strOf h1
  rw [strOf_strB, strOf_strB] at this
  exact ⟨this, h2⟩
structure CmT (c : R.Cmd) : Prop where
  u : CmdU c
  b : Bytes c.val
theorem cmd_len (c : R.Cmd) : (cmdB c).length ≤ c.key.size + c.val.length + c.name.size + 200 := by
  have a2 := uintB_len c.epoch
  have a3 := uintB_len c.prod
  have a4 := uintB_len c.seq
  have a5 := uintB_len c.off
  have a6 := textS_len c.key
  have a7 := textB_len c.val
  have a8 := textS_len c.name
  have a9 := intB_len c.most
  have a10 := uintB_len c.plan
  have a11 := intB_len c.kind
  unfold cmdB
  repeat' split
  all_goals simp only [List.length_append, List.length_nil]
  all_goals omega
theorem cmd_bytes {c : R.Cmd} (h : CmT c) : Bytes (cmdB c) := by
  obtain ⟨⟨h1, h2, h3, h4, h5, h6, h7, hn⟩, hb⟩ := h
  have k : Bytes (textB (strB c.key)) := s_bytes (by omega)
  have v : Bytes (textB c.val) := t_bytes hb (by omega)
  have n : Bytes (textB (strB c.name)) := s_bytes (by omega)
  have q : Bytes ([] ++ intB c.kind ++ uintB c.epoch) := (Bytes.nil.app (i_bytes h1)).app (u_bytes h2)
  unfold cmdB
  split
  · exact (((q.app (u_bytes h3)).app (u_bytes h4)).app k).app v
  · split
    · exact (q.app (u_bytes h5)).app (i_bytes h6)
    · split
      · exact (((q.app (u_bytes h3)).app (u_bytes h4)).app n).app (u_bytes h5)
      · split
        · exact q.app n
        · split
          · exact q.app (u_bytes h7)
          · exact Bytes.nil
theorem cmd_rl {c : R.Cmd} (h : CmT c) : RlOk (cmdB c) := ⟨⟨by have := cmd_len c; have := h.u.n; omega⟩, cmd_bytes h⟩
def cutC (c : R.Cmd) : R.Cmd :=
  if c.kind = 1 then ⟨c.kind, c.epoch, c.prod, c.seq, c.key, c.val, 0, 0, ByteArray.empty, 0⟩
  else if c.kind = 2 then ⟨c.kind, c.epoch, 0, 0, ByteArray.empty, [], c.off, c.most, ByteArray.empty, 0⟩
  else if c.kind = 3 then ⟨c.kind, c.epoch, c.prod, c.seq, ByteArray.empty, [], c.off, 0, c.name, 0⟩
  else if c.kind = 4 then ⟨c.kind, c.epoch, 0, 0, ByteArray.empty, [], 0, 0, c.name, 0⟩
  else ⟨c.kind, c.epoch, 0, 0, ByteArray.empty, [], 0, 0, ByteArray.empty, c.plan⟩
def encProduce (c : R.Cmd) : List Int := [] ++ intB c.kind ++ uintB c.epoch ++ uintB c.prod ++ uintB c.seq ++ textB (strB c.key) ++ textB c.val
theorem backProduce {l : List Int} (h : RlOk l) (hd : doneE l (rcProduce l).2 = 0) : (I64 (rcProduce l).1.kind ∧ U64 (rcProduce l).1.epoch ∧ U64 (rcProduce l).1.prod ∧ U64 (rcProduce l).1.seq ∧ (((rcProduce l).1.key.size : Int) ≤ 32 ∧ ((rcProduce l).1.key.size : Int) < 18446744073709551616) ∧ TxtOk 256 (rcProduce l).1.val) ∧ l = encProduce (rcProduce l).1 ∧ (rcProduce l).1.kind = rcKind l := by
  have hc := (cdc_int l).pair ((cdc_uint l).pair ((cdc_uint l).pair ((cdc_uint l).pair ((cdc_str l 32).pair (cdc_bytes l 256)))))
  obtain ⟨q1, q2⟩ := cdc_all hc h hd
  refine ⟨q1, q2.trans ?_, rfl⟩
  simp [encProduce, rcProduce]
theorem fwdProduce {c : R.Cmd} (h : RlOk (encProduce c)) (ho : I64 c.kind ∧ U64 c.epoch ∧ U64 c.prod ∧ U64 c.seq ∧ ((c.key.size : Int) ≤ 32 ∧ (c.key.size : Int) < 18446744073709551616) ∧ TxtOk 256 c.val) : rcProduce (encProduce c) = ((⟨c.kind, c.epoch, c.prod, c.seq, c.key, c.val, 0, 0, ByteArray.empty, 0⟩ : R.Cmd), ⟨(encProduce c).length, 0, 0⟩) ∧ rcKind (encProduce c) = c.kind := by
  have hc := (cdc_int (encProduce c)).pair ((cdc_uint (encProduce c)).pair ((cdc_uint (encProduce c)).pair ((cdc_uint (encProduce c)).pair ((cdc_str (encProduce c) 32).pair (cdc_bytes (encProduce c) 256)))))
  have h1 := hc.fwd default (c.kind, c.epoch, c.prod, c.seq, c.key, c.val) [] (rok_def h) rfl ho (by
    show encProduce c = _
    simp [encProduce])
  refine ⟨?_, congrArg (fun x => x.1.1) h1⟩
  refine (congrArg (fun x => ((⟨x.1.1, x.1.2.1, x.1.2.2.1, x.1.2.2.2.1, x.1.2.2.2.2.1, x.1.2.2.2.2.2, 0, 0, ByteArray.empty, 0⟩ : R.Cmd), x.2)) h1).trans ?_
  have : (default : RS).at_ = 0 := rfl
  have h3 : (default : RS).bad = 0 := rfl
  simp [this, h3, encProduce]
def encFetch (c : R.Cmd) : List Int := [] ++ intB c.kind ++ uintB c.epoch ++ uintB c.off ++ intB c.most
theorem backFetch {l : List Int} (h : RlOk l) (hd : doneE l (rcFetch l).2 = 0) : (I64 (rcFetch l).1.kind ∧ U64 (rcFetch l).1.epoch ∧ U64 (rcFetch l).1.off ∧ I64 (rcFetch l).1.most) ∧ l = encFetch (rcFetch l).1 ∧ (rcFetch l).1.kind = rcKind l := by
  have hc := (cdc_int l).pair ((cdc_uint l).pair ((cdc_uint l).pair (cdc_int l)))
  obtain ⟨q1, q2⟩ := cdc_all hc h hd
  refine ⟨q1, q2.trans ?_, rfl⟩
  simp [encFetch, rcFetch]
theorem fwdFetch {c : R.Cmd} (h : RlOk (encFetch c)) (ho : I64 c.kind ∧ U64 c.epoch ∧ U64 c.off ∧ I64 c.most) : rcFetch (encFetch c) = ((⟨c.kind, c.epoch, 0, 0, ByteArray.empty, [], c.off, c.most, ByteArray.empty, 0⟩ : R.Cmd), ⟨(encFetch c).length, 0, 0⟩) ∧ rcKind (encFetch c) = c.kind := by
  have hc := (cdc_int (encFetch c)).pair ((cdc_uint (encFetch c)).pair ((cdc_uint (encFetch c)).pair (cdc_int (encFetch c))))
  have h1 := hc.fwd default (c.kind, c.epoch, c.off, c.most) [] (rok_def h) rfl ho (by
    show encFetch c = _
    simp [encFetch])
  refine ⟨?_, congrArg (fun x => x.1.1) h1⟩
  refine (congrArg (fun x => ((⟨x.1.1, x.1.2.1, 0, 0, ByteArray.empty, [], x.1.2.2.1, x.1.2.2.2, ByteArray.empty, 0⟩ : R.Cmd), x.2)) h1).trans ?_
  have : (default : RS).at_ = 0 := rfl
  have h3 : (default : RS).bad = 0 := rfl
  simp [this, h3, encFetch]
def encCommit (c : R.Cmd) : List Int := [] ++ intB c.kind ++ uintB c.epoch ++ uintB c.prod ++ uintB c.seq ++ textB (strB c.name) ++ uintB c.off
theorem backCommit {l : List Int} (h : RlOk l) (hd : doneE l (rcCommit l).2 = 0) : (I64 (rcCommit l).1.kind ∧ U64 (rcCommit l).1.epoch ∧ U64 (rcCommit l).1.prod ∧ U64 (rcCommit l).1.seq ∧ (((rcCommit l).1.name.size : Int) ≤ 32 ∧ ((rcCommit l).1.name.size : Int) < 18446744073709551616) ∧ U64 (rcCommit l).1.off) ∧ l = encCommit (rcCommit l).1 ∧ (rcCommit l).1.kind = rcKind l := by
  have hc := (cdc_int l).pair ((cdc_uint l).pair ((cdc_uint l).pair ((cdc_uint l).pair ((cdc_str l 32).pair (cdc_uint l)))))
  obtain ⟨q1, q2⟩ := cdc_all hc h hd
  refine ⟨q1, q2.trans ?_, rfl⟩
  simp [encCommit, rcCommit]
theorem fwdCommit {c : R.Cmd} (h : RlOk (encCommit c)) (ho : I64 c.kind ∧ U64 c.epoch ∧ U64 c.prod ∧ U64 c.seq ∧ ((c.name.size : Int) ≤ 32 ∧ (c.name.size : Int) < 18446744073709551616) ∧ U64 c.off) : rcCommit (encCommit c) = ((⟨c.kind, c.epoch, c.prod, c.seq, ByteArray.empty, [], c.off, 0, c.name, 0⟩ : R.Cmd), ⟨(encCommit c).length, 0, 0⟩) ∧ rcKind (encCommit c) = c.kind := by
  have hc := (cdc_int (encCommit c)).pair ((cdc_uint (encCommit c)).pair ((cdc_uint (encCommit c)).pair ((cdc_uint (encCommit c)).pair ((cdc_str (encCommit c) 32).pair (cdc_uint (encCommit c))))))
  have h1 := hc.fwd default (c.kind, c.epoch, c.prod, c.seq, c.name, c.off) [] (rok_def h) rfl ho (by
    show encCommit c = _
    simp [encCommit])
  refine ⟨?_, congrArg (fun x => x.1.1) h1⟩
  refine (congrArg (fun x => ((⟨x.1.1, x.1.2.1, x.1.2.2.1, x.1.2.2.2.1, ByteArray.empty, [], x.1.2.2.2.2.2, 0, x.1.2.2.2.2.1, 0⟩ : R.Cmd), x.2)) h1).trans ?_
  have : (default : RS).at_ = 0 := rfl
  have h3 : (default : RS).bad = 0 := rfl
  simp [this, h3, encCommit]
def encRead (c : R.Cmd) : List Int := [] ++ intB c.kind ++ uintB c.epoch ++ textB (strB c.name)
theorem backRead {l : List Int} (h : RlOk l) (hd : doneE l (rcRead l).2 = 0) : (I64 (rcRead l).1.kind ∧ U64 (rcRead l).1.epoch ∧ (((rcRead l).1.name.size : Int) ≤ 32 ∧ ((rcRead l).1.name.size : Int) < 18446744073709551616)) ∧ l = encRead (rcRead l).1 ∧ (rcRead l).1.kind = rcKind l := by
  have hc := (cdc_int l).pair ((cdc_uint l).pair (cdc_str l 32))
  obtain ⟨q1, q2⟩ := cdc_all hc h hd
  refine ⟨q1, q2.trans ?_, rfl⟩
  simp [encRead, rcRead]
theorem fwdRead {c : R.Cmd} (h : RlOk (encRead c)) (ho : I64 c.kind ∧ U64 c.epoch ∧ ((c.name.size : Int) ≤ 32 ∧ (c.name.size : Int) < 18446744073709551616)) : rcRead (encRead c) = ((⟨c.kind, c.epoch, 0, 0, ByteArray.empty, [], 0, 0, c.name, 0⟩ : R.Cmd), ⟨(encRead c).length, 0, 0⟩) ∧ rcKind (encRead c) = c.kind := by
  have hc := (cdc_int (encRead c)).pair ((cdc_uint (encRead c)).pair (cdc_str (encRead c) 32))
  have h1 := hc.fwd default (c.kind, c.epoch, c.name) [] (rok_def h) rfl ho (by
    show encRead c = _
    simp [encRead])
  refine ⟨?_, congrArg (fun x => x.1.1) h1⟩
  refine (congrArg (fun x => ((⟨x.1.1, x.1.2.1, 0, 0, ByteArray.empty, [], 0, 0, x.1.2.2, 0⟩ : R.Cmd), x.2)) h1).trans ?_
  have : (default : RS).at_ = 0 := rfl
  have h3 : (default : RS).bad = 0 := rfl
  simp [this, h3, encRead]
def encPlan (c : R.Cmd) : List Int := [] ++ intB c.kind ++ uintB c.epoch ++ uintB c.plan
theorem backPlan {l : List Int} (h : RlOk l) (hd : doneE l (rcPlan l).2 = 0) : (I64 (rcPlan l).1.kind ∧ U64 (rcPlan l).1.epoch ∧ U64 (rcPlan l).1.plan) ∧ l = encPlan (rcPlan l).1 ∧ (rcPlan l).1.kind = rcKind l := by
  have hc := (cdc_int l).pair ((cdc_uint l).pair (cdc_uint l))
  obtain ⟨q1, q2⟩ := cdc_all hc h hd
  refine ⟨q1, q2.trans ?_, rfl⟩
  simp [encPlan, rcPlan]
theorem fwdPlan {c : R.Cmd} (h : RlOk (encPlan c)) (ho : I64 c.kind ∧ U64 c.epoch ∧ U64 c.plan) : rcPlan (encPlan c) = ((⟨c.kind, c.epoch, 0, 0, ByteArray.empty, [], 0, 0, ByteArray.empty, c.plan⟩ : R.Cmd), ⟨(encPlan c).length, 0, 0⟩) ∧ rcKind (encPlan c) = c.kind := by
  have hc := (cdc_int (encPlan c)).pair ((cdc_uint (encPlan c)).pair (cdc_uint (encPlan c)))
  have h1 := hc.fwd default (c.kind, c.epoch, c.plan) [] (rok_def h) rfl ho (by
    show encPlan c = _
    simp [encPlan])
  refine ⟨?_, congrArg (fun x => x.1.1) h1⟩
  refine (congrArg (fun x => ((⟨x.1.1, x.1.2.1, 0, 0, ByteArray.empty, [], 0, 0, ByteArray.empty, x.1.2.2⟩ : R.Cmd), x.2)) h1).trans ?_
  have : (default : RS).at_ = 0 := rfl
  have h3 : (default : RS).bad = 0 := rfl
  simp [this, h3, encPlan]
end Go.Proofs.YtnbhdjadlbhknaaGreatDoor.J

namespace Go.Proofs.YtnbhdjadlbhknaaGreatDoor.J
open Go.Ax
set_option maxRecDepth 1000000
theorem cmd1 {c : R.Cmd} (h : c.kind = 1) : cmdB c = encProduce c := by unfold cmdB; rw [if_pos h]; rfl
theorem cmd2 {c : R.Cmd} (h : c.kind = 2) : cmdB c = encFetch c := by unfold cmdB; rw [if_neg (by omega), if_pos h]; rfl
theorem cmd3 {c : R.Cmd} (h : c.kind = 3) : cmdB c = encCommit c := by unfold cmdB; rw [if_neg (by omega), if_neg (by omega), if_pos h]; rfl
theorem cmd4 {c : R.Cmd} (h : c.kind = 4) : cmdB c = encRead c := by unfold cmdB; rw [if_neg (by omega), if_neg (by omega), if_neg (by omega), if_pos h]; rfl
theorem cmd5 {c : R.Cmd} (h : c.kind = 5 ∨ c.kind = 6) : cmdB c = encPlan c := by unfold cmdB; rw [if_neg (by omega), if_neg (by omega), if_neg (by omega), if_neg (by omega), if_pos h]; rfl
theorem cmd0 {c : R.Cmd} (h : ¬ (c.kind = 1 ∨ c.kind = 2 ∨ c.kind = 3 ∨ c.kind = 4 ∨ c.kind = 5 ∨ c.kind = 6)) : cmdB c = [] := by unfold cmdB; rw [if_neg (by omega), if_neg (by omega), if_neg (by omega), if_neg (by omega), if_neg (by omega)]
theorem well_kind {c : R.Cmd} (h : R.wellB c = true) : c.kind = 1 ∨ c.kind = 2 ∨ c.kind = 3 ∨ c.kind = 4 ∨ c.kind = 5 ∨ c.kind = 6 := by
  unfold R.wellB at h
  by_cases h1 : c.kind = 1
  · omega
  · by_cases h2 : c.kind = 2
    · omega
    · by_cases h3 : c.kind = 3
      · omega
      · by_cases h4 : c.kind = 4
        · omega
        · by_cases h5 : c.kind = 5 ∨ c.kind = 6
          · omega
          · rw [if_neg h1, if_neg h2, if_neg h3, if_neg h4, if_neg h5] at h
            cases h
theorem well_name {c : R.Cmd} (h : R.wellB c = true) (hk : c.kind = 3 ∨ c.kind = 4) : c.name.size ≤ 32 := by
  have : nameOk c.name = true := by
    unfold R.wellB at h
    rcases hk with hk | hk
    · simp [hk] at h; exact h.2
    · simp [hk] at h; exact h
  unfold nameOk at this
  simp at this
  omega
theorem cm_bwd {b : List Int} (h : RlOk b) (h0 : (rcS b).2 = 0) : cmdB (rcS b).1 = b ∧ R.wellB (rcS b).1 = true ∧ CmT (rcS b).1 := by
  unfold rcS at h0 ⊢
  by_cases hc : doneE b (rcRaw b).2 = 0 ∧ R.wellB (rcRaw b).1 = true
  · rw [if_pos hc] at h0 ⊢
    obtain ⟨hd, hw⟩ := hc
    suffices hs : cmdB (rcRaw b).1 = b ∧ CmT (rcRaw b).1 from ⟨hs.1, hw, hs.2⟩
    have hz : U64 0 := u64_0
    have hi : I64 0 := ⟨by decide, by decide⟩
    unfold rcRaw at hd hw ⊢
    by_cases m1 : rcKind b = 1
    · rw [if_pos m1] at hd hw ⊢
      obtain ⟨⟨q0, q1, q2, q3, q4, q5⟩, e, ek⟩ := backProduce h hd
      refine ⟨(cmd1 (by rw [ek]; exact m1)).trans e.symm, ⟨⟨q0, q1, q2, q3, hz, hi, hz, ?_⟩, q5.b⟩⟩
      have z0 : (rcProduce b).1.name.size = 0 := rfl
      have ykey := q4.1
      have yval := q5.n
      omega
    · rw [if_neg m1] at hd hw ⊢
      by_cases m2 : rcKind b = 2
      · rw [if_pos m2] at hd hw ⊢
        obtain ⟨⟨q0, q1, q2, q3⟩, e, ek⟩ := backFetch h hd
        refine ⟨(cmd2 (by rw [ek]; exact m2)).trans e.symm, ⟨⟨q0, q1, hz, hz, q2, q3, hz, ?_⟩, Bytes.nil⟩⟩
        have z0 : (rcFetch b).1.key.size = 0 := rfl
        have z1 : (rcFetch b).1.val.length = 0 := rfl
        have z2 : (rcFetch b).1.name.size = 0 := rfl
        omega
      · rw [if_neg m2] at hd hw ⊢
        by_cases m3 : rcKind b = 3
        · rw [if_pos m3] at hd hw ⊢
          obtain ⟨⟨q0, q1, q2, q3, q4, q5⟩, e, ek⟩ := backCommit h hd
          refine ⟨(cmd3 (by rw [ek]; exact m3)).trans e.symm, ⟨⟨q0, q1, q2, q3, q5, hi, hz, ?_⟩, Bytes.nil⟩⟩
          have z0 : (rcCommit b).1.key.size = 0 := rfl
          have z1 : (rcCommit b).1.val.length = 0 := rfl
          have yname := q4.1
          omega
        · rw [if_neg m3] at hd hw ⊢
          by_cases m4 : rcKind b = 4
          · rw [if_pos m4] at hd hw ⊢
            obtain ⟨⟨q0, q1, q2⟩, e, ek⟩ := backRead h hd
            refine ⟨(cmd4 (by rw [ek]; exact m4)).trans e.symm, ⟨⟨q0, q1, hz, hz, hz, hi, hz, ?_⟩, Bytes.nil⟩⟩
            have z0 : (rcRead b).1.key.size = 0 := rfl
            have z1 : (rcRead b).1.val.length = 0 := rfl
            have yname := q2.1
            omega
          · rw [if_neg m4] at hd hw ⊢
            by_cases m5 : rcKind b = 5 ∨ rcKind b = 6
            · rw [if_pos m5] at hd hw ⊢
              obtain ⟨⟨q0, q1, q2⟩, e, ek⟩ := backPlan h hd
              refine ⟨(cmd5 (by rw [ek]; exact m5)).trans e.symm, ⟨⟨q0, q1, hz, hz, hz, hi, q2, ?_⟩, Bytes.nil⟩⟩
              have z0 : (rcPlan b).1.key.size = 0 := rfl
              have z1 : (rcPlan b).1.val.length = 0 := rfl
              have z2 : (rcPlan b).1.name.size = 0 := rfl
              omega
            · rw [if_neg m5] at hw
              exact absurd (well_kind hw) (by
                have : (rcNone b).1.kind = rcKind b := rfl
                omega)
  · rw [if_neg hc] at h0
    exact absurd h0 (by decide)
theorem cut_kind (c : R.Cmd) : (cutC c).kind = c.kind := by
  unfold cutC
  repeat' split
  all_goals rfl
theorem cut_cmd (c : R.Cmd) : cmdB (cutC c) = cmdB c := by
  by_cases h1 : c.kind = 1
  · rw [cmd1 h1, cmd1 (by rw [cut_kind]; exact h1)]; unfold cutC; rw [if_pos h1]; rfl
  · by_cases h2 : c.kind = 2
    · rw [cmd2 h2, cmd2 (by rw [cut_kind]; exact h2)]; unfold cutC; rw [if_neg h1, if_pos h2]; rfl
    · by_cases h3 : c.kind = 3
      · rw [cmd3 h3, cmd3 (by rw [cut_kind]; exact h3)]; unfold cutC; rw [if_neg h1, if_neg h2, if_pos h3]; rfl
      · by_cases h4 : c.kind = 4
        · rw [cmd4 h4, cmd4 (by rw [cut_kind]; exact h4)]; unfold cutC; rw [if_neg h1, if_neg h2, if_neg h3, if_pos h4]; rfl
        · by_cases h5 : c.kind = 5 ∨ c.kind = 6
          · rw [cmd5 h5, cmd5 (by rw [cut_kind]; exact h5)]; unfold cutC; rw [if_neg h1, if_neg h2, if_neg h3, if_neg h4]; rfl
          · rw [cmd0 (c := cutC c) (by rw [cut_kind]; omega), cmd0 (c := c) (by omega)]
theorem cut_well (c : R.Cmd) : R.wellB (cutC c) = R.wellB c := by
  by_cases h1 : c.kind = 1
  · unfold R.wellB; rw [cut_kind, if_pos h1, if_pos h1]; unfold R.okN cutC; rw [if_pos h1]
  · by_cases h2 : c.kind = 2
    · unfold R.wellB; rw [cut_kind, if_neg h1, if_pos h2, if_neg h1, if_pos h2]; unfold cutC; rw [if_neg h1, if_pos h2]
    · by_cases h3 : c.kind = 3
      · unfold R.wellB; rw [cut_kind, if_neg h1, if_neg h2, if_pos h3, if_neg h1, if_neg h2, if_pos h3]; unfold R.okN cutC; rw [if_neg h1, if_neg h2, if_pos h3]
      · by_cases h4 : c.kind = 4
        · unfold R.wellB; rw [cut_kind, if_neg h1, if_neg h2, if_neg h3, if_pos h4, if_neg h1, if_neg h2, if_neg h3, if_pos h4]; unfold cutC; rw [if_neg h1, if_neg h2, if_neg h3, if_pos h4]
        · unfold R.wellB; rw [cut_kind, if_neg h1, if_neg h2, if_neg h3, if_neg h4, if_neg h1, if_neg h2, if_neg h3, if_neg h4]; unfold cutC; rw [if_neg h1, if_neg h2, if_neg h3, if_neg h4]
theorem raw_of {l : List Int} {c : R.Cmd} {s : RS} (h : rcRaw l = (c, s)) (hd : doneE l s = 0) (hw : R.wellB c = true) : rcS l = (c, 0) := by
  unfold rcS
  rw [h, if_pos ⟨hd, hw⟩]
theorem cm_fwd {c : R.Cmd} (h : CmT c) (hw : R.wellB c = true) : rcS (cmdB c) = (cutC c, 0) := by
  have hr := cmd_rl h
  obtain ⟨h1, h2, h3, h4, h5, h6, h7, hn⟩ := h.u
  by_cases m1 : c.kind = 1
  · rw [cmd1 m1] at hr ⊢
    have hk : c.key.size ≤ 32 := by
      unfold R.wellB at hw
      simp [m1] at hw
      omega
    have hv : c.val.length ≤ 256 := by
      unfold R.wellB at hw
      simp [m1] at hw
      omega
    obtain ⟨e1, e2⟩ := fwdProduce hr ⟨h1, h2, h3, h4, ⟨by omega, by omega⟩, ⟨by omega, by omega, h.b⟩⟩
    have e3 : rcRaw (encProduce c) = (cutC c, ⟨(encProduce c).length, 0, 0⟩) := by
      unfold rcRaw
      rw [if_pos (by rw [e2]; exact m1), e1]
      unfold cutC
      rw [if_pos m1]
    exact raw_of e3 (done_all rfl) ((cut_well c).trans hw)
  · 
    by_cases m2 : c.kind = 2
    · rw [cmd2 m2] at hr ⊢
      obtain ⟨e1, e2⟩ := fwdFetch hr ⟨h1, h2, h5, h6⟩
      have e3 : rcRaw (encFetch c) = (cutC c, ⟨(encFetch c).length, 0, 0⟩) := by
        unfold rcRaw
        rw [if_neg (by rw [e2]; omega), if_pos (by rw [e2]; exact m2), e1]
        unfold cutC
        rw [if_neg (by omega), if_pos m2]
      exact raw_of e3 (done_all rfl) ((cut_well c).trans hw)
    · 
      by_cases m3 : c.kind = 3
      · rw [cmd3 m3] at hr ⊢
        have hm := well_name hw (by omega)
        obtain ⟨e1, e2⟩ := fwdCommit hr ⟨h1, h2, h3, h4, ⟨by omega, by omega⟩, h5⟩
        have e3 : rcRaw (encCommit c) = (cutC c, ⟨(encCommit c).length, 0, 0⟩) := by
          unfold rcRaw
          rw [if_neg (by rw [e2]; omega), if_neg (by rw [e2]; omega), if_pos (by rw [e2]; exact m3), e1]
          unfold cutC
          rw [if_neg (by omega), if_neg (by omega), if_pos m3]
        exact raw_of e3 (done_all rfl) ((cut_well c).trans hw)
      · 
        by_cases m4 : c.kind = 4
        · rw [cmd4 m4] at hr ⊢
          have hm := well_name hw (by omega)
          obtain ⟨e1, e2⟩ := fwdRead hr ⟨h1, h2, ⟨by omega, by omega⟩⟩
          have e3 : rcRaw (encRead c) = (cutC c, ⟨(encRead c).length, 0, 0⟩) := by
            unfold rcRaw
            rw [if_neg (by rw [e2]; omega), if_neg (by rw [e2]; omega), if_neg (by rw [e2]; omega), if_pos (by rw [e2]; exact m4), e1]
            unfold cutC
            rw [if_neg (by omega), if_neg (by omega), if_neg (by omega), if_pos m4]
          exact raw_of e3 (done_all rfl) ((cut_well c).trans hw)
        · 
          by_cases m5 : c.kind = 5 ∨ c.kind = 6
          · rw [cmd5 m5] at hr ⊢
            obtain ⟨e1, e2⟩ := fwdPlan hr ⟨h1, h2, h7⟩
            have e3 : rcRaw (encPlan c) = (cutC c, ⟨(encPlan c).length, 0, 0⟩) := by
              unfold rcRaw
              rw [if_neg (by rw [e2]; omega), if_neg (by rw [e2]; omega), if_neg (by rw [e2]; omega), if_neg (by rw [e2]; omega), if_pos (by rw [e2]; exact m5), e1]
              unfold cutC
              rw [if_neg (by omega), if_neg (by omega), if_neg (by omega), if_neg (by omega)]
            exact raw_of e3 (done_all rfl) ((cut_well c).trans hw)
          ·exact absurd (well_kind hw) (by omega)
end Go.Proofs.YtnbhdjadlbhknaaGreatDoor.J
