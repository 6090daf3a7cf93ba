import Derived.Test.YtjdnbdgekkdlgaaQc
/-! Producers: slices.DeleteFunc at their type. -/
namespace Go.Proofs.Ytjdnbdgekkdlgaa
open Go.Ax
set_option maxRecDepth 1000000
def keep (x : Producer) (y : Producer) : Bool := !(y.id == x.id)
def oth (l : List Producer) (x : Producer) : List Producer := l.filter (keep x)
structure DS (l : List Producer) (x : Producer) where
  i : Nat
  j : Nat
  L : List Producer
  len : L.length = l.length
  ij : i ≤ j
  jl : j ≤ l.length
  pre : L.take i = (l.take j).filter (keep x)
  suf : L.drop j = l.drop j
theorem DS.at {l : List Producer} {x : Producer} (q : DS l x) : q.L[q.j]? = l[q.j]? := by
  have := congrArg (fun r : List Producer => r[0]?) q.suf
  simpa [List.getElem?_drop] using this
theorem take_snoc (l : List Producer) (j : Nat) (h : j < l.length) : l.take (j + 1) = l.take j ++ [l[j]?.getD default] := by
  rw [List.take_succ_eq_append_getElem h]; simp [h]
def DS.put {l : List Producer} {x : Producer} (q : DS l x) (h : q.j < l.length) (hk : ¬ (l[q.j]?.getD default).id = x.id) : DS l x where
  i := q.i + 1
  j := q.j + 1
  L := q.L.set q.i (l[q.j]?.getD default)
  len := by simp [q.len]
  ij := by have := q.ij; omega
  jl := by omega
  pre := by
    have h1 := q.ij
    have h2 := q.len
    have h3 : q.i < q.L.length := by omega
    have hk' : keep x (l[q.j]?.getD default) = true := by unfold keep; simpa using hk
    rw [take_snoc l q.j h, List.filter_append, ← q.pre, List.take_succ_eq_append_getElem (by simpa using h3), List.filter_cons_of_pos hk', List.filter_nil]
    simp [List.take_set_of_le]
  suf := by
    have h1 := q.ij
    have h2 := congrArg (fun r : List Producer => r.drop 1) q.suf
    simp only [List.drop_drop] at h2
    rw [List.drop_set_of_lt (by omega)]
    exact h2
def DS.skip {l : List Producer} {x : Producer} (q : DS l x) (h : q.j < l.length) (hk : (l[q.j]?.getD default).id = x.id) : DS l x where
  i := q.i
  j := q.j + 1
  L := q.L
  len := q.len
  ij := by have := q.ij; omega
  jl := by omega
  pre := by
    have hk' : ¬ keep x (l[q.j]?.getD default) = true := by unfold keep; simpa using hk
    rw [take_snoc l q.j h, List.filter_append, ← q.pre, List.filter_cons_of_neg hk', List.filter_nil, List.append_nil]
  suf := by
    have h2 := congrArg (fun r : List Producer => r.drop 1) q.suf
    simpa only [List.drop_drop] using h2
def delT (l : List Producer) (x : Producer) (q : DS l x) : List AV := mkT 42 [(0, .own 1 4 0 l.length), (1, .fn (.func 36) [] [.ptr 0 0 0 0]), (5, .y (.int .i64 q.i)), (6, .y (.int .i64 q.j))]
def delM (l : List Producer) (x : Producer) (q : DS l x) : List Blk := [.box 39 (encP x), .row 39 4 l.length none (cellsOf' encP q.L)]
def delS (l : List Producer) (x : Producer) (_ : Unit) : Exit × List AV × List Blk := (.exit 0, mkT 42 [(0, .own 1 4 0 l.length), (5, .y (.int .i64 (oth l x).length))], [.box 39 (encP x), .row 39 4 l.length none (cutRow (oth l x).length (cellsOf' encP (oth l x)))])
def vcDelL (l : List Producer) (x : Producer) (q : DS l x) : Prop :=
  (decide ((↑q.j : Int) < (↑(List.length l) : Int)) = true → (true && decide ((↑q.j : Int) < (↑(List.length l) : Int))) = true ∧ decide ((0 : Nat) + Int.toNat (↑q.j : Int) < List.length l) = true ∧ true = true ∧ True ∧ ((!(List.getD q.L ((0 : Nat) + Int.toNat (↑q.j : Int)) (@default Producer instInhabitedProducer)).id == x.id) = true → (true && decide ((↑q.i : Int) < (↑(List.length l) : Int))) = true ∧ decide ((0 : Nat) + Int.toNat (↑q.i : Int) < List.length l) = true ∧ ∃ (j : DS l x), List.length l - j.j < List.length l - q.j ∧ ((((0 : Nat) = (0 : Nat) ∧ List.length l = List.length l) ∧ (True ∧ ((0 : Nat) = (0 : Nat) ∧ (0 : Nat) = (0 : Nat)) ∧ True) ∧ IntKind.wrap IntKind.i64 ((↑q.i : Int) + (1 : Int)) = (↑j.i : Int) ∧ IntKind.wrap IntKind.i64 ((↑q.j : Int) + (1 : Int)) = (↑j.j : Int) ∧ True) ∧ ((x.id = x.id ∧ x.seq = x.seq ∧ x.here = x.here ∧ x.offset = x.offset ∧ True) ∧ (List.length l = List.length l ∧ contLe (List.length l) (4 : Nat) (wrRow (cellsOf' encP q.L) ((0 : Nat) + Int.toNat (↑q.i : Int)) (0 : Nat) [AV.y (Value.int IntKind.u64 (List.getD q.L ((0 : Nat) + Int.toNat (↑q.j : Int)) (@default Producer instInhabitedProducer)).id), AV.y (Value.int IntKind.u64 (List.getD q.L ((0 : Nat) + Int.toNat (↑q.j : Int)) (@default Producer instInhabitedProducer)).seq), AV.y (Value.bool (List.getD q.L ((0 : Nat) + Int.toNat (↑q.j : Int)) (@default Producer instInhabitedProducer)).here), AV.y (Value.int IntKind.u64 (List.getD q.L ((0 : Nat) + Int.toNat (↑q.j : Int)) (@default Producer instInhabitedProducer)).offset)]) (cellsOf' encP j.L)) ∧ True) ∧ true = true) ∧ true = true ∧ () = ()) ∧ ((!(List.getD q.L ((0 : Nat) + Int.toNat (↑q.j : Int)) (@default Producer instInhabitedProducer)).id == x.id) = false → ∃ (j : DS l x), List.length l - j.j < List.length l - q.j ∧ ((((0 : Nat) = (0 : Nat) ∧ List.length l = List.length l) ∧ (True ∧ ((0 : Nat) = (0 : Nat) ∧ (0 : Nat) = (0 : Nat)) ∧ True) ∧ (↑q.i : Int) = (↑j.i : Int) ∧ IntKind.wrap IntKind.i64 ((↑q.j : Int) + (1 : Int)) = (↑j.j : Int) ∧ True) ∧ ((x.id = x.id ∧ x.seq = x.seq ∧ x.here = x.here ∧ x.offset = x.offset ∧ True) ∧ (List.length l = List.length l ∧ contLe (List.length l) (4 : Nat) (cellsOf' encP q.L) (cellsOf' encP j.L)) ∧ True) ∧ true = true) ∧ true = true ∧ () = ())) ∧ (decide ((↑q.j : Int) < (↑(List.length l) : Int)) = false → (((0 : Nat) = (0 : Nat) ∧ List.length l = List.length l) ∧ (↑q.i : Int) = (↑(List.length (oth l x)) : Int) ∧ True) ∧ ((x.id = x.id ∧ x.seq = x.seq ∧ x.here = x.here ∧ x.offset = x.offset ∧ True) ∧ (List.length l = List.length l ∧ contLe (List.length l) (4 : Nat) (cellsOf' encP q.L) (cutRow (List.length (oth l x)) (cellsOf' encP (oth l x)))) ∧ True) ∧ true = true)
set_option maxRecDepth 1000000 in
theorem vcDelL_eq (l : List Producer) (x : Producer) (q : DS l x) : (loopVC Try.prog (hT _) 34 5 (fun q : DS l x => l.length - q.j) (delT l x) (delM l x) [2, 3, 4] (fun _ => .ret ()) (delS l x) q) = vcDelL l x q := by kernel_rfl
theorem del_loop (l : List Producer) (x : Producer) (hl : l.length ≤ 9223372036854775806) (q : DS l x) : LoopOk Try.prog 34 5 (loopAt Try.prog 34 5) ⟨delT l x q, delM l x q, []⟩ (T.map (lout [2, 3, 4] (delS l x)) (.ret ())) := by
  refine loop_vc (o := fun _ => .ret ()) Try.mixed (fun _ => rfl) (fun q => (vcDelL_eq l x q).mpr ?_) q
  unfold vcDelL
  have h1 := q.ij
  have h2 := q.len
  have h3 := q.at
  simp
  rw [h3]
  refine ⟨fun h => ⟨h, fun hk => ⟨by omega, q.put h hk, ?_, ?_, ?_⟩, fun hk => ⟨q.skip h hk, ?_, ?_, ?_⟩⟩, fun h => ⟨?_, ?_⟩⟩
  · show l.length - (q.j + 1) < l.length - q.j; omega
  · show IntKind.i64.wrap (↑q.i + 1) = ↑(q.i + 1) ∧ IntKind.i64.wrap (↑q.j + 1) = ↑(q.j + 1)
    rw [wrap_i64 (by omega) (by omega), wrap_i64 (by omega) (by omega)]; omega
  · exact wr_le q.len.symm (by omega) rfl fun j hj => by
      match j, hj with
      | 0, _ => simp [encP]
      | 1, _ => simp [encP]
      | 2, _ => simp [encP]
      | 3, _ => simp [encP]
  · show l.length - (q.j + 1) < l.length - q.j; omega
  · show (q.i : Int) = q.i ∧ IntKind.i64.wrap (↑q.j + 1) = ↑(q.j + 1)
    rw [wrap_i64 (by omega) (by omega)]; omega
  · exact contLe_refl _ _ _
  · have hp := congrArg List.length q.pre
    have hj := q.jl
    rw [List.take_of_length_le (l := l) h, List.length_take] at hp
    unfold oth
    omega
  · have hp := q.pre
    rw [List.take_of_length_le (l := l) h] at hp
    refine cut_le fun k hk hm j hj => ?_
    have e : q.L[k]? = (oth l x)[k]? := by
      unfold oth at hm ⊢
      rw [← hp, List.getElem?_take, if_pos]
      rw [← hp, List.length_take] at hm; omega
    simp [cellsOf', e]
def clr12 : FuncId → Nat → Nat → Nat := sh1 34 12 3 1 noSh
theorem oth_none {l : List Producer} {x : Producer} (h : findI l x.id = false) : oth l x = l := by
  unfold oth
  rw [List.filter_eq_self]
  intro a ha
  have : has x.id a = false := by
    have h2 : l.find? (has x.id) = none := by simpa [findI] using h
    exact Bool.eq_false_iff.2 (List.find?_eq_none.1 h2 a ha)
  simpa [keep, has] using this
def DS.start (l : List Producer) (x : Producer) (h : findI l x.id = true) : DS l x where
  i := l.findIdx (has x.id)
  j := l.findIdx (has x.id) + 1
  L := l
  len := rfl
  ij := by omega
  jl := idx_lt h
  pre := by
    have hlt := idx_lt h
    rw [take_snoc l _ hlt, List.filter_append, idx_at h]
    have h1 : has x.id (findD l x.id) = true := by
      rw [← idx_at h]
      have := List.findIdx_getElem (w := hlt)
      simpa [hlt] using this
    have h2 : [findD l x.id].filter (keep x) = [] := by
      simp [keep]; simpa [has] using h1
    rw [h2, List.append_nil]
    symm
    rw [List.filter_eq_self]
    intro a ha
    obtain ⟨k, hk, rfl⟩ := List.mem_iff_getElem.1 ha
    simp only [List.length_take] at hk
    have h3 := List.not_of_lt_findIdx (p := has x.id) (xs := l) (i := k) (by omega)
    rw [List.getElem_take]
    simpa [keep, has] using h3
  suf := rfl
noncomputable def delJ (l : List Producer) (x : Producer) : FuncId → Nat → St → Option Job := fun f k s =>
  match Nat.beq f 34 && Nat.beq k 5 with
  | true => some ⟨mkT 42 [(0, .own 1 4 0 l.length), (1, .fn (.func 36) [] [.ptr 0 0 0 0]), (5, .y (.int .i64 (l.findIdx (has x.id) : Nat))), (6, .y (.int .i64 (l.findIdx (has x.id) + 1 : Nat)))], [.box 39 (encP x), .row 39 4 l.length none (cellsOf' encP l)], T.map (lout [2, 3, 4] (delS l x)) (.ret ())⟩
  | false => none
noncomputable def delH (l : List Producer) (x : Producer) (hl : l.length ≤ 9223372036854775806) : HintsT Try.prog :=
  withSh (hh _ (delJ l x) (cs1 34 1 2 (ixC false x l hl) noCs) noOp) clr12
def delR (l : List Producer) (x : Producer) : T An := .ret (.own 1 4 0 (oth l x).length, [.box 39 (encP x), .row 39 4 (oth l x).length none (cellsOf' encP (oth l x))], [1, 2, 3, 4])
def delMs (l : List Producer) (x : Producer) : List Blk := [.box 39 (encP x), .row 39 4 l.length none (cellsOf' encP l)]
def vcDel (l : List Producer) (x : Producer) (hl : l.length ≤ 9223372036854775806) : Prop :=
  ((false = false ∧ List.length l = List.length l ∧ contLe (List.length l) (4 : Nat) (Ax.rowAt (0 : Nat) (cellsOf' encP l)) (cellsOf' encP l)) ∧ (True ∧ (false = false ∧ (4 : Nat) ≤ (4 : Nat) ∧ cellLe (4 : Nat) (fun (j : Nat) => Ax.get [AV.y (Value.int IntKind.u64 x.id), AV.y (Value.int IntKind.u64 x.seq), AV.y (Value.bool x.here), AV.y (Value.int IntKind.u64 x.offset)] ((0 : Nat) + j)) (Ax.get [AV.y (Value.int IntKind.u64 x.id), AV.y (Value.int IntKind.u64 x.seq), AV.y (Value.bool x.here), AV.y (Value.int IntKind.u64 x.offset)])) ∧ True) ∧ True) ∧ True ∧ true = true ∧ True ∧ ((idxZ l x.id == (-1 : Int)) = true → ((0 : Nat) = (0 : Nat) ∧ List.length l = List.length (oth l x)) ∧ (x.id = x.id ∧ x.seq = x.seq ∧ x.here = x.here ∧ x.offset = x.offset ∧ True) ∧ (List.length l = List.length (oth l x) ∧ contLe (List.length l) (4 : Nat) (cellsOf' encP l) (cellsOf' encP (oth l x))) ∧ True) ∧ ((idxZ l x.id == (-1 : Int)) = false → ((((0 : Nat) = (0 : Nat) ∧ List.length l = List.length l) ∧ (True ∧ ((0 : Nat) = (0 : Nat) ∧ (0 : Nat) = (0 : Nat)) ∧ True) ∧ idxZ l x.id = (↑(List.findIdx (has x.id) l) : Int) ∧ IntKind.wrap IntKind.i64 (idxZ l x.id + (1 : Int)) = (↑(List.findIdx (has x.id) l + (1 : Nat)) : Int) ∧ True) ∧ ((x.id = x.id ∧ x.seq = x.seq ∧ x.here = x.here ∧ x.offset = x.offset ∧ True) ∧ (List.length l = List.length l ∧ contLe (List.length l) (4 : Nat) (cellsOf' encP l) (cellsOf' encP l)) ∧ True) ∧ true = true) ∧ LoopOk Try.prog (34 : Nat) (5 : Nat) (loopAt Try.prog (34 : Nat) (5 : Nat)) { t := mkT (42 : Nat) [((0 : Nat), AV.own (1 : Nat) (4 : Nat) (0 : Nat) (List.length l)), ((1 : Nat), AV.fn (Fn.func (36 : FuncId)) [] [AV.ptr (0 : Nat) (0 : Nat) (0 : Nat) (0 : Nat)]), ((5 : Nat), AV.y (Value.int IntKind.i64 (↑(List.findIdx (has x.id) l) : Int))), ((6 : Nat), AV.y (Value.int IntKind.i64 (↑(List.findIdx (has x.id) l + (1 : Nat)) : Int)))], m := [Blk.box (39 : TypeId) (encP x), Blk.row (39 : TypeId) (4 : Nat) (List.length l) none (cellsOf' encP l)], mv := [] } (T.map (lout [(2 : Nat), (3 : Nat), (4 : Nat)] (delS l x)) (T.ret ())) ∧ (true && decide ((↑(List.length (oth l x)) : Int) ≤ (↑(List.length l) : Int)) && decide ((↑(List.length l) : Int) ≤ (↑(List.length l) : Int))) = true ∧ (true && decide ((↑(List.length (oth l x)) : Int) ≤ (↑(List.length l) : Int))) = true ∧ ((0 : Nat) = (0 : Nat) ∧ Int.toNat (↑(List.length (oth l x)) : Int) - (0 : Nat) = List.length (oth l x)) ∧ (x.id = x.id ∧ x.seq = x.seq ∧ x.here = x.here ∧ x.offset = x.offset ∧ True) ∧ (Int.toNat (↑(List.length (oth l x)) : Int) - (0 : Nat) = List.length (oth l x) ∧ contLe (Int.toNat (↑(List.length (oth l x)) : Int) - (0 : Nat)) (4 : Nat) (clrRow ((0 : Nat) + Int.toNat (↑(List.length (oth l x)) : Int)) (Int.toNat (↑(List.length l) : Int) - Int.toNat (↑(List.length (oth l x)) : Int)) (cutRow (List.length (oth l x)) (cellsOf' encP (oth l x)))) (cellsOf' encP (oth l x))) ∧ True)
set_option maxRecDepth 1000000 in
theorem vcDel_eq (l : List Producer) (x : Producer) (hl : l.length ≤ 9223372036854775806) : (ctrVC Try.prog (delH l x hl) 34 [.own 1 4 0 l.length, .fn (.func 36) [] [.ptr 0 0 0 0]] (delMs l x) (delR l x)) = vcDel l x hl := by kernel_rfl
theorem del_c (l : List Producer) (x : Producer) (hl : l.length ≤ 9223372036854775806) : (delR l x).Sat (ACall' Try.prog 34 [.own 1 4 0 l.length, .fn (.func 36) [] [.ptr 0 0 0 0]] (delMs l x)) := by
  refine ctr_vc (ht := delH l x hl) Try.mixed rfl ?_
  rw [vcDel_eq l x hl]
  unfold vcDel
  have hm : (oth l x).length ≤ l.length := List.length_filter_le _ _
  by_cases hf : findI l x.id = true
  · have := del_loop l x hl (DS.start l x hf)
    have h2 := idx_lt hf
    simp [idxZ, hf, encP]
    refine ⟨wrap_i64 (by omega) (by omega), ?_, hm, clr_cut (contLe_refl _ _ _) rfl⟩
    simpa [delT, delM, DS.start, encP] using this
  · have hf' : findI l x.id = false := by simpa using hf
    have e := oth_none hf'
    simp [idxZ, hf', encP, e]
end Go.Proofs.Ytjdnbdgekkdlgaa
