import Derived.Test.YtghhkabankbkoaaQg
set_option linter.unusedVariables false
set_option linter.unusedSimpArgs false
/-! Plans: groups on sites: the program's: proofs. -/
namespace Go.Proofs.Ytghhkabankbkoaa
open Go.Ax
set_option maxRecDepth 1000000

theorem snA_loop (b c d : Bool) (p : Plan) (s : Seen) (hx : (xA b c p s).Ok) (i k : Nat) (hi : i < (p.into).length) : LoopOk Try.prog 43 8 (loopAt Try.prog 43 8) ⟨snAT b c d p s i k, blA b c d p s ((xA b c p s).in i k), []⟩ (T.map (lout [0, 1, 2, 3, 4, 5, 6, 7] (snAS b c d p s i)) (.ret ())) := by
  refine loop_vcH (ht := fun k => snAH c (s.made) ((p.into).getD i default) (p.nodes.getD k default)) (stT := snAT b c d p s i) (stM := fun k => blA b c d p s ((xA b c p s).in i k)) (S := snAS b c d p s i) (o := fun _ => .ret ()) (μ := fun k => p.nodes.length - k) Try.mixed (fun _ => rfl) (fun k => (vcSnA_eq b c d p s i k).mpr ?_) k
  unfold vcSnA
  have hl : (s.made).length ≤ 9223372036854775806 := hx.hl
  have hn : p.nodes.length ≤ 7 := hx.hn
  have hlen := (xA b c p s).in_len hx.hg hx.hn i k
  have h1 := cnt_le (s.made) ((p.into)[i]?.getD 0) (p.nodes.take k)
  have h2 : (p.nodes.take k).length ≤ p.nodes.length := by simp; omega
  have st : k < p.nodes.length → (xA b c p s).in i (k + 1) = (xA b c p s).in i k ++ (if inS (s.made) ⟨(p.into)[i]?.getD 0, p.nodes[k]?.getD 0⟩ then [] else [⟨3, (p.into)[i]?.getD 0, p.nodes[k]?.getD 0, 0, 0, 0⟩]) := fun h => SiP.in_step (x := xA b c p s) h
  simp
  refine ⟨fun hk => ⟨hk, hl, fun h => ⟨k + 1, by omega, ⟨?_, ?_, by rw [wrap_i64 (by omega) (by omega)]; omega⟩, ?_, ?_⟩, fun h => ⟨by omega, k + 1, by omega, ⟨?_, ?_, by rw [wrap_i64 (by omega) (by omega)]; omega⟩, ?_, ?_⟩⟩, fun hk => ?_⟩
  · rw [st hk, h]; simp
  · rw [cnt_step hk, h, wrap_i64 (by omega) (by omega)]; simp
  · rw [st hk, h]; simp
  · rw [st hk, h]; simp
  · rw [st hk, h]; simp
  · rw [cnt_step hk, h]; simp
  · rw [st hk, h]; simp
  · rw [st hk, h]
    exact app1_le rfl fun j hj => by match j, hj with | 0, _ => simp [encA] | 1, _ => simp [encA] | 2, _ => simp [encA] | 3, _ => simp [encA] | 4, _ => simp [encA] | 5, _ => simp [encA]
  · have e : (xA b c p s).in i k = (xA b c p s).in i p.nodes.length := by
      show _ ++ missA _ _ (p.nodes.take k) _ = _ ++ missA _ _ (p.nodes.take p.nodes.length) _
      rw [List.take_of_length_le hk, List.take_length]
    rw [e, List.take_of_length_le hk]; exact ⟨⟨rfl, rfl⟩, rfl, contLe_refl _ _ _⟩
theorem soA_loop (b c d : Bool) (p : Plan) (s : Seen) (hx : (xA b c p s).Ok) (i : Nat) : LoopOk Try.prog 43 4 (loopAt Try.prog 43 4) ⟨soAT b c d p s i, blA b c d p s ((xA b c p s).at i), []⟩ (T.map (lout [0, 1, 2, 3, 4, 5, 6, 7] (soAS b c d p s)) (.ret ())) := by
  refine loop_vcH (ht := soAH b c d p s) (stT := soAT b c d p s) (stM := fun i => blA b c d p s ((xA b c p s).at i)) (S := soAS b c d p s) (o := fun _ => .ret ()) (μ := fun i => (p.into).length - i) Try.mixed (fun _ => rfl) (fun i => (vcSoA_eq b c d p s i).mpr ?_) i
  unfold vcSoA
  have hl : (s.made).length ≤ 9223372036854775806 := hx.hl
  have hn : p.nodes.length ≤ 7 := hx.hn
  have hg : (p.into).length ≤ 2 := hx.hg
  have hz := SiP.in_zero (xA b c p s) i
  simp
  refine ⟨fun hi => ?_, fun hi => ?_⟩
  · have ha : (xA b c p s).at (i + 1) = (xA b c p s).in i p.nodes.length := SiP.at_step (x := xA b c p s) hi
    have hb : (xA b c p s).all (i + 1) = ((xA b c p s).all i && mostB (s.made) p.nodes ((p.into)[i]?.getD 0)) := SiP.all_step (x := xA b c p s) hi
    have hc := cnt_le (s.made) ((p.into)[i]?.getD 0) p.nodes
    refine ⟨hi, ⟨⟨by rw [hz], rfl⟩, by rw [hz], by rw [hz]; exact contLe_refl _ _ _⟩, snA_loop b c d p s hx i 0 hi, fun h => ⟨i + 1, by omega, ⟨by rw [ha], ?_, by rw [wrap_i64 (by omega) (by omega)]; omega⟩, by rw [ha], by rw [ha]; exact contLe_refl _ _ _⟩, fun h => ⟨i + 1, by omega, ⟨by rw [ha], ?_, by rw [wrap_i64 (by omega) (by omega)]; omega⟩, by rw [ha], by rw [ha]; exact contLe_refl _ _ _⟩⟩
    · rw [hb, h, wrap_i64 (by omega) (by omega)]; simp [mostB]; omega
    · rw [hb, h]; rfl
  · have e1 : (xA b c p s).at i = (xA b c p s).at (p.into).length := by
      show restA _ _ _ ((p.into).take i) = restA _ _ _ ((p.into).take (p.into).length)
      rw [List.take_of_length_le hi, List.take_length]
    have e2 : (xA b c p s).all i = (xA b c p s).all (p.into).length := by
      show ((p.into).take i).all _ = ((p.into).take (p.into).length).all _
      rw [List.take_of_length_le hi, List.take_length]
    rw [e1, e2]; exact ⟨⟨rfl, rfl⟩, rfl, contLe_refl _ _ _⟩
theorem stA_c (b c d : Bool) (p : Plan) (s : Seen) (hx : (xA b c p s).Ok) : (rowR (sitesL (s.made) 3 p (p.into))).Sat (ACall' Try.prog 43 [.agg (encPl b p), .agg (encSe c d s), .ip false 1 (fun _ => .fn (.func 25) [] []), .ip false 1 (fun _ => .fn (.func 26) [] []), .ip false 1 (fun _ => cI 3)] []) := by
  refine ctr_vc (ht := stAH b c d p s) Try.mixed rfl ?_
  rw [vcStA_eq b c d p s]
  unfold vcStA
  have h1 : restA (s.made) 3 p.nodes (p.into) = (xA b c p s).at (p.into).length := by simp [SiP.at, xA]
  have h2 : (p.into).all (mostB (s.made) p.nodes) = (xA b c p s).all (p.into).length := by simp [SiP.all, xA]
  have h3 := SiP.at_len (x := xA b c p s) hx.hg hx.hn (p.into).length
  unfold sitesL
  rw [h1, h2]
  have hlp := soA_loop b c d p s hx 0
  have ins : contLe (((xA b c p s).at (p.into).length).length + 1) 6 (insRow 0 1 (cellsOf' encA ((xA b c p s).at (p.into).length)) fun k j => Ax.get [AV.s (Value.int IntKind.i64 4), AV.s (Value.int IntKind.u64 0), AV.s (Value.int IntKind.i64 0), AV.y (Value.int IntKind.i64 p.step), AV.s (Value.int IntKind.i64 0), AV.s (Value.int IntKind.i64 0)] (k * 6 + j)) (cellsOf' encA (stepA p :: (xA b c p s).at (p.into).length)) := by
    refine ins_le (sz := 6) (l := (xA b c p s).at (p.into).length) (x := stepA p) (enc := encA) (i := 0) rfl (Nat.zero_le _) (fun j hj => ?_)
    match j, hj with
    | 0, _ => simp [encA, stepA]
    | 1, _ => simp [encA, stepA]
    | 2, _ => simp [encA, stepA]
    | 3, _ => simp [encA, stepA]
    | 4, _ => simp [encA, stepA]
    | 5, _ => simp [encA, stepA]
  cases ha : (xA b c p s).all p.into.length
  · simp [hlp]
  · simp [hlp]
    exact ⟨by omega, ins⟩

theorem snB_loop (b c d : Bool) (p : Plan) (s : Seen) (hx : (xB b c p s).Ok) (i k : Nat) (hi : i < (olds p).length) : LoopOk Try.prog 43 8 (loopAt Try.prog 43 8) ⟨snBT b c d p s i k, blB b c d p s ((xB b c p s).in i k), []⟩ (T.map (lout [0, 1, 2, 3, 4, 5, 6, 7] (snBS b c d p s i)) (.ret ())) := by
  refine loop_vcH (ht := fun k => snBH c (s.gone) ((olds p).getD i default) (p.nodes.getD k default)) (stT := snBT b c d p s i) (stM := fun k => blB b c d p s ((xB b c p s).in i k)) (S := snBS b c d p s i) (o := fun _ => .ret ()) (μ := fun k => p.nodes.length - k) Try.mixed (fun _ => rfl) (fun k => (vcSnB_eq b c d p s i k).mpr ?_) k
  unfold vcSnB
  have hl : (s.gone).length ≤ 9223372036854775806 := hx.hl
  have hn : p.nodes.length ≤ 7 := hx.hn
  have hlen := (xB b c p s).in_len hx.hg hx.hn i k
  have h1 := cnt_le (s.gone) ((olds p)[i]?.getD 0) (p.nodes.take k)
  have h2 : (p.nodes.take k).length ≤ p.nodes.length := by simp; omega
  have st : k < p.nodes.length → (xB b c p s).in i (k + 1) = (xB b c p s).in i k ++ (if inS (s.gone) ⟨(olds p)[i]?.getD 0, p.nodes[k]?.getD 0⟩ then [] else [⟨5, (olds p)[i]?.getD 0, p.nodes[k]?.getD 0, 0, 0, 0⟩]) := fun h => SiP.in_step (x := xB b c p s) h
  simp
  refine ⟨fun hk => ⟨hk, hl, fun h => ⟨k + 1, by omega, ⟨?_, ?_, by rw [wrap_i64 (by omega) (by omega)]; omega⟩, ?_, ?_⟩, fun h => ⟨by omega, k + 1, by omega, ⟨?_, ?_, by rw [wrap_i64 (by omega) (by omega)]; omega⟩, ?_, ?_⟩⟩, fun hk => ?_⟩
  · rw [st hk, h]; simp
  · rw [cnt_step hk, h, wrap_i64 (by omega) (by omega)]; simp
  · rw [st hk, h]; simp
  · rw [st hk, h]; simp
  · rw [st hk, h]; simp
  · rw [cnt_step hk, h]; simp
  · rw [st hk, h]; simp
  · rw [st hk, h]
    exact app1_le rfl fun j hj => by match j, hj with | 0, _ => simp [encA] | 1, _ => simp [encA] | 2, _ => simp [encA] | 3, _ => simp [encA] | 4, _ => simp [encA] | 5, _ => simp [encA]
  · have e : (xB b c p s).in i k = (xB b c p s).in i p.nodes.length := by
      show _ ++ missA _ _ (p.nodes.take k) _ = _ ++ missA _ _ (p.nodes.take p.nodes.length) _
      rw [List.take_of_length_le hk, List.take_length]
    rw [e, List.take_of_length_le hk]; exact ⟨⟨rfl, rfl⟩, rfl, contLe_refl _ _ _⟩
theorem soB_loop (b c d : Bool) (p : Plan) (s : Seen) (hx : (xB b c p s).Ok) (i : Nat) : LoopOk Try.prog 43 4 (loopAt Try.prog 43 4) ⟨soBT b c d p s i, blB b c d p s ((xB b c p s).at i), []⟩ (T.map (lout [0, 1, 2, 3, 4, 5, 6, 7] (soBS b c d p s)) (.ret ())) := by
  refine loop_vcH (ht := soBH b c d p s) (stT := soBT b c d p s) (stM := fun i => blB b c d p s ((xB b c p s).at i)) (S := soBS b c d p s) (o := fun _ => .ret ()) (μ := fun i => (olds p).length - i) Try.mixed (fun _ => rfl) (fun i => (vcSoB_eq b c d p s i).mpr ?_) i
  unfold vcSoB
  have hl : (s.gone).length ≤ 9223372036854775806 := hx.hl
  have hn : p.nodes.length ≤ 7 := hx.hn
  have hg : (olds p).length ≤ 2 := hx.hg
  have hz := SiP.in_zero (xB b c p s) i
  simp
  refine ⟨fun hi => ?_, fun hi => ?_⟩
  · have ha : (xB b c p s).at (i + 1) = (xB b c p s).in i p.nodes.length := SiP.at_step (x := xB b c p s) hi
    have hb : (xB b c p s).all (i + 1) = ((xB b c p s).all i && mostB (s.gone) p.nodes ((olds p)[i]?.getD 0)) := SiP.all_step (x := xB b c p s) hi
    have hc := cnt_le (s.gone) ((olds p)[i]?.getD 0) p.nodes
    refine ⟨hi, ⟨⟨by rw [hz], rfl⟩, by rw [hz], by rw [hz]; exact contLe_refl _ _ _⟩, snB_loop b c d p s hx i 0 hi, fun h => ⟨i + 1, by omega, ⟨by rw [ha], ?_, by rw [wrap_i64 (by omega) (by omega)]; omega⟩, by rw [ha], by rw [ha]; exact contLe_refl _ _ _⟩, fun h => ⟨i + 1, by omega, ⟨by rw [ha], ?_, by rw [wrap_i64 (by omega) (by omega)]; omega⟩, by rw [ha], by rw [ha]; exact contLe_refl _ _ _⟩⟩
    · rw [hb, h, wrap_i64 (by omega) (by omega)]; simp [mostB]; omega
    · rw [hb, h]; rfl
  · have e1 : (xB b c p s).at i = (xB b c p s).at (olds p).length := by
      show restA _ _ _ ((olds p).take i) = restA _ _ _ ((olds p).take (olds p).length)
      rw [List.take_of_length_le hi, List.take_length]
    have e2 : (xB b c p s).all i = (xB b c p s).all (olds p).length := by
      show ((olds p).take i).all _ = ((olds p).take (olds p).length).all _
      rw [List.take_of_length_le hi, List.take_length]
    rw [e1, e2]; exact ⟨⟨rfl, rfl⟩, rfl, contLe_refl _ _ _⟩
theorem stB_c (b c d : Bool) (p : Plan) (s : Seen) (hx : (xB b c p s).Ok) : (rowR (sitesL (s.gone) 5 p (olds p))).Sat (ACall' Try.prog 43 [.agg (encPl b p), .agg (encSe c d s), .ip false 1 (fun _ => .fn (.func 28) [] []), .ip false 1 (fun _ => .fn (.func 27) [] []), .ip false 1 (fun _ => cI 5)] []) := by
  refine ctr_vc (ht := stBH b c d p s) Try.mixed rfl ?_
  rw [vcStB_eq b c d p s]
  unfold vcStB
  have h1 : restA (s.gone) 5 p.nodes (olds p) = (xB b c p s).at (olds p).length := by simp [SiP.at, xB]
  have h2 : (olds p).all (mostB (s.gone) p.nodes) = (xB b c p s).all (olds p).length := by simp [SiP.all, xB]
  have h3 := SiP.at_len (x := xB b c p s) hx.hg hx.hn (olds p).length
  unfold sitesL
  rw [h1, h2]
  have hlp := soB_loop b c d p s hx 0
  have ins : contLe (((xB b c p s).at (olds p).length).length + 1) 6 (insRow 0 1 (cellsOf' encA ((xB b c p s).at (olds p).length)) fun k j => Ax.get [AV.s (Value.int IntKind.i64 4), AV.s (Value.int IntKind.u64 0), AV.s (Value.int IntKind.i64 0), AV.y (Value.int IntKind.i64 p.step), AV.s (Value.int IntKind.i64 0), AV.s (Value.int IntKind.i64 0)] (k * 6 + j)) (cellsOf' encA (stepA p :: (xB b c p s).at (olds p).length)) := by
    refine ins_le (sz := 6) (l := (xB b c p s).at (olds p).length) (x := stepA p) (enc := encA) (i := 0) rfl (Nat.zero_le _) (fun j hj => ?_)
    match j, hj with
    | 0, _ => simp [encA, stepA]
    | 1, _ => simp [encA, stepA]
    | 2, _ => simp [encA, stepA]
    | 3, _ => simp [encA, stepA]
    | 4, _ => simp [encA, stepA]
    | 5, _ => simp [encA, stepA]
  have ol : olds p = if p.kind = 2 then [p.group, p.other] else [p.group] := rfl
  by_cases hk : p.kind = 2
  · have ol2 : olds p = [p.group, p.other] := by rw [ol, if_pos hk]
    have oll : (olds p).length = 2 := by rw [ol2]; rfl
    have lst : lstLe 1 2 [AV.y (Value.int IntKind.u64 p.group), AV.y (Value.int IntKind.u64 p.other)] (cellsOf' encU (olds p)) := by
      rw [ol2]
      intro k hk j hj
      obtain rfl : j = 0 := by omega
      match k, hk with
      | 0, _ => exact ⟨le0_refl _, rfl⟩
      | 1, _ => exact ⟨le0_refl _, rfl⟩
    cases ha : (xB b c p s).all (olds p).length
    · simp [hlp, hk, lst]
      omega
    · simp [hlp, hk, lst]
      exact ⟨by omega, by omega, ins⟩
  · have ol2 : olds p = [p.group] := by rw [ol, if_neg hk]
    have oll : (olds p).length = 1 := by rw [ol2]; rfl
    have lst : lstLe 1 1 [AV.y (Value.int IntKind.u64 p.group)] (cellsOf' encU (olds p)) := by
      rw [ol2]
      intro k hk j hj
      obtain rfl : j = 0 := by omega
      match k, hk with
      | 0, _ => exact ⟨le0_refl _, rfl⟩
    cases ha : (xB b c p s).all (olds p).length
    · simp [hlp, hk, lst]
      omega
    · simp [hlp, hk, lst]
      exact ⟨by omega, by omega, ins⟩
end Go.Proofs.Ytghhkabankbkoaa
