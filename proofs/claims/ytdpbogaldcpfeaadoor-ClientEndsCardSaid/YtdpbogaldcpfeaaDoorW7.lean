import Derived.Test.YtdpbogaldcpfeaaDoorRows
import Derived.Test.YtdpbogaldcpfeaaDoorTie
import Derived.Test.YtdpbogaldcpfeaaDoorCards
import Derived.OpenShut
import Derived.Lay
import Derived.Handed
import Derived.SevenTiedAt
import Derived.Test.YtdpbogaldcpfeaaDoorE10
import Derived.Test.YtdpbogaldcpfeaaDoorW5
import Derived.Test.YtdpbogaldcpfeaaDoorW6
set_option linter.unusedVariables false
set_option linter.unusedSimpArgs false
set_option linter.unusedSectionVars false
/-! A client's New. -/
namespace Go.Proofs.YtdpbogaldcpfeaaDoor.C
open Go.Ax
set_option maxRecDepth 1000000
def newB (id : Int) (l : List Int) (p : Int) : Bool := !(decide (id < 1)) && (!(decide (7 < id)) && (!(l.length == 0) && (!(p == 0) && (!(nwAny id (srt l)) && (Lib.compact (srt l)).length == l.length))))
def newK (id : Int) (l : List Int) (p : Int) : Clt := if newB id l p = true then newQ id l p else default
def newE (id : Int) (l : List Int) (p : Int) : Int := if newB id l p = true then 0 else 1
structure NewQ (id : Int) (l : List Int) (p : Int) (c : Clt) (e : Int) : Prop where
  c : c = newK id l p
  e : e = newE id l p
  n : l.length * 8 ≤ 140737488355328
theorem nwg_c (id : Int) (b : Bool) (l : List Int) (p : Int) (c : Clt) (e : Int) (h : NewQ id l p c e) : (nwgR c e).Sat (ACall' Tryd.prog 9 [.y (.int .i64 id), encIs b l, .y (.int .u64 p)] []) := by
  refine ctr_vc (ht := nwgH id b l (srt l) (Lib.compact (srt l))) Tryd.mixed rfl ?_
  rw [vcNwg_eq id b l (srt l) (Lib.compact (srt l)) p c e]
  unfold vcNwg vcNwg_q1
  obtain ⟨hc, he, hn⟩ := h
  have hsl := srt_len l
  have q1 : SrtQ l (srt l) := ⟨rfl, by omega⟩
  have q00 : SrtQ [] (srt []) := ⟨rfl, by decide⟩
  have eb : ({ data := #[] } : ByteArray) = ByteArray.empty := rfl
  have ok0 : newB id l p = false → c = default ∧ e = 1 := fun h => ⟨by rw [hc]; unfold newK; simp [h], by rw [he]; unfold newE; simp [h]⟩
  have ok1 : newB id l p = true → c = newQ id l p ∧ e = 0 := fun h => ⟨by rw [hc]; unfold newK; simp [h], by rw [he]; unfold newE; simp [h]⟩
  by_cases h1 : id < 1
  · obtain ⟨rfl, rfl⟩ := ok0 (by unfold newB; simp [h1])
    simp [hn, q1, h1]
    repeat' apply And.intro
    all_goals rfl
  · by_cases h2 : 7 < id
    · obtain ⟨rfl, rfl⟩ := ok0 (by unfold newB; simp [h2])
      simp [hn, q1, h1, h2]
      repeat' apply And.intro
      all_goals rfl
    · by_cases h3 : l.length = 0
      · obtain ⟨rfl, rfl⟩ := ok0 (by unfold newB; simp [h3])
        have h3' : l = [] := List.eq_nil_of_length_eq_zero h3
        simp [hn, q1, h1, h2, h3']
        repeat' apply And.intro
        all_goals first | rfl | exact contLe_refl _ _ _ | exact q00 | omega
      · have q2 : CmpQ (srt l) (Lib.compact (srt l)) := ⟨rfl, by omega, by omega⟩
        have h3' : ¬ l = [] := fun e => h3 (by rw [e]; rfl)
        by_cases h4 : p = 0
        · obtain ⟨rfl, rfl⟩ := ok0 (by unfold newB; simp [h4])
          simp [hn, q1, h1, h2, h3', h4]
          repeat' apply And.intro
          all_goals first | rfl | exact contLe_refl _ _ _ | exact q00 | omega
        · generalize hs : srt l = s at *
          cases h5 : nwAny id s
          · by_cases h6 : (Lib.compact s).length = l.length
            · obtain ⟨rfl, rfl⟩ := ok1 (by unfold newB; simp [h1, h2, h3, h4, hs, h5, h6])
              simp [hn, q1, q2, h1, h2, h3', h4, h5, h6, hsl]
              repeat' apply And.intro
              all_goals first | rfl | exact contLe_refl _ _ _ | exact q00 | omega
            · obtain ⟨rfl, rfl⟩ := ok0 (by unfold newB; simp [hs, h6])
              simp [hn, q1, q2, h1, h2, h3', h4, h5, h6, hsl]
              refine ⟨by omega, fun hh => ?_, fun hh => ?_⟩
              · first | (repeat' apply And.intro) <;> first | rfl | exact contLe_refl _ _ _ | omega
              · first | exact absurd hh (by omega) | (repeat' apply And.intro) <;> first | rfl | exact contLe_refl _ _ _ | omega
          · obtain ⟨rfl, rfl⟩ := ok0 (by unfold newB; simp [hs, h5])
            simp [hn, q1, q2, h1, h2, h3', h4, h5, hsl]
            repeat' apply And.intro
            all_goals first | rfl | exact contLe_refl _ _ _ | exact q00 | omega
noncomputable def nwG (id : Int) (b : Bool) (l : List Int) (p : Int) (c : Clt) (e : Int) : Ctr Tryd.prog := ⟨9, [.y (.int .i64 id), encIs b l, .y (.int .u64 p)], [], .need (NewQ id l p c e) (nwgR c e), T.Sat.need fun h => nwg_c id b l p c e h⟩
end Go.Proofs.YtdpbogaldcpfeaaDoor.C

/-! A client: what stays so from step to step. -/
namespace Go.Proofs.YtdpbogaldcpfeaaDoor.C
open Go.Ax
structure Inv (n : Nat) (c : Clt) : Prop where
  s : c.servers.length * 8 ≤ 140737488355328
  a0 : 0 ≤ c.at'
  a1 : c.at' < c.servers.length
  tl : c.topics.length ≤ n
  ll : c.leaders.length ≤ n
  k : CalOk c.call
  t : ∀ x ∈ c.topics, TpOk x
structure InpOk (i : Inp) : Prop where
  c : CalOk i.call
  n : i.rep.shards.length * 104 ≤ 281474976710656
  s : ∀ x ∈ i.rep.shards, ShOk x
theorem calOk_default : CalOk default := ⟨by decide, by decide⟩
theorem Inv.mono {n m : Nat} {c : Clt} (h : Inv n c) (hm : n ≤ m) : Inv m c := ⟨h.s, h.a0, h.a1, Nat.le_trans h.tl hm, Nat.le_trans h.ll hm, h.k, h.t⟩
theorem inv_end {n : Nat} {x : Nod} {r : Rep} (h : Inv n x.c) : Inv n (endN x r).c := ⟨h.s, h.a0, h.a1, h.tl, h.ll, calOk_default, h.t⟩
theorem inv_later {n : Nat} {x : Nod} (h : Inv n x.c) : Inv n (laterN x).c := ⟨h.s, h.a0, h.a1, h.tl, h.ll, h.k, h.t⟩
theorem inv_send {n : Nat} {x : Nod} (h : Inv n x.c) : Inv n (sendN x).c := by
  unfold sendN
  split
  · exact inv_end h
  · split
    · exact ⟨h.s, h.a0, h.a1, h.tl, h.ll, h.k, h.t⟩
    · split
      · exact ⟨h.s, h.a0, h.a1, h.tl, h.ll, h.k, h.t⟩
      · exact ⟨h.s, h.a0, h.a1, h.tl, h.ll, h.k, h.t⟩
theorem at_ok {n : Nat} {x : Nod} (h : Inv n x.c) : 0 ≤ atQ x ∧ atQ x < x.c.servers.length := by
  have h1 := h.a0
  have h2 := h.a1
  have h3 := h.s
  unfold atQ
  rw [wrap_i64 (by omega) (by omega), Int.tmod_eq_emod_of_nonneg (by omega)]
  exact ⟨Int.emod_nonneg _ (by omega), Int.emod_lt_of_pos _ (by omega)⟩
theorem inv_next {n : Nat} {x : Nod} (h : Inv n x.c) : Inv n (nxtN x).c := ⟨h.s, (at_ok h).1, (at_ok h).2, h.tl, h.ll, h.k, h.t⟩
theorem inv_turn {n : Nat} {x : Nod} (h : Inv n x.c) : Inv n (turnN x).c := ⟨h.s, (at_ok h).1, (at_ok h).2, h.tl, Nat.le_trans (List.length_filter_le _ _) h.ll, h.k, h.t⟩
theorem inv_lrn {n : Nat} {x : Nod} {l : List Shd} (h : Inv n x.c) (hn : l.length * 104 ≤ 281474976710656) (hs : ∀ x ∈ l, ShOk x) : Inv (n + 1) (lrnN x l).c := by
  have htl : (lrnT x l).length ≤ n + 1 := by
    have := h.tl
    unfold lrnT
    split
    · rw [List.length_set]; omega
    · rw [List.length_append]; simp; omega
  have ht : ∀ t ∈ lrnT x l, TpOk t := by
    intro t ht
    unfold lrnT at ht
    split at ht
    · rcases List.mem_or_eq_of_mem_set ht with h1 | rfl
      · exact h.t t h1
      · exact ⟨hn, hs⟩
    · rcases List.mem_append.1 ht with h1 | h1
      · exact h.t t h1
      · obtain rfl := List.mem_singleton.1 h1
        exact ⟨hn, hs⟩
  exact ⟨h.s, h.a0, h.a1, htl, Nat.le_succ_of_le h.ll, h.k, ht⟩
theorem inv_finL {n : Nat} {x : Nod} {r : Rep} (h : Inv n x.c) (hn : r.shards.length * 104 ≤ 281474976710656) (hs : ∀ x ∈ r.shards, ShOk x) : Inv (n + 1) (finL x r).c := by
  unfold finL
  split
  · exact inv_lrn h hn hs
  · exact h.mono (Nat.le_succ _)
theorem inv_fin {n : Nat} {x : Nod} {r : Rep} (h : Inv n x.c) (hn : r.shards.length * 104 ≤ 281474976710656) (hs : ∀ x ∈ r.shards, ShOk x) : Inv (n + 1) (finN x r).c := by
  have h1 := inv_finL h hn hs
  unfold finN
  split
  · exact inv_end h1
  · split
    · exact inv_send h1
    · exact inv_later (inv_next h1)
theorem inv_taken {n : Nat} {x : Nod} (h : Inv n x.c) : Inv n (taken x).c := by
  unfold taken
  split
  · refine ⟨h.s, h.a0, h.a1, ?_, h.ll, h.k, fun t ht => h.t t ?_⟩
    · have := h.tl
      show (tout x.c.topics (topI x)).length ≤ n
      unfold tout
      simp
      omega
    · have ht : t ∈ tout x.c.topics (topI x) := ht
      unfold tout at ht
      rcases List.mem_append.1 ht with h1 | h1
      · exact List.mem_of_mem_take h1
      · exact List.mem_of_mem_drop h1
  · exact h
theorem inv_gone {n : Nat} {x : Nod} (h : Inv n x.c) : Inv n (goneN x).c := inv_later (inv_turn (inv_taken h))
theorem inv_led {n : Nat} {x : Nod} {v : Int} (h : Inv n x.c) : Inv (n + 1) (ledN x v).c := by
  refine ⟨h.s, h.a0, h.a1, Nat.le_succ_of_le h.tl, ?_, h.k, h.t⟩
  have := h.ll
  show (ledT x v).length ≤ n + 1
  unfold ledT
  split
  · rw [List.length_set]; omega
  · rw [List.length_append]; simp; omega
theorem inv_ans {n : Nat} {x : Nod} {r : Rep} (h : Inv n x.c) (hn : r.shards.length * 104 ≤ 281474976710656) (hs : ∀ x ∈ r.shards, ShOk x) : Inv (n + 1) (ansN x r).c := by
  unfold ansN
  split
  · exact inv_fin h hn hs
  · split
    · split
      · exact inv_send (inv_led h)
      · exact (inv_later (inv_turn h)).mono (Nat.le_succ _)
    · split
      · split
        · exact (inv_end h).mono (Nat.le_succ _)
        · exact (inv_gone h).mono (Nat.le_succ _)
      · split
        · exact (inv_gone h).mono (Nat.le_succ _)
        · split
          · split
            · exact (inv_end h).mono (Nat.le_succ _)
            · exact (inv_later h).mono (Nat.le_succ _)
          · exact (inv_end h).mono (Nat.le_succ _)
theorem inv_wt {n : Nat} {x : Nod} (h : Inv n x.c) : Inv n (wt1 x).c := ⟨h.s, h.a0, h.a1, h.tl, h.ll, h.k, h.t⟩
theorem inv_tic {n : Nat} {x : Nod} (h : Inv n x.c) : Inv n (ticN x).c := by
  unfold ticN
  split
  · exact h
  · split
    · exact inv_send h
    · split
      · exact inv_wt h
      · split
        · exact inv_end (inv_turn (inv_wt h))
        · exact inv_send (inv_turn (inv_wt h))
theorem inv_beg1 {n : Nat} {x : Nod} {c : Cal} (h : Inv n x.c) (hc : CalOk c) : Inv n (beg1 x c).c := ⟨h.s, h.a0, h.a1, h.tl, h.ll, hc, h.t⟩
theorem inv_step {n : Nat} {c : Clt} {i : Inp} (h : Inv n c) (hi : InpOk i) : Inv (n + 1) (stepN c i).c := by
  have h0 : Inv n (⟨c, default⟩ : Nod).c := h
  unfold stepN
  split
  · unfold begQ
    split
    · exact (inv_send (inv_beg1 h0 hi.c)).mono (Nat.le_succ _)
    · exact h0.mono (Nat.le_succ _)
  · split
    · unfold herN
      split
      · exact inv_ans h0 hi.n hi.s
      · exact h0.mono (Nat.le_succ _)
    · split
      · exact (inv_tic h0).mono (Nat.le_succ _)
      · exact h0.mono (Nat.le_succ _)
/-! the contract's conditions -/
theorem cltOk_of {n : Nat} {c : Clt} (h : Inv n c) (hN : (n + 1) * 40 ≤ 140737488355328) : CltOk c := by
  have h1 := h.tl
  have h2 := h.ll
  exact ⟨h.s, by omega, h.k, by omega, h.t⟩
theorem nodIn_of {n : Nat} {x : Nod} (h : Inv n x.c) (hN : (n + 1) * 40 ≤ 140737488355328) : NodIn x := by
  have h1 := h.tl
  exact ⟨by omega, fun t ht => by have := (h.t t ht).n; omega⟩
theorem sndOk_of {n : Nat} {x : Nod} (h : Inv n x.c) (hN : (n + 1) * 40 ≤ 140737488355328) : SndOk x := by
  have h2 := h.ll
  exact ⟨nodIn_of h hN, h.k, by omega, h.a0, h.a1⟩
theorem trnOk_of {n : Nat} {x : Nod} (h : Inv n x.c) (hN : (n + 1) * 40 ≤ 140737488355328) : TrnOk x := by
  have h2 := h.ll
  have h3 := h.a0
  have h4 := h.a1
  exact ⟨by omega, by omega⟩
theorem finOk_of {n : Nat} {x : Nod} {r : Rep} (h : Inv n x.c) (hN : (n + 2) * 40 ≤ 140737488355328) (hn : r.shards.length * 104 ≤ 281474976710656) (hs : ∀ x ∈ r.shards, ShOk x) : FinOk x r := by
  have h1 := h.tl
  have h2 := inv_finL h hn hs
  exact ⟨⟨by omega, hn, hs⟩, nodIn_of h2 hN, sndOk_of h2 hN⟩
theorem ansOk_of {n : Nat} {x : Nod} {r : Rep} (h : Inv n x.c) (hN : (n + 2) * 40 ≤ 140737488355328) (hn : r.shards.length * 104 ≤ 281474976710656) (hs : ∀ x ∈ r.shards, ShOk x) : AnsOk x r := by
  have h1 := h.tl
  have h2 := h.ll
  have h3 := h.s
  exact ⟨fun _ => finOk_of h hN hn hs, by omega, trnOk_of h (by omega), trnOk_of (inv_taken h) (by omega), sndOk_of (inv_led h) hN, by omega, by omega⟩
theorem stg_of {n : Nat} {c : Clt} {i : Inp} (h : Inv n c) (hi : InpOk i) (hN : (n + 2) * 40 ≤ 140737488355328) : StG c i (stepN c i) (stepE c i) := by
  have h0 : Inv n (⟨c, default⟩ : Nod).c := h
  exact ⟨cltOk_of h (by omega), rfl, rfl, fun _ => sndOk_of (inv_beg1 h0 hi.c) (by omega), fun _ => ⟨fun _ => ansOk_of h0 hN hi.n hi.s⟩, fun _ => ⟨fun _ _ => sndOk_of h0 (by omega), trnOk_of (inv_wt h0) (by omega), sndOk_of (inv_turn (inv_wt h0)) (by omega)⟩⟩
/-! New -/
theorem inv_new {id p : Int} {l : List Int} (hn : l.length * 8 ≤ 140737488355328) (h : newE id l p = 0) : Inv 0 (newK id l p) := by
  have hb : newB id l p = true := by
    cases hb : newB id l p
    · unfold newE at h; simp [hb] at h
    · rfl
  have h0 : ¬ l.length = 0 := by
    intro e
    unfold newB at hb
    simp [e] at hb
  unfold newK
  rw [if_pos hb]
  exact ⟨hn, Int.le_refl 0, (by show (0 : Int) < (l.length : Int); omega), Nat.le_refl 0, Nat.le_refl 0, calOk_default, fun x hx => by cases hx⟩
end Go.Proofs.YtdpbogaldcpfeaaDoor.C

/-! From the statements to the laws: the data. -/
namespace Go.Proofs.YtdpbogaldcpfeaaDoor
open Go.Ax Go.Shelf Go.RowKit Go.ChangeShapes Go.WideShapes Go.ChangeAt
set_option maxRecDepth 1000000
def toI {K : Type} : DataW K → Int
  | .lit (.int _ a) => a
  | _ => 0
def toS {K : Type} : DataW K → ByteArray
  | .lit (.string l) => ⟨l.toArray⟩
  | _ => ByteArray.empty
def toB {K : Type} : DataW K → Bool
  | .lit (.bool b) => b
  | _ => false
theorem encI_ok {K : Type} {k : IntKind} {d : DataW K} (h : (Sh.int k).wf d) : (Sh.int k).enc d = [.y (.int k (toI d))] := by
  obtain ⟨k', n, rfl, _⟩ := h
  rfl
theorem encS_ok {K : Type} {d : DataW K} (h : Sh.str.wf d) : Sh.str.enc d = [.y (.string (toS d))] := by
  obtain ⟨l, rfl, _⟩ := h
  rfl
theorem encO_ok {K : Type} {d : DataW K} (h : Sh.bool.wf d) : Sh.bool.enc d = [.y (.bool (toB d))] := by
  obtain ⟨l, rfl⟩ := h
  rfl
theorem enc_st {K : Type} (fs : List Sh) (ds : List (DataW K)) : (Sh.st fs).enc (.agg ds) = Sh.encL fs ds := by simp only [Sh.enc]
theorem enc_cons {K : Type} (s : Sh) (r : List Sh) (d : DataW K) (ds : List (DataW K)) : Sh.encL (s :: r) (d :: ds) = s.enc d ++ Sh.encL r ds := by simp only [Sh.encL]
theorem enc_nil {K : Type} (l : List (DataW K)) : Sh.encL [] l = [] := by simp only [Sh.encL]
theorem relA {P : Program} {W : World} {r : Reach} {base : Nat} {t : TypeId} {v : Value} {fs : Array Field} {l : List AV} {H : HH} {E : Env} (hu : P.underlying t = some (.struct fs)) (hv : Value.okWide P W r base t v) (h : RelL l H E v.cells.toList) : Rel (.agg l) H E v := by
  obtain ⟨cs, rfl, _⟩ := okWide_struct hu hv
  exact ⟨cs, rfl, h⟩
theorem Tryd.own : ownKnob Tryd.prog.godebug = Option.none := by kernel_rfl
theorem Tryd.laidOut : laidOutB Tryd.prog = true := by kernel_rfl
theorem Tryd.mapsRowed : mapsRowed Tryd.prog = true := by kernel_rfl
theorem Tryd.slicesOk : slicesOk Tryd.prog = true := by kernel_rfl
theorem underBool : Tryd.prog.underlying 4 = some .bool := by kernel_rfl
def structTypes (P : Program) (t : TypeId) : Option (List TypeId) := match P.underlying t with | some (.struct fs) => some (fs.toList.map (·.type)) | _ => Option.none
theorem structTypes_ok {P : Program} {t : TypeId} {l : List TypeId} (h : structTypes P t = some l) : ∃ fs, P.underlying t = some (.struct fs) ∧ fs.toList.map (·.type) = l := by
  unfold structTypes at h
  split at h
  · rename_i fs hu
    exact ⟨fs, hu, Option.some.inj h⟩
  · cases h
end Go.Proofs.YtdpbogaldcpfeaaDoor

/-! From the statements to the laws: calls, shards, replies. -/
namespace Go.Proofs.YtdpbogaldcpfeaaDoor
open Go.Ax Go.Shelf Go.RowKit Go.ChangeShapes Go.WideShapes Go.ChangeAt
set_option maxRecDepth 1000000
def shRec : Sh := .st [.int .u64, .str, .sl (.int .u8), .int .u64, .int .u64]
def toRec {K : Type} : DataW K → Rec
  | .agg [a, b, c, d, e] => ⟨toI a, toS b, listOf toI c, toI d, toI e⟩
  | _ => default
theorem relB {K : Type} {d : DataW K} (hd : (Sh.sl (.int .u8)).wf d) {H : HH} {E : Env} {v : Value} (h : Rel (slAV (.int .u8) d) H E v) : Rel (encBs true (listOf toI d)) H E v := conv_sl (encA := encB) (fun x hx => encI_ok hx) hd h
theorem rec_enc {K : Type} {d : DataW K} (hd : shRec.wf d) : ∃ a b c e f, d = .agg [a, b, c, e, f] ∧ (Sh.sl (.int .u8)).wf c ∧ shRec.enc d = [.y (.int .u64 (toI a)), .y (.string (toS b)), slAV (.int .u8) c, .y (.int .u64 (toI e)), .y (.int .u64 (toI f))] := by
  obtain ⟨ds, rfl, d1, r1, rfl, w1, d2, r2, rfl, w2, d3, r3, rfl, w3, d4, r4, rfl, w4, d5, r5, rfl, w5, rfl⟩ := hd
  refine ⟨d1, d2, d3, d4, d5, rfl, w3, ?_⟩
  simp only [shRec, enc_st, enc_cons, enc_nil, encI_ok w1, encS_ok w2, slAV_eq, encI_ok w4, encI_ok w5]
  rfl
theorem rec_conv {K : Type} {d : DataW K} (hd : shRec.wf d) (j : Nat) (hj : j < 5) (H : HH) (E : Env) (v : Value) (h : Rel (Ax.get (shRec.enc d) j) H E v) : Rel (Ax.get (encR (toRec d)) j) H E v := by
  obtain ⟨a, b, c, e, f, rfl, wc, he⟩ := rec_enc hd
  rw [he] at h
  match j, hj with
  | 0, _ => exact h
  | 1, _ => exact h
  | 2, _ => exact relB wc h
  | 3, _ => exact h
  | 4, _ => exact h
theorem relRs {K : Type} {d : DataW K} (hd : (Sh.sl shRec).wf d) {H : HH} {E : Env} {v : Value} (h : Rel (slAV shRec d) H E v) : Rel (encRs true (listOf toRec d)) H E v :=
  conv_slR (encA := encR) (fun x hx j hj H E v => rec_conv hx j hj H E v) hd h
theorem undRs : Tryd.prog.underlying 47 = some (.slice 149) := by kernel_rfl
theorem bytesR : Tryd.prog.bytesOf 149 = 64 := by kernel_rfl
theorem rs_sized {K : Type} {d : DataW K} (hw : (d.weights Tryd.prog 47).all (· ≤ reachBytes) = true) : (listOf toRec d).length * 64 ≤ 140737488351232 := by
  have := weights_slice toRec undRs hw
  rwa [bytesR] at this
def shRng : Sh := .st [.str, .str]
def toRng {K : Type} : DataW K → Rng
  | .agg [a, b] => ⟨toS a, toS b⟩
  | _ => default
theorem toRng_ok {K : Type} {d : DataW K} (h : shRng.wf d) : shRng.enc d = encG (toRng d) := by
  obtain ⟨ds, rfl, d1, r1, rfl, w1, d2, r2, rfl, w2, rfl⟩ := h
  simp only [shRng, enc_st, enc_cons, enc_nil, encS_ok w1, encS_ok w2]
  rfl
theorem weights_elem {K : Type} {P : Program} {e : TypeId} : ∀ {xs : List (DataW K)}, (DataW.weightsAll P e xs).all (· ≤ reachBytes) = true → ∀ x ∈ xs, (x.weights P e).all (· ≤ reachBytes) = true
  | [], _, _, h => by cases h
  | y :: r, h, x, hx => by
    rw [DataW.weightsAll, List.all_append, Bool.and_eq_true] at h
    rcases List.mem_cons.1 hx with rfl | hx
    · exact h.1
    · exact weights_elem h.2 x hx
theorem weights_elems {K : Type} {P : Program} {t u : TypeId} {xs r : List (DataW K)} (hu : P.underlying t = some (.slice u)) (h : ((DataW.slice xs r).weights P t).all (· ≤ reachBytes) = true) : ∀ x ∈ xs, (x.weights P u).all (· ≤ reachBytes) = true := by
  rw [DataW.weights, hu] at h
  simp only [List.all_cons, List.all_append, Bool.and_eq_true] at h
  exact weights_elem h.2.1
theorem relIs {K : Type} {d : DataW K} (hd : (Sh.sl (.int .i64)).wf d) {H : HH} {E : Env} {v : Value} (h : Rel (slAV (.int .i64) d) H E v) : Rel (C.encIs true (listOf toI d)) H E v := conv_sl (encA := encI) (fun x hx => encI_ok hx) hd h
theorem undIs : Tryd.prog.underlying 22 = some (.slice 3) := by kernel_rfl
theorem bytesI : Tryd.prog.bytesOf 3 = 8 := by kernel_rfl
theorem is_sized {K : Type} {d : DataW K} (hw : (d.weights Tryd.prog 22).all (· ≤ reachBytes) = true) : (listOf toI d).length * 8 ≤ 140737488351232 := by
  have := weights_slice toI undIs hw
  rwa [bytesI] at this
theorem undBs : Tryd.prog.underlying 28 = some (.slice 5) := by kernel_rfl
theorem bytesB : Tryd.prog.bytesOf 5 = 1 := by kernel_rfl
theorem bs_sized {K : Type} {d : DataW K} (hw : (d.weights Tryd.prog 28).all (· ≤ reachBytes) = true) : (listOf toI d).length ≤ 140737488351232 := by
  have := weights_slice toI undBs hw
  rwa [bytesB, Nat.mul_one] at this
/-! shards -/
def shShd : Sh := .st [.int .u64, shRng, .int .u64, .sl (.int .i64), .sl (.int .i64), .int .u64]
def toShd {K : Type} : DataW K → C.Shd
  | .agg [a, b, c, d, e, f] => ⟨toI a, toRng b, toI c, listOf toI d, listOf toI e, toI f⟩
  | _ => default
theorem shd_enc {K : Type} {d : DataW K} (hd : shShd.wf d) : ∃ a1 a2 a3 a4 a5 a6, d = .agg [a1, a2, a3, a4, a5, a6] ∧ (Sh.sl (.int .i64)).wf a4 ∧ (Sh.sl (.int .i64)).wf a5 ∧ shShd.enc d = [.y (.int .u64 (toI a1)), .y (.string (toRng a2).lo), .y (.string (toRng a2).hi), .y (.int .u64 (toI a3)), slAV (.int .i64) a4, slAV (.int .i64) a5, .y (.int .u64 (toI a6))] := by
  obtain ⟨ds, rfl, d1, r1, rfl, w1, d2, r2, rfl, w2, d3, r3, rfl, w3, d4, r4, rfl, w4, d5, r5, rfl, w5, d6, r6, rfl, w6, rfl⟩ := hd
  refine ⟨d1, d2, d3, d4, d5, d6, rfl, w4, w5, ?_⟩
  simp only [shShd, enc_st, enc_cons, enc_nil, encI_ok w1, toRng_ok w2, encI_ok w3, slAV_eq, encI_ok w6]
  rfl
theorem shd_conv {K : Type} {d : DataW K} (hd : shShd.wf d) (j : Nat) (hj : j < 7) (H : HH) (E : Env) (v : Value) (h : Rel (Ax.get (shShd.enc d) j) H E v) : Rel (Ax.get (C.encSh (toShd d)) j) H E v := by
  obtain ⟨a1, a2, a3, a4, a5, a6, rfl, w4, w5, he⟩ := shd_enc hd
  rw [he] at h
  match j, hj with
  | 0, _ => exact h
  | 1, _ => exact h
  | 2, _ => exact h
  | 3, _ => exact h
  | 4, _ => exact relIs w4 h
  | 5, _ => exact relIs w5 h
  | 6, _ => exact h
theorem relShs {K : Type} {d : DataW K} (hd : (Sh.sl shShd).wf d) {H : HH} {E : Env} {v : Value} (h : Rel (slAV shShd d) H E v) : Rel (C.encShs true (listOf toShd d)) H E v :=
  conv_slR (encA := C.encSh) (fun x hx j hj H E v => shd_conv hx j hj H E v) hd h
theorem undShs : Tryd.prog.underlying 50 = some (.slice 68) := by kernel_rfl
theorem bytesSh : Tryd.prog.bytesOf 68 = 104 := by kernel_rfl
theorem undShd : ∃ fs, Tryd.prog.underlying 68 = some (.struct fs) ∧ fs.toList.map (·.type) = [23, 66, 23, 22, 22, 23] := structTypes_ok (by kernel_rfl)
theorem shd_sized {K : Type} {d : DataW K} (hd : shShd.wf d) (hw : (d.weights Tryd.prog 68).all (· ≤ reachBytes) = true) : C.ShOk (toShd d) := by
  obtain ⟨a1, a2, a3, a4, a5, a6, rfl, w4, w5, he⟩ := shd_enc hd
  obtain ⟨fs, hf, ht⟩ := undShd
  have h := weights_struct hf hw
  rw [ht] at h
  obtain ⟨_, h⟩ := weights_cons h
  obtain ⟨_, h⟩ := weights_cons h
  obtain ⟨_, h⟩ := weights_cons h
  obtain ⟨h4, h⟩ := weights_cons h
  obtain ⟨h5, _⟩ := weights_cons h
  exact ⟨by have := is_sized h4; show (listOf toI a4).length * 8 ≤ _; omega, by have := is_sized h5; show (listOf toI a5).length * 8 ≤ _; omega⟩
theorem shs_sized {K : Type} {d : DataW K} (hd : (Sh.sl shShd).wf d) (hw : (d.weights Tryd.prog 50).all (· ≤ reachBytes) = true) : (listOf toShd d).length * 104 ≤ 140737488355328 ∧ ∀ x ∈ listOf toShd d, C.ShOk x := by
  refine ⟨?_, ?_⟩
  · have := weights_slice toShd undShs hw
    rw [bytesSh] at this
    omega
  · rcases hd with rfl | ⟨xs, r, rfl, hx⟩
    · intro y hy; cases hy
    · intro y hy
      obtain ⟨x, hx', rfl⟩ := List.mem_map.1 hy
      exact shd_sized (hx x hx') (weights_elems undShs hw x hx')
/-! calls -/
def shAd : Sh := .st [.int .i64, .int .u64, .int .u64, .str, .sl (.int .i64), .int .u64, .int .u64, .str, .int .i64, .int .i64, .int .u64, .int .i64]
def toAd {K : Type} : DataW K → C.Adm
  | .agg [a, b, c, d, e, f, g, h, i, j, k, l] => ⟨toI a, toI b, toI c, toS d, listOf toI e, toI f, toI g, toS h, toI i, toI j, toI k, toI l⟩
  | _ => default
def shCal : Sh := .st [.int .i64, .str, .str, .sl (.int .u8), .int .u64, .int .i64, .str, shAd]
def toCal {K : Type} : DataW K → C.Cal
  | .agg [a, b, c, d, e, f, g, h] => ⟨toI a, toS b, toS c, listOf toI d, toI e, toI f, toS g, toAd h⟩
  | _ => default
theorem relCal {K : Type} {d : DataW K} (hd : shCal.wf d) {H : HH} {E : Env} {vs : List Value} (h : RelL (shCal.enc d) H E vs) : RelL (C.encCl (toCal d)) H E vs := by
  obtain ⟨ds, rfl, d1, r1, rfl, w1, d2, r2, rfl, w2, d3, r3, rfl, w3, d4, r4, rfl, w4, d5, r5, rfl, w5, d6, r6, rfl, w6, d7, r7, rfl, w7, d8, r8, rfl, w8, rfl⟩ := hd
  obtain ⟨es, rfl, e1, s1, rfl, x1, e2, s2, rfl, x2, e3, s3, rfl, x3, e4, s4, rfl, x4, e5, s5, rfl, x5, e6, s6, rfl, x6, e7, s7, rfl, x7, e8, s8, rfl, x8, e9, s9, rfl, x9, e10, s10, rfl, x10, e11, s11, rfl, x11, e12, s12, rfl, x12, rfl⟩ := w8
  have e : shCal.enc (DataW.agg [d1, d2, d3, d4, d5, d6, d7, .agg [e1, e2, e3, e4, e5, e6, e7, e8, e9, e10, e11, e12]]) = [.y (.int .i64 (toI d1)), .y (.string (toS d2)), .y (.string (toS d3)), slAV (.int .u8) d4, .y (.int .u64 (toI d5)), .y (.int .i64 (toI d6)), .y (.string (toS d7)), .y (.int .i64 (toI e1)), .y (.int .u64 (toI e2)), .y (.int .u64 (toI e3)), .y (.string (toS e4)), slAV (.int .i64) e5, .y (.int .u64 (toI e6)), .y (.int .u64 (toI e7)), .y (.string (toS e8)), .y (.int .i64 (toI e9)), .y (.int .i64 (toI e10)), .y (.int .u64 (toI e11)), .y (.int .i64 (toI e12))] := by
    simp only [shCal, shAd, enc_st, enc_cons, enc_nil, slAV_eq, encI_ok w1, encS_ok w2, encS_ok w3, encI_ok w5, encI_ok w6, encS_ok w7, encI_ok x1, encI_ok x2, encI_ok x3, encS_ok x4, encI_ok x6, encI_ok x7, encS_ok x8, encI_ok x9, encI_ok x10, encI_ok x11, encI_ok x12]
    rfl
  rw [e] at h
  obtain ⟨v1, y1, rfl, h1, v2, y2, rfl, h2, v3, y3, rfl, h3, v4, y4, rfl, h4, v5, y5, rfl, h5, v6, y6, rfl, h6, v7, y7, rfl, h7, v8, y8, rfl, h8, v9, y9, rfl, h9, v10, y10, rfl, h10, v11, y11, rfl, h11, v12, y12, rfl, h12, v13, y13, rfl, h13, v14, y14, rfl, h14, v15, y15, rfl, h15, v16, y16, rfl, h16, v17, y17, rfl, h17, v18, y18, rfl, h18, v19, y19, rfl, h19, rfl⟩ := h
  exact ⟨_, _, rfl, h1, _, _, rfl, h2, _, _, rfl, h3, _, _, rfl, relB w4 h4, _, _, rfl, h5, _, _, rfl, h6, _, _, rfl, h7, _, _, rfl, h8, _, _, rfl, h9, _, _, rfl, h10, _, _, rfl, h11, _, _, rfl, relIs x5 h12, _, _, rfl, h13, _, _, rfl, h14, _, _, rfl, h15, _, _, rfl, h16, _, _, rfl, h17, _, _, rfl, h18, _, _, rfl, h19, rfl⟩
theorem undCal : ∃ fs, Tryd.prog.underlying 33 = some (.struct fs) ∧ fs.toList.map (·.type) = [27, 9, 9, 28, 23, 3, 9, 31] := structTypes_ok (by kernel_rfl)
theorem undAd : ∃ fs, Tryd.prog.underlying 31 = some (.struct fs) ∧ fs.toList.map (·.type) = [29, 23, 23, 9, 22, 23, 23, 9, 3, 3, 23, 3] := structTypes_ok (by kernel_rfl)
theorem cal_sized {K : Type} {d : DataW K} (hd : shCal.wf d) (hw : (d.weights Tryd.prog 33).all (· ≤ reachBytes) = true) : C.CalOk (toCal d) := by
  obtain ⟨ds, rfl, d1, r1, rfl, w1, d2, r2, rfl, w2, d3, r3, rfl, w3, d4, r4, rfl, w4, d5, r5, rfl, w5, d6, r6, rfl, w6, d7, r7, rfl, w7, d8, r8, rfl, w8, rfl⟩ := hd
  obtain ⟨es, rfl, e1, s1, rfl, x1, e2, s2, rfl, x2, e3, s3, rfl, x3, e4, s4, rfl, x4, e5, s5, rfl, x5, e6, s6, rfl, x6, e7, s7, rfl, x7, e8, s8, rfl, x8, e9, s9, rfl, x9, e10, s10, rfl, x10, e11, s11, rfl, x11, e12, s12, rfl, x12, rfl⟩ := w8
  obtain ⟨fs, hf, ht⟩ := undCal
  have h := weights_struct hf hw
  rw [ht] at h
  obtain ⟨_, h⟩ := weights_cons h
  obtain ⟨_, h⟩ := weights_cons h
  obtain ⟨_, h⟩ := weights_cons h
  obtain ⟨h4, h⟩ := weights_cons h
  obtain ⟨_, h⟩ := weights_cons h
  obtain ⟨_, h⟩ := weights_cons h
  obtain ⟨_, h⟩ := weights_cons h
  obtain ⟨h8, _⟩ := weights_cons h
  obtain ⟨gs, hg, gt⟩ := undAd
  have k := weights_struct hg h8
  rw [gt] at k
  obtain ⟨_, k⟩ := weights_cons k
  obtain ⟨_, k⟩ := weights_cons k
  obtain ⟨_, k⟩ := weights_cons k
  obtain ⟨_, k⟩ := weights_cons k
  obtain ⟨k5, _⟩ := weights_cons k
  exact ⟨by have := bs_sized h4; show (listOf toI d4).length ≤ _; omega, by have := is_sized k5; show (listOf toI e5).length * 8 ≤ _; omega⟩
/-! replies -/
def shRes : Sh := .st [.int .i64, .int .u64, .bool, .sl shRec]
def shRep : Sh := .st [.int .u64, .int .i64, .int .i64, shRes, .int .u64, .sl shShd, .int .u64, .int .u64, .int .u64]
def toRep {K : Type} : DataW K → C.Rep
  | .agg [a, b, c, .agg [d, e, f, g], h, i, j, k, l] => ⟨toI a, toI b, toI c, toI d, toI e, toB f, listOf toRec g, toI h, listOf toShd i, toI j, toI k, toI l⟩
  | _ => default
theorem rep_enc {K : Type} {d : DataW K} (hd : shRep.wf d) : ∃ d1 d2 d3 e1 e2 e3 e4 d5 d6 d7 d8 d9, d = .agg [d1, d2, d3, .agg [e1, e2, e3, e4], d5, d6, d7, d8, d9] ∧ (Sh.sl shRec).wf e4 ∧ (Sh.sl shShd).wf d6 ∧ shRep.enc d = [.y (.int .u64 (toI d1)), .y (.int .i64 (toI d2)), .y (.int .i64 (toI d3)), .y (.int .i64 (toI e1)), .y (.int .u64 (toI e2)), .y (.bool (toB e3)), slAV shRec e4, .y (.int .u64 (toI d5)), slAV shShd d6, .y (.int .u64 (toI d7)), .y (.int .u64 (toI d8)), .y (.int .u64 (toI d9))] := by
  obtain ⟨ds, rfl, d1, r1, rfl, w1, d2, r2, rfl, w2, d3, r3, rfl, w3, d4, r4, rfl, w4, d5, r5, rfl, w5, d6, r6, rfl, w6, d7, r7, rfl, w7, d8, r8, rfl, w8, d9, r9, rfl, w9, rfl⟩ := hd
  obtain ⟨es, rfl, e1, s1, rfl, x1, e2, s2, rfl, x2, e3, s3, rfl, x3, e4, s4, rfl, x4, rfl⟩ := w4
  refine ⟨d1, d2, d3, e1, e2, e3, e4, d5, d6, d7, d8, d9, rfl, x4, w6, ?_⟩
  simp only [shRep, shRes, enc_st, enc_cons, enc_nil, slAV_eq, encI_ok w1, encI_ok w2, encI_ok w3, encI_ok w5, encI_ok w7, encI_ok w8, encI_ok w9, encI_ok x1, encI_ok x2, encO_ok x3]
  rfl
theorem undRep : ∃ fs, Tryd.prog.underlying 52 = some (.struct fs) ∧ fs.toList.map (·.type) = [23, 36, 3, 49, 23, 50, 23, 23, 23] := structTypes_ok (by kernel_rfl)
theorem undRes : ∃ fs, Tryd.prog.underlying 49 = some (.struct fs) ∧ fs.toList.map (·.type) = [36, 23, 4, 47] := structTypes_ok (by kernel_rfl)
structure RepSz (r : C.Rep) : Prop where
  rc : r.recs.length * 64 ≤ 140737488351232
  rl : r.shards.length * 104 ≤ 140737488355328
  rs : ∀ x ∈ r.shards, C.ShOk x
theorem rep_sized {K : Type} {d : DataW K} (hd : shRep.wf d) (hw : (d.weights Tryd.prog 52).all (· ≤ reachBytes) = true) : RepSz (toRep d) := by
  obtain ⟨d1, d2, d3, e1, e2, e3, e4, d5, d6, d7, d8, d9, rfl, x4, w6, e⟩ := rep_enc hd
  obtain ⟨fs, hf, ht⟩ := undRep
  have h := weights_struct hf hw
  rw [ht] at h
  obtain ⟨_, h⟩ := weights_cons h
  obtain ⟨_, h⟩ := weights_cons h
  obtain ⟨_, h⟩ := weights_cons h
  obtain ⟨h4, h⟩ := weights_cons h
  obtain ⟨_, h⟩ := weights_cons h
  obtain ⟨h6, _⟩ := weights_cons h
  obtain ⟨gs, hg, gt⟩ := undRes
  have k := weights_struct hg h4
  rw [gt] at k
  obtain ⟨_, k⟩ := weights_cons k
  obtain ⟨_, k⟩ := weights_cons k
  obtain ⟨_, k⟩ := weights_cons k
  obtain ⟨k4, _⟩ := weights_cons k
  have s := shs_sized w6 h6
  exact ⟨rs_sized k4, s.1, s.2⟩
/-! inputs -/
def convL (H : HH) (E : Env) : List AV → List AV → Prop
  | [], [] => True
  | a :: r, b :: s => (∀ v, Rel a H E v → Rel b H E v) ∧ convL H E r s
  | _, _ => False
theorem convL_at {H : HH} {E : Env} : ∀ {l l' : List AV}, convL H E l l' → ∀ (j : Nat) (v : Value), Rel (Ax.get l j) H E v → Rel (Ax.get l' j) H E v
  | [], [], _, _, _, h => h
  | _ :: _, _ :: _, h, 0, v, hv => h.1 v hv
  | _ :: _, _ :: _, h, j + 1, v, hv => convL_at h.2 j v hv
  | [], _ :: _, h, _, _, _ => h.elim
  | _ :: _, [], h, _, _, _ => h.elim
end Go.Proofs.YtdpbogaldcpfeaaDoor

/-! A client: a reply is like itself. -/
namespace Go.Proofs.YtdpbogaldcpfeaaDoor.C
open Go.Ax
set_option maxRecDepth 1000000
/-! records -/
/-! shards -/
/-! replies -/
end Go.Proofs.YtdpbogaldcpfeaaDoor.C

/-! A client is like itself: the conditions. -/
namespace Go.Proofs.YtdpbogaldcpfeaaDoor.C
open Go.Ax
set_option maxRecDepth 1000000
/-! the client -/
end Go.Proofs.YtdpbogaldcpfeaaDoor.C

/-! A call ends: the conditions. -/
--fold
namespace Go.Proofs.YtdpbogaldcpfeaaDoor.C
open Go.Ax
set_option maxRecDepth 1000000
def encReps (l : List Rep) : AV := .ys true 12 l.length (cellsOf' encRp l)
/-- the client, what it did, how often it asked -/
structure Run where
  c : Clt
  o : Out
  n : Int
instance : Inhabited Run := ⟨⟨default, default, 0⟩⟩
def phi (c : Clt) : Int := (24 - c.tries) * 13 + (if c.again = true then 1 else 12 - c.waited)
/-- it is under way, and will end -/
structure EndI (m i : Nat) (s : Run) : Prop where
  iv : Inv m s.c
  b : s.c.busy = true
  n : s.n = s.c.tries
  t1 : 1 ≤ s.c.tries
  t2 : s.c.tries ≤ 24
  w0 : 0 ≤ s.c.waited
  w1 : s.c.waited ≤ 11
  p : phi s.c + i ≤ 312
structure EI (l : List Rep) (i : Nat) where
  k : Nat
  s : Run
  kl : k ≤ 5
  e : EndI (6 * i + k + 1) i s
def eT (l : List Rep) (n : Int) (i : Nat) : List (Nat × AV) := [(3, encReps l), (10, .ptr 1 0 0 0), (12, .ptr 4 0 0 0), (14, .y (.int .i64 n)), (15, .y (.int .i64 i))]
def eM (c : Clt) (o : Out) : List Blk := [.dead, .box 35 (encC0 true c), .dead, .dead, .box 54 (encOu o)]
def eiT (l : List Rep) (i : Nat) (q : EI l i) : List AV := mkT 115 (eT l q.s.n i ++ [(16, .y (.int .i64 q.k))])
def eiS (l : List Rep) (i : Nat) (r : Bool × Run) : Exit × List AV × List Blk := match r.1 with
  | true => (.ret, mkT 115 [(8, .y (.bool true))], [])
  | false => (.exit 2, mkT 115 (eT l r.2.n i), eM r.2.c r.2.o)
noncomputable def eiH (c : Clt) (r : Rep) (y : Nod) : HintsT Tryd.prog := withSh (hh _ noLp (cs1 5 19 3 (stG true c ⟨2, default, r⟩ y 0) noCs) noOp) (sh1 5 19 5 779 noSh)
def eO (b : Bool) (s : Run) : T (Bool × Run) := .ite b (.ret (true, s)) (.ret (false, s))
def vcEiL_q1 (l : List Rep) (i : Nat) (B : EI l i → Bool) (R : EI l i → Run) (q : EI l i) : Prop := (B q = false → ((true = true ∧ List.length l = List.length l ∧ contLe (List.length l) (12 : Nat) (cellsOf' encRp l) (cellsOf' encRp l)) ∧ ((0 : Nat) = (0 : Nat) ∧ (0 : Nat) = (0 : Nat)) ∧ ((0 : Nat) = (0 : Nat) ∧ (0 : Nat) = (0 : Nat)) ∧ q.s.n = (R q).n ∧ (↑i : Int) = (↑i : Int) ∧ True) ∧ ((q.s.c.id = (R q).c.id ∧ (true = true ∧ List.length q.s.c.servers = List.length (R q).c.servers ∧ contLe (List.length q.s.c.servers) (1 : Nat) (cellsOf' encI q.s.c.servers) (cellsOf' encI (R q).c.servers)) ∧ q.s.c.prod = (R q).c.prod ∧ q.s.c.seq = (R q).c.seq ∧ (true = true ∧ List.length q.s.c.topics = List.length (R q).c.topics ∧ contLe (List.length q.s.c.topics) (2 : Nat) (cellsOf' encTp q.s.c.topics) (cellsOf' encTp (R q).c.topics)) ∧ (true = true ∧ List.length q.s.c.leaders = List.length (R q).c.leaders ∧ contLe (List.length q.s.c.leaders) (2 : Nat) (cellsOf' encSi q.s.c.leaders) (cellsOf' encSi (R q).c.leaders)) ∧ q.s.c.busy = (R q).c.busy ∧ q.s.c.call.kind = (R q).c.call.kind ∧ q.s.c.call.topic = (R q).c.call.topic ∧ q.s.c.call.key = (R q).c.call.key ∧ (true = true ∧ List.length q.s.c.call.val = List.length (R q).c.call.val ∧ contLe (List.length q.s.c.call.val) (1 : Nat) (cellsOf' encB q.s.c.call.val) (cellsOf' encB (R q).c.call.val)) ∧ q.s.c.call.off = (R q).c.call.off ∧ q.s.c.call.most = (R q).c.call.most ∧ q.s.c.call.name = (R q).c.call.name ∧ q.s.c.call.adm.kind = (R q).c.call.adm.kind ∧ q.s.c.call.adm.prod = (R q).c.call.adm.prod ∧ q.s.c.call.adm.seq = (R q).c.call.adm.seq ∧ q.s.c.call.adm.topic = (R q).c.call.adm.topic ∧ (true = true ∧ List.length q.s.c.call.adm.nodes = List.length (R q).c.call.adm.nodes ∧ contLe (List.length q.s.c.call.adm.nodes) (1 : Nat) (cellsOf' encI q.s.c.call.adm.nodes) (cellsOf' encI (R q).c.call.adm.nodes)) ∧ q.s.c.call.adm.group = (R q).c.call.adm.group ∧ q.s.c.call.adm.other = (R q).c.call.adm.other ∧ q.s.c.call.adm.key = (R q).c.call.adm.key ∧ q.s.c.call.adm.fr = (R q).c.call.adm.fr ∧ q.s.c.call.adm.to = (R q).c.call.adm.to ∧ q.s.c.call.adm.plan = (R q).c.call.adm.plan ∧ q.s.c.call.adm.step = (R q).c.call.adm.step ∧ q.s.c.number = (R q).c.number ∧ q.s.c.route = (R q).c.route ∧ q.s.c.group = (R q).c.group ∧ q.s.c.tries = (R q).c.tries ∧ q.s.c.waited = (R q).c.waited ∧ q.s.c.again = (R q).c.again ∧ q.s.c.at' = (R q).c.at' ∧ True) ∧ (q.s.o.send = (R q).o.send ∧ q.s.o.to = (R q).o.to ∧ q.s.o.req.id = (R q).o.req.id ∧ q.s.o.req.kind = (R q).o.req.kind ∧ q.s.o.req.group = (R q).o.req.group ∧ q.s.o.req.part.kind = (R q).o.req.part.kind ∧ q.s.o.req.part.epoch = (R q).o.req.part.epoch ∧ q.s.o.req.part.prod = (R q).o.req.part.prod ∧ q.s.o.req.part.seq = (R q).o.req.part.seq ∧ q.s.o.req.part.key = (R q).o.req.part.key ∧ (true = true ∧ List.length q.s.o.req.part.val = List.length (R q).o.req.part.val ∧ contLe (List.length q.s.o.req.part.val) (1 : Nat) (cellsOf' encB q.s.o.req.part.val) (cellsOf' encB (R q).o.req.part.val)) ∧ q.s.o.req.part.off = (R q).o.req.part.off ∧ q.s.o.req.part.most = (R q).o.req.part.most ∧ q.s.o.req.part.name = (R q).o.req.part.name ∧ q.s.o.req.part.plan = (R q).o.req.part.plan ∧ q.s.o.req.adm.kind = (R q).o.req.adm.kind ∧ q.s.o.req.adm.prod = (R q).o.req.adm.prod ∧ q.s.o.req.adm.seq = (R q).o.req.adm.seq ∧ q.s.o.req.adm.topic = (R q).o.req.adm.topic ∧ (true = true ∧ List.length q.s.o.req.adm.nodes = List.length (R q).o.req.adm.nodes ∧ contLe (List.length q.s.o.req.adm.nodes) (1 : Nat) (cellsOf' encI q.s.o.req.adm.nodes) (cellsOf' encI (R q).o.req.adm.nodes)) ∧ q.s.o.req.adm.group = (R q).o.req.adm.group ∧ q.s.o.req.adm.other = (R q).o.req.adm.other ∧ q.s.o.req.adm.key = (R q).o.req.adm.key ∧ q.s.o.req.adm.fr = (R q).o.req.adm.fr ∧ q.s.o.req.adm.to = (R q).o.req.adm.to ∧ q.s.o.req.adm.plan = (R q).o.req.adm.plan ∧ q.s.o.req.adm.step = (R q).o.req.adm.step ∧ q.s.o.req.topic = (R q).o.req.topic ∧ q.s.o.done = (R q).o.done ∧ q.s.o.rep.id = (R q).o.rep.id ∧ q.s.o.rep.err = (R q).o.rep.err ∧ q.s.o.rep.leader = (R q).o.rep.leader ∧ q.s.o.rep.rerr = (R q).o.rep.rerr ∧ q.s.o.rep.roff = (R q).o.rep.roff ∧ q.s.o.rep.rold = (R q).o.rep.rold ∧ (true = true ∧ List.length q.s.o.rep.recs = List.length (R q).o.rep.recs ∧ contLe (List.length q.s.o.rep.recs) (5 : Nat) (cellsOf' encR q.s.o.rep.recs) (cellsOf' encR (R q).o.rep.recs)) ∧ q.s.o.rep.number = (R q).o.rep.number ∧ (true = true ∧ List.length q.s.o.rep.shards = List.length (R q).o.rep.shards ∧ contLe (List.length q.s.o.rep.shards) (7 : Nat) (cellsOf' encSh q.s.o.rep.shards) (cellsOf' encSh (R q).o.rep.shards)) ∧ q.s.o.rep.group = (R q).o.rep.group ∧ q.s.o.rep.index = (R q).o.rep.index ∧ q.s.o.rep.term = (R q).o.rep.term ∧ True) ∧ True) ∧ true = true)
def vcEiL (l : List Rep) (i : Nat) (B : EI l i → Bool) (R : EI l i → Run) (r : Rep) (y : Nod) (q : EI l i) : Prop :=
  (decide ((↑q.k : Int) < (↑(List.length l) : Int)) = true → (decide ((↑q.k : Int) < (5 : Int)) = true → decide ((↑(List.length l) : Int) ≠ (0 : Int)) = true ∧ (decide ((0 : Int) ≤ Int.tmod (IntKind.wrap IntKind.i64 ((↑i : Int) + (↑q.k : Int))) (↑(List.length l) : Int)) && decide (Int.tmod (IntKind.wrap IntKind.i64 ((↑i : Int) + (↑q.k : Int))) (↑(List.length l) : Int) < (↑(List.length l) : Int))) = true ∧ ((q.s.c.id = q.s.c.id ∧ (true = true ∧ List.length q.s.c.servers = List.length q.s.c.servers ∧ contLe (List.length q.s.c.servers) (1 : Nat) (cellsOf' encI q.s.c.servers) (cellsOf' encI q.s.c.servers)) ∧ q.s.c.prod = q.s.c.prod ∧ q.s.c.seq = q.s.c.seq ∧ (true = true ∧ List.length q.s.c.topics = List.length q.s.c.topics ∧ contLe (List.length q.s.c.topics) (2 : Nat) (cellsOf' encTp q.s.c.topics) (cellsOf' encTp q.s.c.topics)) ∧ (true = true ∧ List.length q.s.c.leaders = List.length q.s.c.leaders ∧ contLe (List.length q.s.c.leaders) (2 : Nat) (cellsOf' encSi q.s.c.leaders) (cellsOf' encSi q.s.c.leaders)) ∧ q.s.c.busy = q.s.c.busy ∧ q.s.c.call.kind = q.s.c.call.kind ∧ q.s.c.call.topic = q.s.c.call.topic ∧ q.s.c.call.key = q.s.c.call.key ∧ (true = true ∧ List.length q.s.c.call.val = List.length q.s.c.call.val ∧ contLe (List.length q.s.c.call.val) (1 : Nat) (cellsOf' encB q.s.c.call.val) (cellsOf' encB q.s.c.call.val)) ∧ q.s.c.call.off = q.s.c.call.off ∧ q.s.c.call.most = q.s.c.call.most ∧ q.s.c.call.name = q.s.c.call.name ∧ q.s.c.call.adm.kind = q.s.c.call.adm.kind ∧ q.s.c.call.adm.prod = q.s.c.call.adm.prod ∧ q.s.c.call.adm.seq = q.s.c.call.adm.seq ∧ q.s.c.call.adm.topic = q.s.c.call.adm.topic ∧ (true = true ∧ List.length q.s.c.call.adm.nodes = List.length q.s.c.call.adm.nodes ∧ contLe (List.length q.s.c.call.adm.nodes) (1 : Nat) (cellsOf' encI q.s.c.call.adm.nodes) (cellsOf' encI q.s.c.call.adm.nodes)) ∧ q.s.c.call.adm.group = q.s.c.call.adm.group ∧ q.s.c.call.adm.other = q.s.c.call.adm.other ∧ q.s.c.call.adm.key = q.s.c.call.adm.key ∧ q.s.c.call.adm.fr = q.s.c.call.adm.fr ∧ q.s.c.call.adm.to = q.s.c.call.adm.to ∧ q.s.c.call.adm.plan = q.s.c.call.adm.plan ∧ q.s.c.call.adm.step = q.s.c.call.adm.step ∧ q.s.c.number = q.s.c.number ∧ q.s.c.route = q.s.c.route ∧ q.s.c.group = q.s.c.group ∧ q.s.c.tries = q.s.c.tries ∧ q.s.c.waited = q.s.c.waited ∧ q.s.c.again = q.s.c.again ∧ q.s.c.at' = q.s.c.at' ∧ True) ∧ ((2 : Int) = (2 : Int) ∧ (0 : Int) = (0 : Int) ∧ { data := #[] : ByteArray } = ByteArray.empty ∧ { data := #[] : ByteArray } = ByteArray.empty ∧ (0 : Nat) = (0 : Nat) ∧ (0 : Int) = (0 : Int) ∧ (0 : Int) = (0 : Int) ∧ { data := #[] : ByteArray } = ByteArray.empty ∧ (0 : Int) = (0 : Int) ∧ (0 : Int) = (0 : Int) ∧ (0 : Int) = (0 : Int) ∧ { data := #[] : ByteArray } = ByteArray.empty ∧ (0 : Nat) = (0 : Nat) ∧ (0 : Int) = (0 : Int) ∧ (0 : Int) = (0 : Int) ∧ { data := #[] : ByteArray } = ByteArray.empty ∧ (0 : Int) = (0 : Int) ∧ (0 : Int) = (0 : Int) ∧ (0 : Int) = (0 : Int) ∧ (0 : Int) = (0 : Int) ∧ q.s.c.number = r.id ∧ (List.getD l (Int.toNat (Int.tmod (IntKind.wrap IntKind.i64 ((↑i : Int) + (↑q.k : Int))) (↑(List.length l) : Int))) (@default Rep instInhabitedRep)).err = r.err ∧ (List.getD l (Int.toNat (Int.tmod (IntKind.wrap IntKind.i64 ((↑i : Int) + (↑q.k : Int))) (↑(List.length l) : Int))) (@default Rep instInhabitedRep)).leader = r.leader ∧ (List.getD l (Int.toNat (Int.tmod (IntKind.wrap IntKind.i64 ((↑i : Int) + (↑q.k : Int))) (↑(List.length l) : Int))) (@default Rep instInhabitedRep)).rerr = r.rerr ∧ (List.getD l (Int.toNat (Int.tmod (IntKind.wrap IntKind.i64 ((↑i : Int) + (↑q.k : Int))) (↑(List.length l) : Int))) (@default Rep instInhabitedRep)).roff = r.roff ∧ (List.getD l (Int.toNat (Int.tmod (IntKind.wrap IntKind.i64 ((↑i : Int) + (↑q.k : Int))) (↑(List.length l) : Int))) (@default Rep instInhabitedRep)).rold = r.rold ∧ (true = true ∧ List.length (List.getD l (Int.toNat (Int.tmod (IntKind.wrap IntKind.i64 ((↑i : Int) + (↑q.k : Int))) (↑(List.length l) : Int))) (@default Rep instInhabitedRep)).recs = List.length r.recs ∧ contLe (List.length (List.getD l (Int.toNat (Int.tmod (IntKind.wrap IntKind.i64 ((↑i : Int) + (↑q.k : Int))) (↑(List.length l) : Int))) (@default Rep instInhabitedRep)).recs) (5 : Nat) (cellsOf' encR (List.getD l (Int.toNat (Int.tmod (IntKind.wrap IntKind.i64 ((↑i : Int) + (↑q.k : Int))) (↑(List.length l) : Int))) (@default Rep instInhabitedRep)).recs) (cellsOf' encR r.recs)) ∧ (List.getD l (Int.toNat (Int.tmod (IntKind.wrap IntKind.i64 ((↑i : Int) + (↑q.k : Int))) (↑(List.length l) : Int))) (@default Rep instInhabitedRep)).number = r.number ∧ (true = true ∧ List.length (List.getD l (Int.toNat (Int.tmod (IntKind.wrap IntKind.i64 ((↑i : Int) + (↑q.k : Int))) (↑(List.length l) : Int))) (@default Rep instInhabitedRep)).shards = List.length r.shards ∧ contLe (List.length (List.getD l (Int.toNat (Int.tmod (IntKind.wrap IntKind.i64 ((↑i : Int) + (↑q.k : Int))) (↑(List.length l) : Int))) (@default Rep instInhabitedRep)).shards) (7 : Nat) (cellsOf' encSh (List.getD l (Int.toNat (Int.tmod (IntKind.wrap IntKind.i64 ((↑i : Int) + (↑q.k : Int))) (↑(List.length l) : Int))) (@default Rep instInhabitedRep)).shards) (cellsOf' encSh r.shards)) ∧ (List.getD l (Int.toNat (Int.tmod (IntKind.wrap IntKind.i64 ((↑i : Int) + (↑q.k : Int))) (↑(List.length l) : Int))) (@default Rep instInhabitedRep)).group = r.group ∧ (List.getD l (Int.toNat (Int.tmod (IntKind.wrap IntKind.i64 ((↑i : Int) + (↑q.k : Int))) (↑(List.length l) : Int))) (@default Rep instInhabitedRep)).index = r.index ∧ (List.getD l (Int.toNat (Int.tmod (IntKind.wrap IntKind.i64 ((↑i : Int) + (↑q.k : Int))) (↑(List.length l) : Int))) (@default Rep instInhabitedRep)).term = r.term ∧ True) ∧ True) ∧ True ∧ StG q.s.c { kind := (2 : Int), call := @default Cal instInhabitedCal, rep := r : Inp } y (0 : Int) ∧ (∀ (k : Nat), k < List.length y.c.topics → ∀ (j : Nat), j < (2 : Nat) → tagT (cellsOf' encTp y.c.topics k j) = true) ∧ (∀ (k : Nat), k < List.length y.c.leaders → ∀ (j : Nat), j < (2 : Nat) → tagT (cellsOf' encSi y.c.leaders k j) = true) ∧ (y.o.send = true → (y.o.done = true → (decide (IntKind.wrap IntKind.i64 (q.s.n + (1 : Int)) ≤ (24 : Int)) = true → (B q = true → ((!y.c.busy) = true ∧ True) ∧ True ∧ true = true) ∧ (B q = false → False)) ∧ (decide (IntKind.wrap IntKind.i64 (q.s.n + (1 : Int)) ≤ (24 : Int)) = false → (B q = true → (false = true ∧ True) ∧ True ∧ true = true) ∧ (B q = false → False))) ∧ (y.o.done = false → ∃ (j : EI l i), (5 : Nat) - j.k < (5 : Nat) - q.k ∧ (((true = true ∧ List.length l = List.length l ∧ contLe (List.length l) (12 : Nat) (cellsOf' encRp l) (cellsOf' encRp l)) ∧ ((0 : Nat) = (0 : Nat) ∧ (0 : Nat) = (0 : Nat)) ∧ ((0 : Nat) = (0 : Nat) ∧ (0 : Nat) = (0 : Nat)) ∧ IntKind.wrap IntKind.i64 (q.s.n + (1 : Int)) = j.s.n ∧ (↑i : Int) = (↑i : Int) ∧ IntKind.wrap IntKind.i64 ((↑q.k : Int) + (1 : Int)) = (↑j.k : Int) ∧ True) ∧ ((y.c.id = j.s.c.id ∧ (true = true ∧ List.length y.c.servers = List.length j.s.c.servers ∧ contLe (List.length y.c.servers) (1 : Nat) (cellsOf' encI y.c.servers) (cellsOf' encI j.s.c.servers)) ∧ y.c.prod = j.s.c.prod ∧ y.c.seq = j.s.c.seq ∧ (true = true ∧ List.length y.c.topics = List.length j.s.c.topics ∧ contLe (List.length y.c.topics) (2 : Nat) (Ax.rowAt (0 : Nat) (cellsOf' encTp y.c.topics)) (cellsOf' encTp j.s.c.topics)) ∧ (true = true ∧ List.length y.c.leaders = List.length j.s.c.leaders ∧ contLe (List.length y.c.leaders) (2 : Nat) (Ax.rowAt (0 : Nat) (cellsOf' encSi y.c.leaders)) (cellsOf' encSi j.s.c.leaders)) ∧ y.c.busy = j.s.c.busy ∧ y.c.call.kind = j.s.c.call.kind ∧ y.c.call.topic = j.s.c.call.topic ∧ y.c.call.key = j.s.c.call.key ∧ (true = true ∧ List.length y.c.call.val = List.length j.s.c.call.val ∧ contLe (List.length y.c.call.val) (1 : Nat) (cellsOf' encB y.c.call.val) (cellsOf' encB j.s.c.call.val)) ∧ y.c.call.off = j.s.c.call.off ∧ y.c.call.most = j.s.c.call.most ∧ y.c.call.name = j.s.c.call.name ∧ y.c.call.adm.kind = j.s.c.call.adm.kind ∧ y.c.call.adm.prod = j.s.c.call.adm.prod ∧ y.c.call.adm.seq = j.s.c.call.adm.seq ∧ y.c.call.adm.topic = j.s.c.call.adm.topic ∧ (true = true ∧ List.length y.c.call.adm.nodes = List.length j.s.c.call.adm.nodes ∧ contLe (List.length y.c.call.adm.nodes) (1 : Nat) (cellsOf' encI y.c.call.adm.nodes) (cellsOf' encI j.s.c.call.adm.nodes)) ∧ y.c.call.adm.group = j.s.c.call.adm.group ∧ y.c.call.adm.other = j.s.c.call.adm.other ∧ y.c.call.adm.key = j.s.c.call.adm.key ∧ y.c.call.adm.fr = j.s.c.call.adm.fr ∧ y.c.call.adm.to = j.s.c.call.adm.to ∧ y.c.call.adm.plan = j.s.c.call.adm.plan ∧ y.c.call.adm.step = j.s.c.call.adm.step ∧ y.c.number = j.s.c.number ∧ y.c.route = j.s.c.route ∧ y.c.group = j.s.c.group ∧ y.c.tries = j.s.c.tries ∧ y.c.waited = j.s.c.waited ∧ y.c.again = j.s.c.again ∧ y.c.at' = j.s.c.at' ∧ True) ∧ (y.o.send = j.s.o.send ∧ y.o.to = j.s.o.to ∧ y.o.req.id = j.s.o.req.id ∧ y.o.req.kind = j.s.o.req.kind ∧ y.o.req.group = j.s.o.req.group ∧ y.o.req.part.kind = j.s.o.req.part.kind ∧ y.o.req.part.epoch = j.s.o.req.part.epoch ∧ y.o.req.part.prod = j.s.o.req.part.prod ∧ y.o.req.part.seq = j.s.o.req.part.seq ∧ y.o.req.part.key = j.s.o.req.part.key ∧ (true = true ∧ List.length y.o.req.part.val = List.length j.s.o.req.part.val ∧ contLe (List.length y.o.req.part.val) (1 : Nat) (cellsOf' encB y.o.req.part.val) (cellsOf' encB j.s.o.req.part.val)) ∧ y.o.req.part.off = j.s.o.req.part.off ∧ y.o.req.part.most = j.s.o.req.part.most ∧ y.o.req.part.name = j.s.o.req.part.name ∧ y.o.req.part.plan = j.s.o.req.part.plan ∧ y.o.req.adm.kind = j.s.o.req.adm.kind ∧ y.o.req.adm.prod = j.s.o.req.adm.prod ∧ y.o.req.adm.seq = j.s.o.req.adm.seq ∧ y.o.req.adm.topic = j.s.o.req.adm.topic ∧ (true = true ∧ List.length y.o.req.adm.nodes = List.length j.s.o.req.adm.nodes ∧ contLe (List.length y.o.req.adm.nodes) (1 : Nat) (cellsOf' encI y.o.req.adm.nodes) (cellsOf' encI j.s.o.req.adm.nodes)) ∧ y.o.req.adm.group = j.s.o.req.adm.group ∧ y.o.req.adm.other = j.s.o.req.adm.other ∧ y.o.req.adm.key = j.s.o.req.adm.key ∧ y.o.req.adm.fr = j.s.o.req.adm.fr ∧ y.o.req.adm.to = j.s.o.req.adm.to ∧ y.o.req.adm.plan = j.s.o.req.adm.plan ∧ y.o.req.adm.step = j.s.o.req.adm.step ∧ y.o.req.topic = j.s.o.req.topic ∧ y.o.done = j.s.o.done ∧ y.o.rep.id = j.s.o.rep.id ∧ y.o.rep.err = j.s.o.rep.err ∧ y.o.rep.leader = j.s.o.rep.leader ∧ y.o.rep.rerr = j.s.o.rep.rerr ∧ y.o.rep.roff = j.s.o.rep.roff ∧ y.o.rep.rold = j.s.o.rep.rold ∧ (true = true ∧ List.length y.o.rep.recs = List.length j.s.o.rep.recs ∧ contLe (List.length y.o.rep.recs) (5 : Nat) (cellsOf' encR y.o.rep.recs) (cellsOf' encR j.s.o.rep.recs)) ∧ y.o.rep.number = j.s.o.rep.number ∧ (true = true ∧ List.length y.o.rep.shards = List.length j.s.o.rep.shards ∧ contLe (List.length y.o.rep.shards) (7 : Nat) (cellsOf' encSh y.o.rep.shards) (cellsOf' encSh j.s.o.rep.shards)) ∧ y.o.rep.group = j.s.o.rep.group ∧ y.o.rep.index = j.s.o.rep.index ∧ y.o.rep.term = j.s.o.rep.term ∧ True) ∧ True) ∧ true = true) ∧ true = true ∧ (B j = true → (B q = true → (true, R j) = (true, R q)) ∧ (B q = false → (true, R j) = (false, R q))) ∧ (B j = false → (B q = true → (false, R j) = (true, R q)) ∧ (B q = false → (false, R j) = (false, R q))))) ∧ (y.o.send = false → (y.o.done = true → (decide (q.s.n ≤ (24 : Int)) = true → (B q = true → ((!y.c.busy) = true ∧ True) ∧ True ∧ true = true) ∧ (B q = false → False)) ∧ (decide (q.s.n ≤ (24 : Int)) = false → (B q = true → (false = true ∧ True) ∧ True ∧ true = true) ∧ (B q = false → False))) ∧ (y.o.done = false → ∃ (j : EI l i), (5 : Nat) - j.k < (5 : Nat) - q.k ∧ (((true = true ∧ List.length l = List.length l ∧ contLe (List.length l) (12 : Nat) (cellsOf' encRp l) (cellsOf' encRp l)) ∧ ((0 : Nat) = (0 : Nat) ∧ (0 : Nat) = (0 : Nat)) ∧ ((0 : Nat) = (0 : Nat) ∧ (0 : Nat) = (0 : Nat)) ∧ q.s.n = j.s.n ∧ (↑i : Int) = (↑i : Int) ∧ IntKind.wrap IntKind.i64 ((↑q.k : Int) + (1 : Int)) = (↑j.k : Int) ∧ True) ∧ ((y.c.id = j.s.c.id ∧ (true = true ∧ List.length y.c.servers = List.length j.s.c.servers ∧ contLe (List.length y.c.servers) (1 : Nat) (cellsOf' encI y.c.servers) (cellsOf' encI j.s.c.servers)) ∧ y.c.prod = j.s.c.prod ∧ y.c.seq = j.s.c.seq ∧ (true = true ∧ List.length y.c.topics = List.length j.s.c.topics ∧ contLe (List.length y.c.topics) (2 : Nat) (Ax.rowAt (0 : Nat) (cellsOf' encTp y.c.topics)) (cellsOf' encTp j.s.c.topics)) ∧ (true = true ∧ List.length y.c.leaders = List.length j.s.c.leaders ∧ contLe (List.length y.c.leaders) (2 : Nat) (Ax.rowAt (0 : Nat) (cellsOf' encSi y.c.leaders)) (cellsOf' encSi j.s.c.leaders)) ∧ y.c.busy = j.s.c.busy ∧ y.c.call.kind = j.s.c.call.kind ∧ y.c.call.topic = j.s.c.call.topic ∧ y.c.call.key = j.s.c.call.key ∧ (true = true ∧ List.length y.c.call.val = List.length j.s.c.call.val ∧ contLe (List.length y.c.call.val) (1 : Nat) (cellsOf' encB y.c.call.val) (cellsOf' encB j.s.c.call.val)) ∧ y.c.call.off = j.s.c.call.off ∧ y.c.call.most = j.s.c.call.most ∧ y.c.call.name = j.s.c.call.name ∧ y.c.call.adm.kind = j.s.c.call.adm.kind ∧ y.c.call.adm.prod = j.s.c.call.adm.prod ∧ y.c.call.adm.seq = j.s.c.call.adm.seq ∧ y.c.call.adm.topic = j.s.c.call.adm.topic ∧ (true = true ∧ List.length y.c.call.adm.nodes = List.length j.s.c.call.adm.nodes ∧ contLe (List.length y.c.call.adm.nodes) (1 : Nat) (cellsOf' encI y.c.call.adm.nodes) (cellsOf' encI j.s.c.call.adm.nodes)) ∧ y.c.call.adm.group = j.s.c.call.adm.group ∧ y.c.call.adm.other = j.s.c.call.adm.other ∧ y.c.call.adm.key = j.s.c.call.adm.key ∧ y.c.call.adm.fr = j.s.c.call.adm.fr ∧ y.c.call.adm.to = j.s.c.call.adm.to ∧ y.c.call.adm.plan = j.s.c.call.adm.plan ∧ y.c.call.adm.step = j.s.c.call.adm.step ∧ y.c.number = j.s.c.number ∧ y.c.route = j.s.c.route ∧ y.c.group = j.s.c.group ∧ y.c.tries = j.s.c.tries ∧ y.c.waited = j.s.c.waited ∧ y.c.again = j.s.c.again ∧ y.c.at' = j.s.c.at' ∧ True) ∧ (y.o.send = j.s.o.send ∧ y.o.to = j.s.o.to ∧ y.o.req.id = j.s.o.req.id ∧ y.o.req.kind = j.s.o.req.kind ∧ y.o.req.group = j.s.o.req.group ∧ y.o.req.part.kind = j.s.o.req.part.kind ∧ y.o.req.part.epoch = j.s.o.req.part.epoch ∧ y.o.req.part.prod = j.s.o.req.part.prod ∧ y.o.req.part.seq = j.s.o.req.part.seq ∧ y.o.req.part.key = j.s.o.req.part.key ∧ (true = true ∧ List.length y.o.req.part.val = List.length j.s.o.req.part.val ∧ contLe (List.length y.o.req.part.val) (1 : Nat) (cellsOf' encB y.o.req.part.val) (cellsOf' encB j.s.o.req.part.val)) ∧ y.o.req.part.off = j.s.o.req.part.off ∧ y.o.req.part.most = j.s.o.req.part.most ∧ y.o.req.part.name = j.s.o.req.part.name ∧ y.o.req.part.plan = j.s.o.req.part.plan ∧ y.o.req.adm.kind = j.s.o.req.adm.kind ∧ y.o.req.adm.prod = j.s.o.req.adm.prod ∧ y.o.req.adm.seq = j.s.o.req.adm.seq ∧ y.o.req.adm.topic = j.s.o.req.adm.topic ∧ (true = true ∧ List.length y.o.req.adm.nodes = List.length j.s.o.req.adm.nodes ∧ contLe (List.length y.o.req.adm.nodes) (1 : Nat) (cellsOf' encI y.o.req.adm.nodes) (cellsOf' encI j.s.o.req.adm.nodes)) ∧ y.o.req.adm.group = j.s.o.req.adm.group ∧ y.o.req.adm.other = j.s.o.req.adm.other ∧ y.o.req.adm.key = j.s.o.req.adm.key ∧ y.o.req.adm.fr = j.s.o.req.adm.fr ∧ y.o.req.adm.to = j.s.o.req.adm.to ∧ y.o.req.adm.plan = j.s.o.req.adm.plan ∧ y.o.req.adm.step = j.s.o.req.adm.step ∧ y.o.req.topic = j.s.o.req.topic ∧ y.o.done = j.s.o.done ∧ y.o.rep.id = j.s.o.rep.id ∧ y.o.rep.err = j.s.o.rep.err ∧ y.o.rep.leader = j.s.o.rep.leader ∧ y.o.rep.rerr = j.s.o.rep.rerr ∧ y.o.rep.roff = j.s.o.rep.roff ∧ y.o.rep.rold = j.s.o.rep.rold ∧ (true = true ∧ List.length y.o.rep.recs = List.length j.s.o.rep.recs ∧ contLe (List.length y.o.rep.recs) (5 : Nat) (cellsOf' encR y.o.rep.recs) (cellsOf' encR j.s.o.rep.recs)) ∧ y.o.rep.number = j.s.o.rep.number ∧ (true = true ∧ List.length y.o.rep.shards = List.length j.s.o.rep.shards ∧ contLe (List.length y.o.rep.shards) (7 : Nat) (cellsOf' encSh y.o.rep.shards) (cellsOf' encSh j.s.o.rep.shards)) ∧ y.o.rep.group = j.s.o.rep.group ∧ y.o.rep.index = j.s.o.rep.index ∧ y.o.rep.term = j.s.o.rep.term ∧ True) ∧ True) ∧ true = true) ∧ true = true ∧ (B j = true → (B q = true → (true, R j) = (true, R q)) ∧ (B q = false → (true, R j) = (false, R q))) ∧ (B j = false → (B q = true → (false, R j) = (true, R q)) ∧ (B q = false → (false, R j) = (false, R q)))))) ∧ (decide ((↑q.k : Int) < (5 : Int)) = false → (B q = true → False) ∧ (vcEiL_q1 l i B R q))) ∧ (decide ((↑q.k : Int) < (↑(List.length l) : Int)) = false → (B q = true → False) ∧ (vcEiL_q1 l i B R q))
set_option maxRecDepth 1000000 in
theorem vcEiL_eq (l : List Rep) (i : Nat) (B : EI l i → Bool) (R : EI l i → Run) (r : Rep) (y : Nod) (q : EI l i) : (loopVC Tryd.prog (eiH q.s.c r y) 5 15 (fun q => 5 - q.k) (eiT l i) (fun q => eM q.s.c q.s.o) [0, 1, 2, 3, 4, 5, 6, 7, 8, 9, 10, 11, 12, 13, 14] (fun q => eO (B q) (R q)) (eiS l i) q) = vcEiL l i B R r y q := by kernel_rfl
structure EO (l : List Rep) where
  i : Nat
  s : Run
  e : EndI (6 * i + 1) i s
def eoT (l : List Rep) (q : EO l) : List AV := mkT 115 (eT l q.s.n q.i)
def eoS (_ : Unit) : Exit × List AV × List Blk := (.ret, mkT 115 [(8, .y (.bool true))], [])
noncomputable def eoH (l : List Rep) (i : Nat) (p : EI l i) (b : Bool) (s : Run) (y : Nod) : HintsT Tryd.prog := withSh (hh _ (lp1 5 15 (jobOf (eiT l i) (fun q => eM q.s.c q.s.o) [0, 1, 2, 3, 4, 5, 6, 7, 8, 9, 10, 11, 12, 13, 14] (fun _ => eO b s) (eiS l i) p) noLp) (cs1 5 24 2 (stG true s.c ⟨3, default, default⟩ y 0) noCs) noOp) (sh1 5 24 4 779 noSh)
def vcEoL (l : List Rep) (q : EO l) (p : EI l q.i) (b : Bool) (s : Run) (y : Nod) : Prop :=
  (decide ((↑q.i : Int) < (313 : Int)) = true → (((true = true ∧ List.length l = List.length l ∧ contLe (List.length l) (12 : Nat) (cellsOf' encRp l) (cellsOf' encRp l)) ∧ ((0 : Nat) = (0 : Nat) ∧ (0 : Nat) = (0 : Nat)) ∧ ((0 : Nat) = (0 : Nat) ∧ (0 : Nat) = (0 : Nat)) ∧ q.s.n = p.s.n ∧ (↑q.i : Int) = (↑q.i : Int) ∧ (0 : Int) = (↑p.k : Int) ∧ True) ∧ ((q.s.c.id = p.s.c.id ∧ (true = true ∧ List.length q.s.c.servers = List.length p.s.c.servers ∧ contLe (List.length q.s.c.servers) (1 : Nat) (cellsOf' encI q.s.c.servers) (cellsOf' encI p.s.c.servers)) ∧ q.s.c.prod = p.s.c.prod ∧ q.s.c.seq = p.s.c.seq ∧ (true = true ∧ List.length q.s.c.topics = List.length p.s.c.topics ∧ contLe (List.length q.s.c.topics) (2 : Nat) (cellsOf' encTp q.s.c.topics) (cellsOf' encTp p.s.c.topics)) ∧ (true = true ∧ List.length q.s.c.leaders = List.length p.s.c.leaders ∧ contLe (List.length q.s.c.leaders) (2 : Nat) (cellsOf' encSi q.s.c.leaders) (cellsOf' encSi p.s.c.leaders)) ∧ q.s.c.busy = p.s.c.busy ∧ q.s.c.call.kind = p.s.c.call.kind ∧ q.s.c.call.topic = p.s.c.call.topic ∧ q.s.c.call.key = p.s.c.call.key ∧ (true = true ∧ List.length q.s.c.call.val = List.length p.s.c.call.val ∧ contLe (List.length q.s.c.call.val) (1 : Nat) (cellsOf' encB q.s.c.call.val) (cellsOf' encB p.s.c.call.val)) ∧ q.s.c.call.off = p.s.c.call.off ∧ q.s.c.call.most = p.s.c.call.most ∧ q.s.c.call.name = p.s.c.call.name ∧ q.s.c.call.adm.kind = p.s.c.call.adm.kind ∧ q.s.c.call.adm.prod = p.s.c.call.adm.prod ∧ q.s.c.call.adm.seq = p.s.c.call.adm.seq ∧ q.s.c.call.adm.topic = p.s.c.call.adm.topic ∧ (true = true ∧ List.length q.s.c.call.adm.nodes = List.length p.s.c.call.adm.nodes ∧ contLe (List.length q.s.c.call.adm.nodes) (1 : Nat) (cellsOf' encI q.s.c.call.adm.nodes) (cellsOf' encI p.s.c.call.adm.nodes)) ∧ q.s.c.call.adm.group = p.s.c.call.adm.group ∧ q.s.c.call.adm.other = p.s.c.call.adm.other ∧ q.s.c.call.adm.key = p.s.c.call.adm.key ∧ q.s.c.call.adm.fr = p.s.c.call.adm.fr ∧ q.s.c.call.adm.to = p.s.c.call.adm.to ∧ q.s.c.call.adm.plan = p.s.c.call.adm.plan ∧ q.s.c.call.adm.step = p.s.c.call.adm.step ∧ q.s.c.number = p.s.c.number ∧ q.s.c.route = p.s.c.route ∧ q.s.c.group = p.s.c.group ∧ q.s.c.tries = p.s.c.tries ∧ q.s.c.waited = p.s.c.waited ∧ q.s.c.again = p.s.c.again ∧ q.s.c.at' = p.s.c.at' ∧ True) ∧ (q.s.o.send = p.s.o.send ∧ q.s.o.to = p.s.o.to ∧ q.s.o.req.id = p.s.o.req.id ∧ q.s.o.req.kind = p.s.o.req.kind ∧ q.s.o.req.group = p.s.o.req.group ∧ q.s.o.req.part.kind = p.s.o.req.part.kind ∧ q.s.o.req.part.epoch = p.s.o.req.part.epoch ∧ q.s.o.req.part.prod = p.s.o.req.part.prod ∧ q.s.o.req.part.seq = p.s.o.req.part.seq ∧ q.s.o.req.part.key = p.s.o.req.part.key ∧ (true = true ∧ List.length q.s.o.req.part.val = List.length p.s.o.req.part.val ∧ contLe (List.length q.s.o.req.part.val) (1 : Nat) (cellsOf' encB q.s.o.req.part.val) (cellsOf' encB p.s.o.req.part.val)) ∧ q.s.o.req.part.off = p.s.o.req.part.off ∧ q.s.o.req.part.most = p.s.o.req.part.most ∧ q.s.o.req.part.name = p.s.o.req.part.name ∧ q.s.o.req.part.plan = p.s.o.req.part.plan ∧ q.s.o.req.adm.kind = p.s.o.req.adm.kind ∧ q.s.o.req.adm.prod = p.s.o.req.adm.prod ∧ q.s.o.req.adm.seq = p.s.o.req.adm.seq ∧ q.s.o.req.adm.topic = p.s.o.req.adm.topic ∧ (true = true ∧ List.length q.s.o.req.adm.nodes = List.length p.s.o.req.adm.nodes ∧ contLe (List.length q.s.o.req.adm.nodes) (1 : Nat) (cellsOf' encI q.s.o.req.adm.nodes) (cellsOf' encI p.s.o.req.adm.nodes)) ∧ q.s.o.req.adm.group = p.s.o.req.adm.group ∧ q.s.o.req.adm.other = p.s.o.req.adm.other ∧ q.s.o.req.adm.key = p.s.o.req.adm.key ∧ q.s.o.req.adm.fr = p.s.o.req.adm.fr ∧ q.s.o.req.adm.to = p.s.o.req.adm.to ∧ q.s.o.req.adm.plan = p.s.o.req.adm.plan ∧ q.s.o.req.adm.step = p.s.o.req.adm.step ∧ q.s.o.req.topic = p.s.o.req.topic ∧ q.s.o.done = p.s.o.done ∧ q.s.o.rep.id = p.s.o.rep.id ∧ q.s.o.rep.err = p.s.o.rep.err ∧ q.s.o.rep.leader = p.s.o.rep.leader ∧ q.s.o.rep.rerr = p.s.o.rep.rerr ∧ q.s.o.rep.roff = p.s.o.rep.roff ∧ q.s.o.rep.rold = p.s.o.rep.rold ∧ (true = true ∧ List.length q.s.o.rep.recs = List.length p.s.o.rep.recs ∧ contLe (List.length q.s.o.rep.recs) (5 : Nat) (cellsOf' encR q.s.o.rep.recs) (cellsOf' encR p.s.o.rep.recs)) ∧ q.s.o.rep.number = p.s.o.rep.number ∧ (true = true ∧ List.length q.s.o.rep.shards = List.length p.s.o.rep.shards ∧ contLe (List.length q.s.o.rep.shards) (7 : Nat) (cellsOf' encSh q.s.o.rep.shards) (cellsOf' encSh p.s.o.rep.shards)) ∧ q.s.o.rep.group = p.s.o.rep.group ∧ q.s.o.rep.index = p.s.o.rep.index ∧ q.s.o.rep.term = p.s.o.rep.term ∧ True) ∧ True) ∧ true = true) ∧ LoopOk Tryd.prog (5 : Nat) (15 : Nat) (loopAt Tryd.prog (5 : Nat) (15 : Nat)) { t := eiT l q.i p, m := eM p.s.c p.s.o, mv := [] : St } (T.map (lout [(0 : Nat), (1 : Nat), (2 : Nat), (3 : Nat), (4 : Nat), (5 : Nat), (6 : Nat), (7 : Nat), (8 : Nat), (9 : Nat), (10 : Nat), (11 : Nat), (12 : Nat), (13 : Nat), (14 : Nat)] (eiS l q.i)) ((fun (x : EI l q.i) => eO b s) p)) ∧ (b = true → (true = true ∧ True) ∧ True ∧ true = true) ∧ (b = false → ((s.c.id = s.c.id ∧ (true = true ∧ List.length s.c.servers = List.length s.c.servers ∧ contLe (List.length s.c.servers) (1 : Nat) (cellsOf' encI s.c.servers) (cellsOf' encI s.c.servers)) ∧ s.c.prod = s.c.prod ∧ s.c.seq = s.c.seq ∧ (true = true ∧ List.length s.c.topics = List.length s.c.topics ∧ contLe (List.length s.c.topics) (2 : Nat) (cellsOf' encTp s.c.topics) (cellsOf' encTp s.c.topics)) ∧ (true = true ∧ List.length s.c.leaders = List.length s.c.leaders ∧ contLe (List.length s.c.leaders) (2 : Nat) (cellsOf' encSi s.c.leaders) (cellsOf' encSi s.c.leaders)) ∧ s.c.busy = s.c.busy ∧ s.c.call.kind = s.c.call.kind ∧ s.c.call.topic = s.c.call.topic ∧ s.c.call.key = s.c.call.key ∧ (true = true ∧ List.length s.c.call.val = List.length s.c.call.val ∧ contLe (List.length s.c.call.val) (1 : Nat) (cellsOf' encB s.c.call.val) (cellsOf' encB s.c.call.val)) ∧ s.c.call.off = s.c.call.off ∧ s.c.call.most = s.c.call.most ∧ s.c.call.name = s.c.call.name ∧ s.c.call.adm.kind = s.c.call.adm.kind ∧ s.c.call.adm.prod = s.c.call.adm.prod ∧ s.c.call.adm.seq = s.c.call.adm.seq ∧ s.c.call.adm.topic = s.c.call.adm.topic ∧ (true = true ∧ List.length s.c.call.adm.nodes = List.length s.c.call.adm.nodes ∧ contLe (List.length s.c.call.adm.nodes) (1 : Nat) (cellsOf' encI s.c.call.adm.nodes) (cellsOf' encI s.c.call.adm.nodes)) ∧ s.c.call.adm.group = s.c.call.adm.group ∧ s.c.call.adm.other = s.c.call.adm.other ∧ s.c.call.adm.key = s.c.call.adm.key ∧ s.c.call.adm.fr = s.c.call.adm.fr ∧ s.c.call.adm.to = s.c.call.adm.to ∧ s.c.call.adm.plan = s.c.call.adm.plan ∧ s.c.call.adm.step = s.c.call.adm.step ∧ s.c.number = s.c.number ∧ s.c.route = s.c.route ∧ s.c.group = s.c.group ∧ s.c.tries = s.c.tries ∧ s.c.waited = s.c.waited ∧ s.c.again = s.c.again ∧ s.c.at' = s.c.at' ∧ True) ∧ ((3 : Int) = (3 : Int) ∧ (0 : Int) = (0 : Int) ∧ { data := #[] : ByteArray } = ByteArray.empty ∧ { data := #[] : ByteArray } = ByteArray.empty ∧ (0 : Nat) = (0 : Nat) ∧ (0 : Int) = (0 : Int) ∧ (0 : Int) = (0 : Int) ∧ { data := #[] : ByteArray } = ByteArray.empty ∧ (0 : Int) = (0 : Int) ∧ (0 : Int) = (0 : Int) ∧ (0 : Int) = (0 : Int) ∧ { data := #[] : ByteArray } = ByteArray.empty ∧ (0 : Nat) = (0 : Nat) ∧ (0 : Int) = (0 : Int) ∧ (0 : Int) = (0 : Int) ∧ { data := #[] : ByteArray } = ByteArray.empty ∧ (0 : Int) = (0 : Int) ∧ (0 : Int) = (0 : Int) ∧ (0 : Int) = (0 : Int) ∧ (0 : Int) = (0 : Int) ∧ (0 : Int) = (0 : Int) ∧ (0 : Int) = (0 : Int) ∧ (0 : Int) = (0 : Int) ∧ (0 : Int) = (0 : Int) ∧ (0 : Int) = (0 : Int) ∧ false = false ∧ (0 : Nat) = (0 : Nat) ∧ (0 : Int) = (0 : Int) ∧ (0 : Nat) = (0 : Nat) ∧ (0 : Int) = (0 : Int) ∧ (0 : Int) = (0 : Int) ∧ (0 : Int) = (0 : Int) ∧ True) ∧ True) ∧ True ∧ StG s.c { kind := (3 : Int), call := @default Cal instInhabitedCal, rep := @default Rep instInhabitedRep : Inp } y (0 : Int) ∧ (∀ (k : Nat), k < List.length y.c.topics → ∀ (j : Nat), j < (2 : Nat) → tagT (cellsOf' encTp y.c.topics k j) = true) ∧ (∀ (k : Nat), k < List.length y.c.leaders → ∀ (j : Nat), j < (2 : Nat) → tagT (cellsOf' encSi y.c.leaders k j) = true) ∧ (y.o.send = true → (y.o.done = true → (decide (IntKind.wrap IntKind.i64 (s.n + (1 : Int)) ≤ (24 : Int)) = true → ((!y.c.busy) = true ∧ True) ∧ True ∧ true = true) ∧ (decide (IntKind.wrap IntKind.i64 (s.n + (1 : Int)) ≤ (24 : Int)) = false → (false = true ∧ True) ∧ True ∧ true = true)) ∧ (y.o.done = false → ∃ (j : EO l), (400 : Nat) - j.i < (400 : Nat) - q.i ∧ (((true = true ∧ List.length l = List.length l ∧ contLe (List.length l) (12 : Nat) (cellsOf' encRp l) (cellsOf' encRp l)) ∧ ((0 : Nat) = (0 : Nat) ∧ (0 : Nat) = (0 : Nat)) ∧ ((0 : Nat) = (0 : Nat) ∧ (0 : Nat) = (0 : Nat)) ∧ IntKind.wrap IntKind.i64 (s.n + (1 : Int)) = j.s.n ∧ IntKind.wrap IntKind.i64 ((↑q.i : Int) + (1 : Int)) = (↑j.i : Int) ∧ True) ∧ ((y.c.id = j.s.c.id ∧ (true = true ∧ List.length y.c.servers = List.length j.s.c.servers ∧ contLe (List.length y.c.servers) (1 : Nat) (cellsOf' encI y.c.servers) (cellsOf' encI j.s.c.servers)) ∧ y.c.prod = j.s.c.prod ∧ y.c.seq = j.s.c.seq ∧ (true = true ∧ List.length y.c.topics = List.length j.s.c.topics ∧ contLe (List.length y.c.topics) (2 : Nat) (Ax.rowAt (0 : Nat) (cellsOf' encTp y.c.topics)) (cellsOf' encTp j.s.c.topics)) ∧ (true = true ∧ List.length y.c.leaders = List.length j.s.c.leaders ∧ contLe (List.length y.c.leaders) (2 : Nat) (Ax.rowAt (0 : Nat) (cellsOf' encSi y.c.leaders)) (cellsOf' encSi j.s.c.leaders)) ∧ y.c.busy = j.s.c.busy ∧ y.c.call.kind = j.s.c.call.kind ∧ y.c.call.topic = j.s.c.call.topic ∧ y.c.call.key = j.s.c.call.key ∧ (true = true ∧ List.length y.c.call.val = List.length j.s.c.call.val ∧ contLe (List.length y.c.call.val) (1 : Nat) (cellsOf' encB y.c.call.val) (cellsOf' encB j.s.c.call.val)) ∧ y.c.call.off = j.s.c.call.off ∧ y.c.call.most = j.s.c.call.most ∧ y.c.call.name = j.s.c.call.name ∧ y.c.call.adm.kind = j.s.c.call.adm.kind ∧ y.c.call.adm.prod = j.s.c.call.adm.prod ∧ y.c.call.adm.seq = j.s.c.call.adm.seq ∧ y.c.call.adm.topic = j.s.c.call.adm.topic ∧ (true = true ∧ List.length y.c.call.adm.nodes = List.length j.s.c.call.adm.nodes ∧ contLe (List.length y.c.call.adm.nodes) (1 : Nat) (cellsOf' encI y.c.call.adm.nodes) (cellsOf' encI j.s.c.call.adm.nodes)) ∧ y.c.call.adm.group = j.s.c.call.adm.group ∧ y.c.call.adm.other = j.s.c.call.adm.other ∧ y.c.call.adm.key = j.s.c.call.adm.key ∧ y.c.call.adm.fr = j.s.c.call.adm.fr ∧ y.c.call.adm.to = j.s.c.call.adm.to ∧ y.c.call.adm.plan = j.s.c.call.adm.plan ∧ y.c.call.adm.step = j.s.c.call.adm.step ∧ y.c.number = j.s.c.number ∧ y.c.route = j.s.c.route ∧ y.c.group = j.s.c.group ∧ y.c.tries = j.s.c.tries ∧ y.c.waited = j.s.c.waited ∧ y.c.again = j.s.c.again ∧ y.c.at' = j.s.c.at' ∧ True) ∧ (y.o.send = j.s.o.send ∧ y.o.to = j.s.o.to ∧ y.o.req.id = j.s.o.req.id ∧ y.o.req.kind = j.s.o.req.kind ∧ y.o.req.group = j.s.o.req.group ∧ y.o.req.part.kind = j.s.o.req.part.kind ∧ y.o.req.part.epoch = j.s.o.req.part.epoch ∧ y.o.req.part.prod = j.s.o.req.part.prod ∧ y.o.req.part.seq = j.s.o.req.part.seq ∧ y.o.req.part.key = j.s.o.req.part.key ∧ (true = true ∧ List.length y.o.req.part.val = List.length j.s.o.req.part.val ∧ contLe (List.length y.o.req.part.val) (1 : Nat) (cellsOf' encB y.o.req.part.val) (cellsOf' encB j.s.o.req.part.val)) ∧ y.o.req.part.off = j.s.o.req.part.off ∧ y.o.req.part.most = j.s.o.req.part.most ∧ y.o.req.part.name = j.s.o.req.part.name ∧ y.o.req.part.plan = j.s.o.req.part.plan ∧ y.o.req.adm.kind = j.s.o.req.adm.kind ∧ y.o.req.adm.prod = j.s.o.req.adm.prod ∧ y.o.req.adm.seq = j.s.o.req.adm.seq ∧ y.o.req.adm.topic = j.s.o.req.adm.topic ∧ (true = true ∧ List.length y.o.req.adm.nodes = List.length j.s.o.req.adm.nodes ∧ contLe (List.length y.o.req.adm.nodes) (1 : Nat) (cellsOf' encI y.o.req.adm.nodes) (cellsOf' encI j.s.o.req.adm.nodes)) ∧ y.o.req.adm.group = j.s.o.req.adm.group ∧ y.o.req.adm.other = j.s.o.req.adm.other ∧ y.o.req.adm.key = j.s.o.req.adm.key ∧ y.o.req.adm.fr = j.s.o.req.adm.fr ∧ y.o.req.adm.to = j.s.o.req.adm.to ∧ y.o.req.adm.plan = j.s.o.req.adm.plan ∧ y.o.req.adm.step = j.s.o.req.adm.step ∧ y.o.req.topic = j.s.o.req.topic ∧ y.o.done = j.s.o.done ∧ y.o.rep.id = j.s.o.rep.id ∧ y.o.rep.err = j.s.o.rep.err ∧ y.o.rep.leader = j.s.o.rep.leader ∧ y.o.rep.rerr = j.s.o.rep.rerr ∧ y.o.rep.roff = j.s.o.rep.roff ∧ y.o.rep.rold = j.s.o.rep.rold ∧ (true = true ∧ List.length y.o.rep.recs = List.length j.s.o.rep.recs ∧ contLe (List.length y.o.rep.recs) (5 : Nat) (cellsOf' encR y.o.rep.recs) (cellsOf' encR j.s.o.rep.recs)) ∧ y.o.rep.number = j.s.o.rep.number ∧ (true = true ∧ List.length y.o.rep.shards = List.length j.s.o.rep.shards ∧ contLe (List.length y.o.rep.shards) (7 : Nat) (cellsOf' encSh y.o.rep.shards) (cellsOf' encSh j.s.o.rep.shards)) ∧ y.o.rep.group = j.s.o.rep.group ∧ y.o.rep.index = j.s.o.rep.index ∧ y.o.rep.term = j.s.o.rep.term ∧ True) ∧ True) ∧ true = true) ∧ true = true ∧ () = ())) ∧ (y.o.send = false → (y.o.done = true → (decide (s.n ≤ (24 : Int)) = true → ((!y.c.busy) = true ∧ True) ∧ True ∧ true = true) ∧ (decide (s.n ≤ (24 : Int)) = false → (false = true ∧ True) ∧ True ∧ true = true)) ∧ (y.o.done = false → ∃ (j : EO l), (400 : Nat) - j.i < (400 : Nat) - q.i ∧ (((true = true ∧ List.length l = List.length l ∧ contLe (List.length l) (12 : Nat) (cellsOf' encRp l) (cellsOf' encRp l)) ∧ ((0 : Nat) = (0 : Nat) ∧ (0 : Nat) = (0 : Nat)) ∧ ((0 : Nat) = (0 : Nat) ∧ (0 : Nat) = (0 : Nat)) ∧ s.n = j.s.n ∧ IntKind.wrap IntKind.i64 ((↑q.i : Int) + (1 : Int)) = (↑j.i : Int) ∧ True) ∧ ((y.c.id = j.s.c.id ∧ (true = true ∧ List.length y.c.servers = List.length j.s.c.servers ∧ contLe (List.length y.c.servers) (1 : Nat) (cellsOf' encI y.c.servers) (cellsOf' encI j.s.c.servers)) ∧ y.c.prod = j.s.c.prod ∧ y.c.seq = j.s.c.seq ∧ (true = true ∧ List.length y.c.topics = List.length j.s.c.topics ∧ contLe (List.length y.c.topics) (2 : Nat) (Ax.rowAt (0 : Nat) (cellsOf' encTp y.c.topics)) (cellsOf' encTp j.s.c.topics)) ∧ (true = true ∧ List.length y.c.leaders = List.length j.s.c.leaders ∧ contLe (List.length y.c.leaders) (2 : Nat) (Ax.rowAt (0 : Nat) (cellsOf' encSi y.c.leaders)) (cellsOf' encSi j.s.c.leaders)) ∧ y.c.busy = j.s.c.busy ∧ y.c.call.kind = j.s.c.call.kind ∧ y.c.call.topic = j.s.c.call.topic ∧ y.c.call.key = j.s.c.call.key ∧ (true = true ∧ List.length y.c.call.val = List.length j.s.c.call.val ∧ contLe (List.length y.c.call.val) (1 : Nat) (cellsOf' encB y.c.call.val) (cellsOf' encB j.s.c.call.val)) ∧ y.c.call.off = j.s.c.call.off ∧ y.c.call.most = j.s.c.call.most ∧ y.c.call.name = j.s.c.call.name ∧ y.c.call.adm.kind = j.s.c.call.adm.kind ∧ y.c.call.adm.prod = j.s.c.call.adm.prod ∧ y.c.call.adm.seq = j.s.c.call.adm.seq ∧ y.c.call.adm.topic = j.s.c.call.adm.topic ∧ (true = true ∧ List.length y.c.call.adm.nodes = List.length j.s.c.call.adm.nodes ∧ contLe (List.length y.c.call.adm.nodes) (1 : Nat) (cellsOf' encI y.c.call.adm.nodes) (cellsOf' encI j.s.c.call.adm.nodes)) ∧ y.c.call.adm.group = j.s.c.call.adm.group ∧ y.c.call.adm.other = j.s.c.call.adm.other ∧ y.c.call.adm.key = j.s.c.call.adm.key ∧ y.c.call.adm.fr = j.s.c.call.adm.fr ∧ y.c.call.adm.to = j.s.c.call.adm.to ∧ y.c.call.adm.plan = j.s.c.call.adm.plan ∧ y.c.call.adm.step = j.s.c.call.adm.step ∧ y.c.number = j.s.c.number ∧ y.c.route = j.s.c.route ∧ y.c.group = j.s.c.group ∧ y.c.tries = j.s.c.tries ∧ y.c.waited = j.s.c.waited ∧ y.c.again = j.s.c.again ∧ y.c.at' = j.s.c.at' ∧ True) ∧ (y.o.send = j.s.o.send ∧ y.o.to = j.s.o.to ∧ y.o.req.id = j.s.o.req.id ∧ y.o.req.kind = j.s.o.req.kind ∧ y.o.req.group = j.s.o.req.group ∧ y.o.req.part.kind = j.s.o.req.part.kind ∧ y.o.req.part.epoch = j.s.o.req.part.epoch ∧ y.o.req.part.prod = j.s.o.req.part.prod ∧ y.o.req.part.seq = j.s.o.req.part.seq ∧ y.o.req.part.key = j.s.o.req.part.key ∧ (true = true ∧ List.length y.o.req.part.val = List.length j.s.o.req.part.val ∧ contLe (List.length y.o.req.part.val) (1 : Nat) (cellsOf' encB y.o.req.part.val) (cellsOf' encB j.s.o.req.part.val)) ∧ y.o.req.part.off = j.s.o.req.part.off ∧ y.o.req.part.most = j.s.o.req.part.most ∧ y.o.req.part.name = j.s.o.req.part.name ∧ y.o.req.part.plan = j.s.o.req.part.plan ∧ y.o.req.adm.kind = j.s.o.req.adm.kind ∧ y.o.req.adm.prod = j.s.o.req.adm.prod ∧ y.o.req.adm.seq = j.s.o.req.adm.seq ∧ y.o.req.adm.topic = j.s.o.req.adm.topic ∧ (true = true ∧ List.length y.o.req.adm.nodes = List.length j.s.o.req.adm.nodes ∧ contLe (List.length y.o.req.adm.nodes) (1 : Nat) (cellsOf' encI y.o.req.adm.nodes) (cellsOf' encI j.s.o.req.adm.nodes)) ∧ y.o.req.adm.group = j.s.o.req.adm.group ∧ y.o.req.adm.other = j.s.o.req.adm.other ∧ y.o.req.adm.key = j.s.o.req.adm.key ∧ y.o.req.adm.fr = j.s.o.req.adm.fr ∧ y.o.req.adm.to = j.s.o.req.adm.to ∧ y.o.req.adm.plan = j.s.o.req.adm.plan ∧ y.o.req.adm.step = j.s.o.req.adm.step ∧ y.o.req.topic = j.s.o.req.topic ∧ y.o.done = j.s.o.done ∧ y.o.rep.id = j.s.o.rep.id ∧ y.o.rep.err = j.s.o.rep.err ∧ y.o.rep.leader = j.s.o.rep.leader ∧ y.o.rep.rerr = j.s.o.rep.rerr ∧ y.o.rep.roff = j.s.o.rep.roff ∧ y.o.rep.rold = j.s.o.rep.rold ∧ (true = true ∧ List.length y.o.rep.recs = List.length j.s.o.rep.recs ∧ contLe (List.length y.o.rep.recs) (5 : Nat) (cellsOf' encR y.o.rep.recs) (cellsOf' encR j.s.o.rep.recs)) ∧ y.o.rep.number = j.s.o.rep.number ∧ (true = true ∧ List.length y.o.rep.shards = List.length j.s.o.rep.shards ∧ contLe (List.length y.o.rep.shards) (7 : Nat) (cellsOf' encSh y.o.rep.shards) (cellsOf' encSh j.s.o.rep.shards)) ∧ y.o.rep.group = j.s.o.rep.group ∧ y.o.rep.index = j.s.o.rep.index ∧ y.o.rep.term = j.s.o.rep.term ∧ True) ∧ True) ∧ true = true) ∧ true = true ∧ () = ())))) ∧ (decide ((↑q.i : Int) < (313 : Int)) = false → False)
set_option maxRecDepth 1000000 in
theorem vcEoL_eq (l : List Rep) (q : EO l) (p : EI l q.i) (b : Bool) (s : Run) (y : Nod) : (loopVC Tryd.prog (eoH l q.i p b s y) 5 12 (fun q => 400 - q.i) (eoT l) (fun q => eM q.s.c q.s.o) [0, 1, 2, 3, 4, 5, 6, 7, 8, 9, 10, 11, 12, 13, 14] (fun _ => .ret ()) eoS q) = vcEoL l q p b s y := by kernel_rfl
noncomputable def enH (id : Int) (s : List Int) (k : Cal) (l : List Rep) (c : Clt) (e : Int) (y : Nod) (f : Int) (p : EO l) : HintsT Tryd.prog := withSh (hh _ (lp1 5 12 (jobOf (eoT l) (fun q => eM q.s.c q.s.o) [0, 1, 2, 3, 4, 5, 6, 7, 8, 9, 10, 11, 12, 13, 14] (fun _ => .ret ()) eoS p) noLp) (cs1 5 1 0 hdC (cs1 5 2 2 (nwG id true s 9 c e) (cs1 5 5 3 (stG true c ⟨1, k, default⟩ y f) noCs))) noOp) (sh1 5 5 5 779 noSh)
def vcEn_q1 (l : List Rep) (y : Nod) (p : EO l) : Prop := ((y.c.id = p.s.c.id ∧ (true = true ∧ List.length y.c.servers = List.length p.s.c.servers ∧ contLe (List.length y.c.servers) (1 : Nat) (cellsOf' encI y.c.servers) (cellsOf' encI p.s.c.servers)) ∧ y.c.prod = p.s.c.prod ∧ y.c.seq = p.s.c.seq ∧ (true = true ∧ List.length y.c.topics = List.length p.s.c.topics ∧ contLe (List.length y.c.topics) (2 : Nat) (Ax.rowAt (0 : Nat) (cellsOf' encTp y.c.topics)) (cellsOf' encTp p.s.c.topics)) ∧ (true = true ∧ List.length y.c.leaders = List.length p.s.c.leaders ∧ contLe (List.length y.c.leaders) (2 : Nat) (Ax.rowAt (0 : Nat) (cellsOf' encSi y.c.leaders)) (cellsOf' encSi p.s.c.leaders)) ∧ y.c.busy = p.s.c.busy ∧ y.c.call.kind = p.s.c.call.kind ∧ y.c.call.topic = p.s.c.call.topic ∧ y.c.call.key = p.s.c.call.key ∧ (true = true ∧ List.length y.c.call.val = List.length p.s.c.call.val ∧ contLe (List.length y.c.call.val) (1 : Nat) (cellsOf' encB y.c.call.val) (cellsOf' encB p.s.c.call.val)) ∧ y.c.call.off = p.s.c.call.off ∧ y.c.call.most = p.s.c.call.most ∧ y.c.call.name = p.s.c.call.name ∧ y.c.call.adm.kind = p.s.c.call.adm.kind ∧ y.c.call.adm.prod = p.s.c.call.adm.prod ∧ y.c.call.adm.seq = p.s.c.call.adm.seq ∧ y.c.call.adm.topic = p.s.c.call.adm.topic ∧ (true = true ∧ List.length y.c.call.adm.nodes = List.length p.s.c.call.adm.nodes ∧ contLe (List.length y.c.call.adm.nodes) (1 : Nat) (cellsOf' encI y.c.call.adm.nodes) (cellsOf' encI p.s.c.call.adm.nodes)) ∧ y.c.call.adm.group = p.s.c.call.adm.group ∧ y.c.call.adm.other = p.s.c.call.adm.other ∧ y.c.call.adm.key = p.s.c.call.adm.key ∧ y.c.call.adm.fr = p.s.c.call.adm.fr ∧ y.c.call.adm.to = p.s.c.call.adm.to ∧ y.c.call.adm.plan = p.s.c.call.adm.plan ∧ y.c.call.adm.step = p.s.c.call.adm.step ∧ y.c.number = p.s.c.number ∧ y.c.route = p.s.c.route ∧ y.c.group = p.s.c.group ∧ y.c.tries = p.s.c.tries ∧ y.c.waited = p.s.c.waited ∧ y.c.again = p.s.c.again ∧ y.c.at' = p.s.c.at' ∧ True) ∧ (y.o.send = p.s.o.send ∧ y.o.to = p.s.o.to ∧ y.o.req.id = p.s.o.req.id ∧ y.o.req.kind = p.s.o.req.kind ∧ y.o.req.group = p.s.o.req.group ∧ y.o.req.part.kind = p.s.o.req.part.kind ∧ y.o.req.part.epoch = p.s.o.req.part.epoch ∧ y.o.req.part.prod = p.s.o.req.part.prod ∧ y.o.req.part.seq = p.s.o.req.part.seq ∧ y.o.req.part.key = p.s.o.req.part.key ∧ (true = true ∧ List.length y.o.req.part.val = List.length p.s.o.req.part.val ∧ contLe (List.length y.o.req.part.val) (1 : Nat) (cellsOf' encB y.o.req.part.val) (cellsOf' encB p.s.o.req.part.val)) ∧ y.o.req.part.off = p.s.o.req.part.off ∧ y.o.req.part.most = p.s.o.req.part.most ∧ y.o.req.part.name = p.s.o.req.part.name ∧ y.o.req.part.plan = p.s.o.req.part.plan ∧ y.o.req.adm.kind = p.s.o.req.adm.kind ∧ y.o.req.adm.prod = p.s.o.req.adm.prod ∧ y.o.req.adm.seq = p.s.o.req.adm.seq ∧ y.o.req.adm.topic = p.s.o.req.adm.topic ∧ (true = true ∧ List.length y.o.req.adm.nodes = List.length p.s.o.req.adm.nodes ∧ contLe (List.length y.o.req.adm.nodes) (1 : Nat) (cellsOf' encI y.o.req.adm.nodes) (cellsOf' encI p.s.o.req.adm.nodes)) ∧ y.o.req.adm.group = p.s.o.req.adm.group ∧ y.o.req.adm.other = p.s.o.req.adm.other ∧ y.o.req.adm.key = p.s.o.req.adm.key ∧ y.o.req.adm.fr = p.s.o.req.adm.fr ∧ y.o.req.adm.to = p.s.o.req.adm.to ∧ y.o.req.adm.plan = p.s.o.req.adm.plan ∧ y.o.req.adm.step = p.s.o.req.adm.step ∧ y.o.req.topic = p.s.o.req.topic ∧ y.o.done = p.s.o.done ∧ y.o.rep.id = p.s.o.rep.id ∧ y.o.rep.err = p.s.o.rep.err ∧ y.o.rep.leader = p.s.o.rep.leader ∧ y.o.rep.rerr = p.s.o.rep.rerr ∧ y.o.rep.roff = p.s.o.rep.roff ∧ y.o.rep.rold = p.s.o.rep.rold ∧ (true = true ∧ List.length y.o.rep.recs = List.length p.s.o.rep.recs ∧ contLe (List.length y.o.rep.recs) (5 : Nat) (cellsOf' encR y.o.rep.recs) (cellsOf' encR p.s.o.rep.recs)) ∧ y.o.rep.number = p.s.o.rep.number ∧ (true = true ∧ List.length y.o.rep.shards = List.length p.s.o.rep.shards ∧ contLe (List.length y.o.rep.shards) (7 : Nat) (cellsOf' encSh y.o.rep.shards) (cellsOf' encSh p.s.o.rep.shards)) ∧ y.o.rep.group = p.s.o.rep.group ∧ y.o.rep.index = p.s.o.rep.index ∧ y.o.rep.term = p.s.o.rep.term ∧ True) ∧ True)
def vcEn (id : Int) (s : List Int) (k : Cal) (l : List Rep) (c : Clt) (e : Int) (y : Nod) (f : Int) (p : EO l) : Prop :=
  True ∧ True ∧ (id = id ∧ (true = true ∧ List.length s = List.length s ∧ contLe (List.length s) (1 : Nat) (cellsOf' encI s) (cellsOf' encI s)) ∧ (9 : Int) = (9 : Int) ∧ True) ∧ True ∧ NewQ id s (9 : Int) c e ∧ (false = true → true = true ∧ True) ∧ (false = false → ((e != (0 : Int)) = true → true = true ∧ True) ∧ ((e != (0 : Int)) = false → ((c.id = c.id ∧ (true = true ∧ List.length c.servers = List.length c.servers ∧ contLe (List.length c.servers) (1 : Nat) (cellsOf' encI c.servers) (cellsOf' encI c.servers)) ∧ c.prod = c.prod ∧ c.seq = c.seq ∧ (true = true ∧ List.length c.topics = List.length c.topics ∧ contLe (List.length c.topics) (2 : Nat) (cellsOf' encTp c.topics) (cellsOf' encTp c.topics)) ∧ (true = true ∧ List.length c.leaders = List.length c.leaders ∧ contLe (List.length c.leaders) (2 : Nat) (cellsOf' encSi c.leaders) (cellsOf' encSi c.leaders)) ∧ c.busy = c.busy ∧ c.call.kind = c.call.kind ∧ c.call.topic = c.call.topic ∧ c.call.key = c.call.key ∧ (true = true ∧ List.length c.call.val = List.length c.call.val ∧ contLe (List.length c.call.val) (1 : Nat) (cellsOf' encB c.call.val) (cellsOf' encB c.call.val)) ∧ c.call.off = c.call.off ∧ c.call.most = c.call.most ∧ c.call.name = c.call.name ∧ c.call.adm.kind = c.call.adm.kind ∧ c.call.adm.prod = c.call.adm.prod ∧ c.call.adm.seq = c.call.adm.seq ∧ c.call.adm.topic = c.call.adm.topic ∧ (true = true ∧ List.length c.call.adm.nodes = List.length c.call.adm.nodes ∧ contLe (List.length c.call.adm.nodes) (1 : Nat) (cellsOf' encI c.call.adm.nodes) (cellsOf' encI c.call.adm.nodes)) ∧ c.call.adm.group = c.call.adm.group ∧ c.call.adm.other = c.call.adm.other ∧ c.call.adm.key = c.call.adm.key ∧ c.call.adm.fr = c.call.adm.fr ∧ c.call.adm.to = c.call.adm.to ∧ c.call.adm.plan = c.call.adm.plan ∧ c.call.adm.step = c.call.adm.step ∧ c.number = c.number ∧ c.route = c.route ∧ c.group = c.group ∧ c.tries = c.tries ∧ c.waited = c.waited ∧ c.again = c.again ∧ c.at' = c.at' ∧ True) ∧ ((1 : Int) = (1 : Int) ∧ k.kind = k.kind ∧ k.topic = k.topic ∧ k.key = k.key ∧ (true = true ∧ List.length k.val = List.length k.val ∧ contLe (List.length k.val) (1 : Nat) (cellsOf' encB k.val) (cellsOf' encB k.val)) ∧ k.off = k.off ∧ k.most = k.most ∧ k.name = k.name ∧ k.adm.kind = k.adm.kind ∧ k.adm.prod = k.adm.prod ∧ k.adm.seq = k.adm.seq ∧ k.adm.topic = k.adm.topic ∧ (true = true ∧ List.length k.adm.nodes = List.length k.adm.nodes ∧ contLe (List.length k.adm.nodes) (1 : Nat) (cellsOf' encI k.adm.nodes) (cellsOf' encI k.adm.nodes)) ∧ k.adm.group = k.adm.group ∧ k.adm.other = k.adm.other ∧ k.adm.key = k.adm.key ∧ k.adm.fr = k.adm.fr ∧ k.adm.to = k.adm.to ∧ k.adm.plan = k.adm.plan ∧ k.adm.step = k.adm.step ∧ (0 : Int) = (0 : Int) ∧ (0 : Int) = (0 : Int) ∧ (0 : Int) = (0 : Int) ∧ (0 : Int) = (0 : Int) ∧ (0 : Int) = (0 : Int) ∧ false = false ∧ (0 : Nat) = (0 : Nat) ∧ (0 : Int) = (0 : Int) ∧ (0 : Nat) = (0 : Nat) ∧ (0 : Int) = (0 : Int) ∧ (0 : Int) = (0 : Int) ∧ (0 : Int) = (0 : Int) ∧ True) ∧ True) ∧ True ∧ StG c { kind := (1 : Int), call := k, rep := @default Rep instInhabitedRep : Inp } y f ∧ (∀ (k : Nat), k < List.length y.c.topics → ∀ (j : Nat), j < (2 : Nat) → tagT (cellsOf' encTp y.c.topics k j) = true) ∧ (∀ (k : Nat), k < List.length y.c.leaders → ∀ (j : Nat), j < (2 : Nat) → tagT (cellsOf' encSi y.c.leaders k j) = true) ∧ ((f != (0 : Int)) = true → (f == (212 : Int)) = true ∧ True) ∧ ((f != (0 : Int)) = false → (y.o.send = true → (((true = true ∧ List.length l = List.length l ∧ contLe (List.length l) (12 : Nat) (cellsOf' encRp l) (cellsOf' encRp l)) ∧ ((0 : Nat) = (0 : Nat) ∧ (0 : Nat) = (0 : Nat)) ∧ ((0 : Nat) = (0 : Nat) ∧ (0 : Nat) = (0 : Nat)) ∧ (1 : Int) = p.s.n ∧ (0 : Int) = (↑p.i : Int) ∧ True) ∧ (vcEn_q1 l y p) ∧ true = true) ∧ LoopOk Tryd.prog (5 : Nat) (12 : Nat) (loopAt Tryd.prog (5 : Nat) (12 : Nat)) { t := eoT l p, m := eM p.s.c p.s.o, mv := [] : St } (T.map (lout [(0 : Nat), (1 : Nat), (2 : Nat), (3 : Nat), (4 : Nat), (5 : Nat), (6 : Nat), (7 : Nat), (8 : Nat), (9 : Nat), (10 : Nat), (11 : Nat), (12 : Nat), (13 : Nat), (14 : Nat)] eoS) ((fun (x : EO l) => T.ret ()) p)) ∧ true = true ∧ True) ∧ (y.o.send = false → (((true = true ∧ List.length l = List.length l ∧ contLe (List.length l) (12 : Nat) (cellsOf' encRp l) (cellsOf' encRp l)) ∧ ((0 : Nat) = (0 : Nat) ∧ (0 : Nat) = (0 : Nat)) ∧ ((0 : Nat) = (0 : Nat) ∧ (0 : Nat) = (0 : Nat)) ∧ (0 : Int) = p.s.n ∧ (0 : Int) = (↑p.i : Int) ∧ True) ∧ (vcEn_q1 l y p) ∧ true = true) ∧ LoopOk Tryd.prog (5 : Nat) (12 : Nat) (loopAt Tryd.prog (5 : Nat) (12 : Nat)) { t := eoT l p, m := eM p.s.c p.s.o, mv := [] : St } (T.map (lout [(0 : Nat), (1 : Nat), (2 : Nat), (3 : Nat), (4 : Nat), (5 : Nat), (6 : Nat), (7 : Nat), (8 : Nat), (9 : Nat), (10 : Nat), (11 : Nat), (12 : Nat), (13 : Nat), (14 : Nat)] eoS) ((fun (x : EO l) => T.ret ()) p)) ∧ true = true ∧ True))))
set_option maxRecDepth 1000000 in
theorem vcEn_eq (id : Int) (s : List Int) (k : Cal) (l : List Rep) (c : Clt) (e : Int) (y : Nod) (f : Int) (p : EO l) : (ctrVC Tryd.prog (enH id s k l c e y f p) 5 [.y (.int .i64 id), encIs true s, .agg (encCl k), encReps l] [] (boolR true)) = vcEn id s k l c e y f p := by kernel_rfl
end Go.Proofs.YtdpbogaldcpfeaaDoor.C
