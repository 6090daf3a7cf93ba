import Derived.Test.YtdpbogaldcpfeaaDoorRows
import Derived.Test.YtdpbogaldcpfeaaDoorTie
import Derived.Test.YtdpbogaldcpfeaaDoorCards
import Derived.OpenShut
import Derived.Lay
import Derived.Handed
import Derived.SevenTiedAt
import Derived.Test.YtdpbogaldcpfeaaDoorE10
import Derived.Test.YtdpbogaldcpfeaaDoorW5
import Derived.Test.YtdpbogaldcpfeaaDoorW6
set_option linter.unusedVariables false
set_option linter.unusedSimpArgs false
set_option linter.unusedSectionVars false
/-! A client's New. -/
namespace Go.Proofs.YtdpbogaldcpfeaaDoor.C
open Go.Ax
set_option maxRecDepth 1000000
def newB (id : Int) (l : List Int) (p : Int) : Bool := !(decide (id < 1)) && (!(decide (7 < id)) && (!(l.length == 0) && (!(p == 0) && (!(nwAny id (srt l)) && (Lib.compact (srt l)).length == l.length))))
def newK (id : Int) (l : List Int) (p : Int) : Clt := if newB id l p = true then newQ id l p else default
def newE (id : Int) (l : List Int) (p : Int) : Int := if newB id l p = true then 0 else 1
structure NewQ (id : Int) (l : List Int) (p : Int) (c : Clt) (e : Int) : Prop where
  c : c = newK id l p
  e : e = newE id l p
  n : l.length * 8 ≤ 140737488355328
theorem nwg_c (id : Int) (b : Bool) (l : List Int) (p : Int) (c : Clt) (e : Int) (h : NewQ id l p c e) : (nwgR c e).Sat (ACall' Tryd.prog 9 [.y (.int .i64 id), encIs b l, .y (.int .u64 p)] []) := by
  refine ctr_vc (ht := nwgH id b l (srt l) (Lib.compact (srt l))) Tryd.mixed rfl ?_
  rw [vcNwg_eq id b l (srt l) (Lib.compact (srt l)) p c e]
  unfold vcNwg vcNwg_q1
  obtain ⟨hc, he, hn⟩ := h
  have hsl := srt_len l
  have q1 : SrtQ l (srt l) := ⟨rfl, by omega⟩
  have q00 : SrtQ [] (srt []) := ⟨rfl, by decide⟩
  have eb : ({ data := #[] } : ByteArray) = ByteArray.empty := rfl
  have ok0 : newB id l p = false → c = default ∧ e = 1 := fun h => ⟨by rw [hc]; unfold newK; simp [h], by rw [he]; unfold newE; simp [h]⟩
  have ok1 : newB id l p = true → c = newQ id l p ∧ e = 0 := fun h => ⟨by rw [hc]; unfold newK; simp [h], by rw [he]; unfold newE; simp [h]⟩
  by_cases h1 : id < 1
  · obtain ⟨rfl, rfl⟩ := ok0 (by unfold newB; simp [h1])
    simp [hn, q1, h1]
    repeat' apply And.intro
    all_goals rfl
  · by_cases h2 : 7 < id
    · obtain ⟨rfl, rfl⟩ := ok0 (by unfold newB; simp [h2])
      simp [hn, q1, h1, h2]
      repeat' apply And.intro
      all_goals rfl
    · by_cases h3 : l.length = 0
      · obtain ⟨rfl, rfl⟩ := ok0 (by unfold newB; simp [h3])
        have h3' : l = [] := List.eq_nil_of_length_eq_zero h3
        simp [hn, q1, h1, h2, h3']
        repeat' apply And.intro
        all_goals first | rfl | exact contLe_refl _ _ _ | exact q00 | omega
      · have q2 : CmpQ (srt l) (Lib.compact (srt l)) := ⟨rfl, by omega, by omega⟩
        have h3' : ¬ l = [] := fun e => h3 (by rw [e]; rfl)
        by_cases h4 : p = 0
        · obtain ⟨rfl, rfl⟩ := ok0 (by unfold newB; simp [h4])
          simp [hn, q1, h1, h2, h3', h4]
          repeat' apply And.intro
          all_goals first | rfl | exact contLe_refl _ _ _ | exact q00 | omega
        · generalize hs : srt l = s at *
          cases h5 : nwAny id s
          · by_cases h6 : (Lib.compact s).length = l.length
            · obtain ⟨rfl, rfl⟩ := ok1 (by unfold newB; simp [h1, h2, h3, h4, hs, h5, h6])
              simp [hn, q1, q2, h1, h2, h3', h4, h5, h6, hsl]
              repeat' apply And.intro
              all_goals first | rfl | exact contLe_refl _ _ _ | exact q00 | omega
            · obtain ⟨rfl, rfl⟩ := ok0 (by unfold newB; simp [hs, h6])
              simp [hn, q1, q2, h1, h2, h3', h4, h5, h6, hsl]
              refine ⟨by omega, fun hh => ?_, fun hh => ?_⟩
              · first | (repeat' apply And.intro) <;> first | rfl | exact contLe_refl _ _ _ | omega
              · first | exact absurd hh (by omega) | (repeat' apply And.intro) <;> first | rfl | exact contLe_refl _ _ _ | omega
          · obtain ⟨rfl, rfl⟩ := ok0 (by unfold newB; simp [hs, h5])
            simp [hn, q1, q2, h1, h2, h3', h4, h5, hsl]
            repeat' apply And.intro
            all_goals first | rfl | exact contLe_refl _ _ _ | exact q00 | omega
noncomputable def nwG (id : Int) (b : Bool) (l : List Int) (p : Int) (c : Clt) (e : Int) : Ctr Tryd.prog := ⟨9, [.y (.int .i64 id), encIs b l, .y (.int .u64 p)], [], .need (NewQ id l p c e) (nwgR c e), T.Sat.need fun h => nwg_c id b l p c e h⟩
end Go.Proofs.YtdpbogaldcpfeaaDoor.C

/-! A client: what stays so from step to step. -/
namespace Go.Proofs.YtdpbogaldcpfeaaDoor.C
open Go.Ax
structure Inv (n : Nat) (c : Clt) : Prop where
  s : c.servers.length * 8 ≤ 140737488355328
  a0 : 0 ≤ c.at'
  a1 : c.at' < c.servers.length
  tl : c.topics.length ≤ n
  ll : c.leaders.length ≤ n
  k : CalOk c.call
  t : ∀ x ∈ c.topics, TpOk x
structure InpOk (i : Inp) : Prop where
  c : CalOk i.call
  n : i.rep.shards.length * 104 ≤ 281474976710656
  s : ∀ x ∈ i.rep.shards, ShOk x
theorem calOk_default : CalOk default := ⟨by decide, by decide⟩
theorem Inv.mono {n m : Nat} {c : Clt} (h : Inv n c) (hm : n ≤ m) : Inv m c := ⟨h.s, h.a0, h.a1, Nat.le_trans h.tl hm, Nat.le_trans h.ll hm, h.k, h.t⟩
theorem inv_end {n : Nat} {x : Nod} {r : Rep} (h : Inv n x.c) : Inv n (endN x r).c := ⟨h.s, h.a0, h.a1, h.tl, h.ll, calOk_default, h.t⟩
theorem inv_later {n : Nat} {x : Nod} (h : Inv n x.c) : Inv n (laterN x).c := ⟨h.s, h.a0, h.a1, h.tl, h.ll, h.k, h.t⟩
theorem inv_send {n : Nat} {x : Nod} (h : Inv n x.c) : Inv n (sendN x).c := by
  unfold sendN
  split
  · exact inv_end h
  · split
    · exact ⟨h.s, h.a0, h.a1, h.tl, h.ll, h.k, h.t⟩
    · split
      · exact ⟨h.s, h.a0, h.a1, h.tl, h.ll, h.k, h.t⟩
      · exact ⟨h.s, h.a0, h.a1, h.tl, h.ll, h.k, h.t⟩
theorem at_ok {n : Nat} {x : Nod} (h : Inv n x.c) : 0 ≤ atQ x ∧ atQ x < x.c.servers.length := by
  have h1 := h.a0
  have h2 := h.a1
  have h3 := h.s
  unfold atQ
  rw [wrap_i64 (by omega) (by omega), Int.tmod_eq_emod_of_nonneg (by omega)]
  exact ⟨Int.emod_nonneg _ (by omega), Int.emod_lt_of_pos _ (by omega)⟩
theorem inv_next {n : Nat} {x : Nod} (h : Inv n x.c) : Inv n (nxtN x).c := ⟨h.s, (at_ok h).1, (at_ok h).2, h.tl, h.ll, h.k, h.t⟩
theorem inv_turn {n : Nat} {x : Nod} (h : Inv n x.c) : Inv n (turnN x).c := ⟨h.s, (at_ok h).1, (at_ok h).2, h.tl, Nat.le_trans (List.length_filter_le _ _) h.ll, h.k, h.t⟩
theorem inv_lrn {n : Nat} {x : Nod} {l : List Shd} (h : Inv n x.c) (hn : l.length * 104 ≤ 281474976710656) (hs : ∀ x ∈ l, ShOk x) : Inv (n + 1) (lrnN x l).c := by
  have htl : (lrnT x l).length ≤ n + 1 := by
    have := h.tl
    unfold lrnT
    split
    · rw [List.length_set]; omega
    · rw [List.length_append]; simp; omega
  have ht : ∀ t ∈ lrnT x l, TpOk t := by
    intro t ht
    unfold lrnT at ht
    split at ht
    · rcases List.mem_or_eq_of_mem_set ht with h1 | rfl
      · exact h.t t h1
      · exact ⟨hn, hs⟩
    · rcases List.mem_append.1 ht with h1 | h1
      · exact h.t t h1
      · obtain rfl := List.mem_singleton.1 h1
        exact ⟨hn, hs⟩
  exact ⟨h.s, h.a0, h.a1, htl, Nat.le_succ_of_le h.ll, h.k, ht⟩
theorem inv_finL {n : Nat} {x : Nod} {r : Rep} (h : Inv n x.c) (hn : r.shards.length * 104 ≤ 281474976710656) (hs : ∀ x ∈ r.shards, ShOk x) : Inv (n + 1) (finL x r).c := by
  unfold finL
  split
  · exact inv_lrn h hn hs
  · exact h.mono (Nat.le_succ _)
theorem inv_fin {n : Nat} {x : Nod} {r : Rep} (h : Inv n x.c) (hn : r.shards.length * 104 ≤ 281474976710656) (hs : ∀ x ∈ r.shards, ShOk x) : Inv (n + 1) (finN x r).c := by
  have h1 := inv_finL h hn hs
  unfold finN
  split
  · exact inv_end h1
  · split
    · exact inv_send h1
    · exact inv_later (inv_next h1)
theorem inv_taken {n : Nat} {x : Nod} (h : Inv n x.c) : Inv n (taken x).c := by
  unfold taken
  split
  · refine ⟨h.s, h.a0, h.a1, ?_, h.ll, h.k, fun t ht => h.t t ?_⟩
    · have := h.tl
      show (tout x.c.topics (topI x)).length ≤ n
      unfold tout
      simp
      omega
    · have ht : t ∈ tout x.c.topics (topI x) := ht
      unfold tout at ht
      rcases List.mem_append.1 ht with h1 | h1
      · exact List.mem_of_mem_take h1
      · exact List.mem_of_mem_drop h1
  · exact h
theorem inv_gone {n : Nat} {x : Nod} (h : Inv n x.c) : Inv n (goneN x).c := inv_later (inv_turn (inv_taken h))
theorem inv_led {n : Nat} {x : Nod} {v : Int} (h : Inv n x.c) : Inv (n + 1) (ledN x v).c := by
  refine ⟨h.s, h.a0, h.a1, Nat.le_succ_of_le h.tl, ?_, h.k, h.t⟩
  have := h.ll
  show (ledT x v).length ≤ n + 1
  unfold ledT
  split
  · rw [List.length_set]; omega
  · rw [List.length_append]; simp; omega
theorem inv_ans {n : Nat} {x : Nod} {r : Rep} (h : Inv n x.c) (hn : r.shards.length * 104 ≤ 281474976710656) (hs : ∀ x ∈ r.shards, ShOk x) : Inv (n + 1) (ansN x r).c := by
  unfold ansN
  split
  · exact inv_fin h hn hs
  · split
    · split
      · exact inv_send (inv_led h)
      · exact (inv_later (inv_turn h)).mono (Nat.le_succ _)
    · split
      · split
        · exact (inv_end h).mono (Nat.le_succ _)
        · exact (inv_gone h).mono (Nat.le_succ _)
      · split
        · exact (inv_gone h).mono (Nat.le_succ _)
        · split
          · split
            · exact (inv_end h).mono (Nat.le_succ _)
            · exact (inv_later h).mono (Nat.le_succ _)
          · exact (inv_end h).mono (Nat.le_succ _)
theorem inv_wt {n : Nat} {x : Nod} (h : Inv n x.c) : Inv n (wt1 x).c := ⟨h.s, h.a0, h.a1, h.tl, h.ll, h.k, h.t⟩
theorem inv_tic {n : Nat} {x : Nod} (h : Inv n x.c) : Inv n (ticN x).c := by
  unfold ticN
  split
  · exact h
  · split
    · exact inv_send h
    · split
      · exact inv_wt h
      · split
        · exact inv_end (inv_turn (inv_wt h))
        · exact inv_send (inv_turn (inv_wt h))
theorem inv_beg1 {n : Nat} {x : Nod} {c : Cal} (h : Inv n x.c) (hc : CalOk c) : Inv n (beg1 x c).c := ⟨h.s, h.a0, h.a1, h.tl, h.ll, hc, h.t⟩
theorem inv_step {n : Nat} {c : Clt} {i : Inp} (h : Inv n c) (hi : InpOk i) : Inv (n + 1) (stepN c i).c := by
  have h0 : Inv n (⟨c, default⟩ : Nod).c := h
  unfold stepN
  split
  · unfold begQ
    split
    · exact (inv_send (inv_beg1 h0 hi.c)).mono (Nat.le_succ _)
    · exact h0.mono (Nat.le_succ _)
  · split
    · unfold herN
      split
      · exact inv_ans h0 hi.n hi.s
      · exact h0.mono (Nat.le_succ _)
    · split
      · exact (inv_tic h0).mono (Nat.le_succ _)
      · exact h0.mono (Nat.le_succ _)
/-! the contract's conditions -/
theorem cltOk_of {n : Nat} {c : Clt} (h : Inv n c) (hN : (n + 1) * 40 ≤ 140737488355328) : CltOk c := by
  have h1 := h.tl
  have h2 := h.ll
  exact ⟨h.s, by omega, h.k, by omega, h.t⟩
theorem nodIn_of {n : Nat} {x : Nod} (h : Inv n x.c) (hN : (n + 1) * 40 ≤ 140737488355328) : NodIn x := by
  have h1 := h.tl
  exact ⟨by omega, fun t ht => by have := (h.t t ht).n; omega⟩
theorem sndOk_of {n : Nat} {x : Nod} (h : Inv n x.c) (hN : (n + 1) * 40 ≤ 140737488355328) : SndOk x := by
  have h2 := h.ll
  exact ⟨nodIn_of h hN, h.k, by omega, h.a0, h.a1⟩
theorem trnOk_of {n : Nat} {x : Nod} (h : Inv n x.c) (hN : (n + 1) * 40 ≤ 140737488355328) : TrnOk x := by
  have h2 := h.ll
  have h3 := h.a0
  have h4 := h.a1
  exact ⟨by omega, by omega⟩
theorem finOk_of {n : Nat} {x : Nod} {r : Rep} (h : Inv n x.c) (hN : (n + 2) * 40 ≤ 140737488355328) (hn : r.shards.length * 104 ≤ 281474976710656) (hs : ∀ x ∈ r.shards, ShOk x) : FinOk x r := by
  have h1 := h.tl
  have h2 := inv_finL h hn hs
  exact ⟨⟨by omega, hn, hs⟩, nodIn_of h2 hN, sndOk_of h2 hN⟩
theorem ansOk_of {n : Nat} {x : Nod} {r : Rep} (h : Inv n x.c) (hN : (n + 2) * 40 ≤ 140737488355328) (hn : r.shards.length * 104 ≤ 281474976710656) (hs : ∀ x ∈ r.shards, ShOk x) : AnsOk x r := by
  have h1 := h.tl
  have h2 := h.ll
  have h3 := h.s
  exact ⟨fun _ => finOk_of h hN hn hs, by omega, trnOk_of h (by omega), trnOk_of (inv_taken h) (by omega), sndOk_of (inv_led h) hN, by omega, by omega⟩
theorem stg_of {n : Nat} {c : Clt} {i : Inp} (h : Inv n c) (hi : InpOk i) (hN : (n + 2) * 40 ≤ 140737488355328) : StG c i (stepN c i) (stepE c i) := by
  have h0 : Inv n (⟨c, default⟩ : Nod).c := h
  exact ⟨cltOk_of h (by omega), rfl, rfl, fun _ => sndOk_of (inv_beg1 h0 hi.c) (by omega), fun _ => ⟨fun _ => ansOk_of h0 hN hi.n hi.s⟩, fun _ => ⟨fun _ _ => sndOk_of h0 (by omega), trnOk_of (inv_wt h0) (by omega), sndOk_of (inv_turn (inv_wt h0)) (by omega)⟩⟩
/-! New -/
theorem inv_new {id p : Int} {l : List Int} (hn : l.length * 8 ≤ 140737488355328) (h : newE id l p = 0) : Inv 0 (newK id l p) := by
  have hb : newB id l p = true := by
    cases hb : newB id l p
    · unfold newE at h; simp [hb] at h
    · rfl
  have h0 : ¬ l.length = 0 := by
    intro e
    unfold newB at hb
    simp [e] at hb
  unfold newK
  rw [if_pos hb]
  exact ⟨hn, Int.le_refl 0, (by show (0 : Int) < (l.length : Int); omega), Nat.le_refl 0, Nat.le_refl 0, calOk_default, fun x hx => by cases hx⟩
end Go.Proofs.YtdpbogaldcpfeaaDoor.C

/-! From the statements to the laws: the data. -/
namespace Go.Proofs.YtdpbogaldcpfeaaDoor
open Go.Ax Go.Shelf Go.RowKit Go.ChangeShapes Go.WideShapes Go.ChangeAt
set_option maxRecDepth 1000000
def toI {K : Type} : DataW K → Int
  | .lit (.int _ a) => a
  | _ => 0
def toS {K : Type} : DataW K → ByteArray
  | .lit (.string l) => ⟨l.toArray⟩
  | _ => ByteArray.empty
def toB {K : Type} : DataW K → Bool
  | .lit (.bool b) => b
  | _ => false
theorem encI_ok {K : Type} {k : IntKind} {d : DataW K} (h : (Sh.int k).wf d) : (Sh.int k).enc d = [.y (.int k (toI d))] := by
  obtain ⟨k', n, rfl, _⟩ := h
  rfl
theorem encS_ok {K : Type} {d : DataW K} (h : Sh.str.wf d) : Sh.str.enc d = [.y (.string (toS d))] := by
  obtain ⟨l, rfl, _⟩ := h
  rfl
theorem encO_ok {K : Type} {d : DataW K} (h : Sh.bool.wf d) : Sh.bool.enc d = [.y (.bool (toB d))] := by
  obtain ⟨l, rfl⟩ := h
  rfl
theorem enc_st {K : Type} (fs : List Sh) (ds : List (DataW K)) : (Sh.st fs).enc (.agg ds) = Sh.encL fs ds := by simp only [Sh.enc]
theorem enc_cons {K : Type} (s : Sh) (r : List Sh) (d : DataW K) (ds : List (DataW K)) : Sh.encL (s :: r) (d :: ds) = s.enc d ++ Sh.encL r ds := by simp only [Sh.encL]
theorem enc_nil {K : Type} (l : List (DataW K)) : Sh.encL [] l = [] := by simp only [Sh.encL]
theorem relA {P : Program} {W : World} {r : Reach} {base : Nat} {t : TypeId} {v : Value} {fs : Array Field} {l : List AV} {H : HH} {E : Env} (hu : P.underlying t = some (.struct fs)) (hv : Value.okWide P W r base t v) (h : RelL l H E v.cells.toList) : Rel (.agg l) H E v := by
  obtain ⟨cs, rfl, _⟩ := okWide_struct hu hv
  exact ⟨cs, rfl, h⟩
theorem Tryd.own : ownKnob Tryd.prog.godebug = Option.none := by kernel_rfl
theorem Tryd.laidOut : laidOutB Tryd.prog = true := by kernel_rfl
theorem Tryd.mapsRowed : mapsRowed Tryd.prog = true := by kernel_rfl
theorem Tryd.slicesOk : slicesOk Tryd.prog = true := by kernel_rfl
theorem underBool : Tryd.prog.underlying 4 = some .bool := by kernel_rfl
def structTypes (P : Program) (t : TypeId) : Option (List TypeId) := match P.underlying t with | some (.struct fs) => some (fs.toList.map (·.type)) | _ => Option.none
theorem structTypes_ok {P : Program} {t : TypeId} {l : List TypeId} (h : structTypes P t = some l) : ∃ fs, P.underlying t = some (.struct fs) ∧ fs.toList.map (·.type) = l := by
  unfold structTypes at h
  split at h
  · rename_i fs hu
    exact ⟨fs, hu, Option.some.inj h⟩
  · cases h
end Go.Proofs.YtdpbogaldcpfeaaDoor

/-! From the statements to the laws: calls, shards, replies. -/
namespace Go.Proofs.YtdpbogaldcpfeaaDoor
open Go.Ax Go.Shelf Go.RowKit Go.ChangeShapes Go.WideShapes Go.ChangeAt
set_option maxRecDepth 1000000
def shRec : Sh := .st [.int .u64, .str, .sl (.int .u8), .int .u64, .int .u64]
def toRec {K : Type} : DataW K → Rec
  | .agg [a, b, c, d, e] => ⟨toI a, toS b, listOf toI c, toI d, toI e⟩
  | _ => default
theorem relB {K : Type} {d : DataW K} (hd : (Sh.sl (.int .u8)).wf d) {H : HH} {E : Env} {v : Value} (h : Rel (slAV (.int .u8) d) H E v) : Rel (encBs true (listOf toI d)) H E v := conv_sl (encA := encB) (fun x hx => encI_ok hx) hd h
theorem rec_enc {K : Type} {d : DataW K} (hd : shRec.wf d) : ∃ a b c e f, d = .agg [a, b, c, e, f] ∧ (Sh.sl (.int .u8)).wf c ∧ shRec.enc d = [.y (.int .u64 (toI a)), .y (.string (toS b)), slAV (.int .u8) c, .y (.int .u64 (toI e)), .y (.int .u64 (toI f))] := by
  obtain ⟨ds, rfl, d1, r1, rfl, w1, d2, r2, rfl, w2, d3, r3, rfl, w3, d4, r4, rfl, w4, d5, r5, rfl, w5, rfl⟩ := hd
  refine ⟨d1, d2, d3, d4, d5, rfl, w3, ?_⟩
  simp only [shRec, enc_st, enc_cons, enc_nil, encI_ok w1, encS_ok w2, slAV_eq, encI_ok w4, encI_ok w5]
  rfl
theorem rec_conv {K : Type} {d : DataW K} (hd : shRec.wf d) (j : Nat) (hj : j < 5) (H : HH) (E : Env) (v : Value) (h : Rel (Ax.get (shRec.enc d) j) H E v) : Rel (Ax.get (encR (toRec d)) j) H E v := by
  obtain ⟨a, b, c, e, f, rfl, wc, he⟩ := rec_enc hd
  rw [he] at h
  match j, hj with
  | 0, _ => exact h
  | 1, _ => exact h
  | 2, _ => exact relB wc h
  | 3, _ => exact h
  | 4, _ => exact h
theorem relRs {K : Type} {d : DataW K} (hd : (Sh.sl shRec).wf d) {H : HH} {E : Env} {v : Value} (h : Rel (slAV shRec d) H E v) : Rel (encRs true (listOf toRec d)) H E v :=
  conv_slR (encA := encR) (fun x hx j hj H E v => rec_conv hx j hj H E v) hd h
theorem undRs : Tryd.prog.underlying 47 = some (.slice 149) := by kernel_rfl
theorem bytesR : Tryd.prog.bytesOf 149 = 64 := by kernel_rfl
theorem rs_sized {K : Type} {d : DataW K} (hw : (d.weights Tryd.prog 47).all (· ≤ reachBytes) = true) : (listOf toRec d).length * 64 ≤ 140737488351232 := by
  have := weights_slice toRec undRs hw
  rwa [bytesR] at this
def shRng : Sh := .st [.str, .str]
def toRng {K : Type} : DataW K → Rng
  | .agg [a, b] => ⟨toS a, toS b⟩
  | _ => default
theorem toRng_ok {K : Type} {d : DataW K} (h : shRng.wf d) : shRng.enc d = encG (toRng d) := by
  obtain ⟨ds, rfl, d1, r1, rfl, w1, d2, r2, rfl, w2, rfl⟩ := h
  simp only [shRng, enc_st, enc_cons, enc_nil, encS_ok w1, encS_ok w2]
  rfl
theorem weights_elem {K : Type} {P : Program} {e : TypeId} : ∀ {xs : List (DataW K)}, (DataW.weightsAll P e xs).all (· ≤ reachBytes) = true → ∀ x ∈ xs, (x.weights P e).all (· ≤ reachBytes) = true
  | [], _, _, h => by cases h
  | y :: r, h, x, hx => by
    rw [DataW.weightsAll, List.all_append, Bool.and_eq_true] at h
    rcases List.mem_cons.1 hx with rfl | hx
    · exact h.1
    · exact weights_elem h.2 x hx
theorem weights_elems {K : Type} {P : Program} {t u : TypeId} {xs r : List (DataW K)} (hu : P.underlying t = some (.slice u)) (h : ((DataW.slice xs r).weights P t).all (· ≤ reachBytes) = true) : ∀ x ∈ xs, (x.weights P u).all (· ≤ reachBytes) = true := by
  rw [DataW.weights, hu] at h
  simp only [List.all_cons, List.all_append, Bool.and_eq_true] at h
  exact weights_elem h.2.1
theorem relIs {K : Type} {d : DataW K} (hd : (Sh.sl (.int .i64)).wf d) {H : HH} {E : Env} {v : Value} (h : Rel (slAV (.int .i64) d) H E v) : Rel (C.encIs true (listOf toI d)) H E v := conv_sl (encA := encI) (fun x hx => encI_ok hx) hd h
theorem undIs : Tryd.prog.underlying 22 = some (.slice 3) := by kernel_rfl
theorem bytesI : Tryd.prog.bytesOf 3 = 8 := by kernel_rfl
theorem is_sized {K : Type} {d : DataW K} (hw : (d.weights Tryd.prog 22).all (· ≤ reachBytes) = true) : (listOf toI d).length * 8 ≤ 140737488351232 := by
  have := weights_slice toI undIs hw
  rwa [bytesI] at this
theorem undBs : Tryd.prog.underlying 28 = some (.slice 5) := by kernel_rfl
theorem bytesB : Tryd.prog.bytesOf 5 = 1 := by kernel_rfl
theorem bs_sized {K : Type} {d : DataW K} (hw : (d.weights Tryd.prog 28).all (· ≤ reachBytes) = true) : (listOf toI d).length ≤ 140737488351232 := by
  have := weights_slice toI undBs hw
  rwa [bytesB, Nat.mul_one] at this
/-! shards -/
def shShd : Sh := .st [.int .u64, shRng, .int .u64, .sl (.int .i64), .sl (.int .i64), .int .u64]
def toShd {K : Type} : DataW K → C.Shd
  | .agg [a, b, c, d, e, f] => ⟨toI a, toRng b, toI c, listOf toI d, listOf toI e, toI f⟩
  | _ => default
theorem shd_enc {K : Type} {d : DataW K} (hd : shShd.wf d) : ∃ a1 a2 a3 a4 a5 a6, d = .agg [a1, a2, a3, a4, a5, a6] ∧ (Sh.sl (.int .i64)).wf a4 ∧ (Sh.sl (.int .i64)).wf a5 ∧ shShd.enc d = [.y (.int .u64 (toI a1)), .y (.string (toRng a2).lo), .y (.string (toRng a2).hi), .y (.int .u64 (toI a3)), slAV (.int .i64) a4, slAV (.int .i64) a5, .y (.int .u64 (toI a6))] := by
  obtain ⟨ds, rfl, d1, r1, rfl, w1, d2, r2, rfl, w2, d3, r3, rfl, w3, d4, r4, rfl, w4, d5, r5, rfl, w5, d6, r6, rfl, w6, rfl⟩ := hd
  refine ⟨d1, d2, d3, d4, d5, d6, rfl, w4, w5, ?_⟩
  simp only [shShd, enc_st, enc_cons, enc_nil, encI_ok w1, toRng_ok w2, encI_ok w3, slAV_eq, encI_ok w6]
  rfl
theorem shd_conv {K : Type} {d : DataW K} (hd : shShd.wf d) (j : Nat) (hj : j < 7) (H : HH) (E : Env) (v : Value) (h : Rel (Ax.get (shShd.enc d) j) H E v) : Rel (Ax.get (C.encSh (toShd d)) j) H E v := by
  obtain ⟨a1, a2, a3, a4, a5, a6, rfl, w4, w5, he⟩ := shd_enc hd
  rw [he] at h
  match j, hj with
  | 0, _ => exact h
  | 1, _ => exact h
  | 2, _ => exact h
  | 3, _ => exact h
  | 4, _ => exact relIs w4 h
  | 5, _ => exact relIs w5 h
  | 6, _ => exact h
theorem relShs {K : Type} {d : DataW K} (hd : (Sh.sl shShd).wf d) {H : HH} {E : Env} {v : Value} (h : Rel (slAV shShd d) H E v) : Rel (C.encShs true (listOf toShd d)) H E v :=
  conv_slR (encA := C.encSh) (fun x hx j hj H E v => shd_conv hx j hj H E v) hd h
theorem undShs : Tryd.prog.underlying 50 = some (.slice 68) := by kernel_rfl
theorem bytesSh : Tryd.prog.bytesOf 68 = 104 := by kernel_rfl
theorem undShd : ∃ fs, Tryd.prog.underlying 68 = some (.struct fs) ∧ fs.toList.map (·.type) = [23, 66, 23, 22, 22, 23] := structTypes_ok (by kernel_rfl)
theorem shd_sized {K : Type} {d : DataW K} (hd : shShd.wf d) (hw : (d.weights Tryd.prog 68).all (· ≤ reachBytes) = true) : C.ShOk (toShd d) := by
  obtain ⟨a1, a2, a3, a4, a5, a6, rfl, w4, w5, he⟩ := shd_enc hd
  obtain ⟨fs, hf, ht⟩ := undShd
  have h := weights_struct hf hw
  rw [ht] at h
  obtain ⟨_, h⟩ := weights_cons h
  obtain ⟨_, h⟩ := weights_cons h
  obtain ⟨_, h⟩ := weights_cons h
  obtain ⟨h4, h⟩ := weights_cons h
  obtain ⟨h5, _⟩ := weights_cons h
  exact ⟨by have := is_sized h4; show (listOf toI a4).length * 8 ≤ _; omega, by have := is_sized h5; show (listOf toI a5).length * 8 ≤ _; omega⟩
theorem shs_sized {K : Type} {d : DataW K} (hd : (Sh.sl shShd).wf d) (hw : (d.weights Tryd.prog 50).all (· ≤ reachBytes) = true) : (listOf toShd d).length * 104 ≤ 140737488355328 ∧ ∀ x ∈ listOf toShd d, C.ShOk x := by
  refine ⟨?_, ?_⟩
  · have := weights_slice toShd undShs hw
    rw [bytesSh] at this
    omega
  · rcases hd with rfl | ⟨xs, r, rfl, hx⟩
    · intro y hy; cases hy
    · intro y hy
      obtain ⟨x, hx', rfl⟩ := List.mem_map.1 hy
      exact shd_sized (hx x hx') (weights_elems undShs hw x hx')
/-! calls -/
def shAd : Sh := .st [.int .i64, .int .u64, .int .u64, .str, .sl (.int .i64), .int .u64, .int .u64, .str, .int .i64, .int .i64, .int .u64, .int .i64]
def toAd {K : Type} : DataW K → C.Adm
  | .agg [a, b, c, d, e, f, g, h, i, j, k, l] => ⟨toI a, toI b, toI c, toS d, listOf toI e, toI f, toI g, toS h, toI i, toI j, toI k, toI l⟩
  | _ => default
def shCal : Sh := .st [.int .i64, .str, .str, .sl (.int .u8), .int .u64, .int .i64, .str, shAd]
def toCal {K : Type} : DataW K → C.Cal
  | .agg [a, b, c, d, e, f, g, h] => ⟨toI a, toS b, toS c, listOf toI d, toI e, toI f, toS g, toAd h⟩
  | _ => default
theorem undCal : ∃ fs, Tryd.prog.underlying 33 = some (.struct fs) ∧ fs.toList.map (·.type) = [27, 9, 9, 28, 23, 3, 9, 31] := structTypes_ok (by kernel_rfl)
theorem undAd : ∃ fs, Tryd.prog.underlying 31 = some (.struct fs) ∧ fs.toList.map (·.type) = [29, 23, 23, 9, 22, 23, 23, 9, 3, 3, 23, 3] := structTypes_ok (by kernel_rfl)
theorem cal_sized {K : Type} {d : DataW K} (hd : shCal.wf d) (hw : (d.weights Tryd.prog 33).all (· ≤ reachBytes) = true) : C.CalOk (toCal d) := by
  obtain ⟨ds, rfl, d1, r1, rfl, w1, d2, r2, rfl, w2, d3, r3, rfl, w3, d4, r4, rfl, w4, d5, r5, rfl, w5, d6, r6, rfl, w6, d7, r7, rfl, w7, d8, r8, rfl, w8, rfl⟩ := hd
  obtain ⟨es, rfl, e1, s1, rfl, x1, e2, s2, rfl, x2, e3, s3, rfl, x3, e4, s4, rfl, x4, e5, s5, rfl, x5, e6, s6, rfl, x6, e7, s7, rfl, x7, e8, s8, rfl, x8, e9, s9, rfl, x9, e10, s10, rfl, x10, e11, s11, rfl, x11, e12, s12, rfl, x12, rfl⟩ := w8
  obtain ⟨fs, hf, ht⟩ := undCal
  have h := weights_struct hf hw
  rw [ht] at h
  obtain ⟨_, h⟩ := weights_cons h
  obtain ⟨_, h⟩ := weights_cons h
  obtain ⟨_, h⟩ := weights_cons h
  obtain ⟨h4, h⟩ := weights_cons h
  obtain ⟨_, h⟩ := weights_cons h
  obtain ⟨_, h⟩ := weights_cons h
  obtain ⟨_, h⟩ := weights_cons h
  obtain ⟨h8, _⟩ := weights_cons h
  obtain ⟨gs, hg, gt⟩ := undAd
  have k := weights_struct hg h8
  rw [gt] at k
  obtain ⟨_, k⟩ := weights_cons k
  obtain ⟨_, k⟩ := weights_cons k
  obtain ⟨_, k⟩ := weights_cons k
  obtain ⟨_, k⟩ := weights_cons k
  obtain ⟨k5, _⟩ := weights_cons k
  exact ⟨by have := bs_sized h4; show (listOf toI d4).length ≤ _; omega, by have := is_sized k5; show (listOf toI e5).length * 8 ≤ _; omega⟩
/-! replies -/
def shRes : Sh := .st [.int .i64, .int .u64, .bool, .sl shRec]
def shRep : Sh := .st [.int .u64, .int .i64, .int .i64, shRes, .int .u64, .sl shShd, .int .u64, .int .u64, .int .u64]
def toRep {K : Type} : DataW K → C.Rep
  | .agg [a, b, c, .agg [d, e, f, g], h, i, j, k, l] => ⟨toI a, toI b, toI c, toI d, toI e, toB f, listOf toRec g, toI h, listOf toShd i, toI j, toI k, toI l⟩
  | _ => default
theorem rep_enc {K : Type} {d : DataW K} (hd : shRep.wf d) : ∃ d1 d2 d3 e1 e2 e3 e4 d5 d6 d7 d8 d9, d = .agg [d1, d2, d3, .agg [e1, e2, e3, e4], d5, d6, d7, d8, d9] ∧ (Sh.sl shRec).wf e4 ∧ (Sh.sl shShd).wf d6 ∧ shRep.enc d = [.y (.int .u64 (toI d1)), .y (.int .i64 (toI d2)), .y (.int .i64 (toI d3)), .y (.int .i64 (toI e1)), .y (.int .u64 (toI e2)), .y (.bool (toB e3)), slAV shRec e4, .y (.int .u64 (toI d5)), slAV shShd d6, .y (.int .u64 (toI d7)), .y (.int .u64 (toI d8)), .y (.int .u64 (toI d9))] := by
  obtain ⟨ds, rfl, d1, r1, rfl, w1, d2, r2, rfl, w2, d3, r3, rfl, w3, d4, r4, rfl, w4, d5, r5, rfl, w5, d6, r6, rfl, w6, d7, r7, rfl, w7, d8, r8, rfl, w8, d9, r9, rfl, w9, rfl⟩ := hd
  obtain ⟨es, rfl, e1, s1, rfl, x1, e2, s2, rfl, x2, e3, s3, rfl, x3, e4, s4, rfl, x4, rfl⟩ := w4
  refine ⟨d1, d2, d3, e1, e2, e3, e4, d5, d6, d7, d8, d9, rfl, x4, w6, ?_⟩
  simp only [shRep, shRes, enc_st, enc_cons, enc_nil, slAV_eq, encI_ok w1, encI_ok w2, encI_ok w3, encI_ok w5, encI_ok w7, encI_ok w8, encI_ok w9, encI_ok x1, encI_ok x2, encO_ok x3]
  rfl
theorem relRep {K : Type} {d : DataW K} (hd : shRep.wf d) {H : HH} {E : Env} {vs : List Value} (h : RelL (shRep.enc d) H E vs) : RelL (C.encRp (toRep d)) H E vs := by
  obtain ⟨d1, d2, d3, e1, e2, e3, e4, d5, d6, d7, d8, d9, rfl, x4, w6, e⟩ := rep_enc hd
  rw [e] at h
  obtain ⟨v1, y1, rfl, h1, v2, y2, rfl, h2, v3, y3, rfl, h3, v4, y4, rfl, h4, v5, y5, rfl, h5, v6, y6, rfl, h6, v7, y7, rfl, h7, v8, y8, rfl, h8, v9, y9, rfl, h9, v10, y10, rfl, h10, v11, y11, rfl, h11, v12, y12, rfl, h12, rfl⟩ := h
  exact ⟨_, _, rfl, h1, _, _, rfl, h2, _, _, rfl, h3, _, _, rfl, h4, _, _, rfl, h5, _, _, rfl, h6, _, _, rfl, relRs x4 h7, _, _, rfl, h8, _, _, rfl, relShs w6 h9, _, _, rfl, h10, _, _, rfl, h11, _, _, rfl, h12, rfl⟩
theorem undRep : ∃ fs, Tryd.prog.underlying 52 = some (.struct fs) ∧ fs.toList.map (·.type) = [23, 36, 3, 49, 23, 50, 23, 23, 23] := structTypes_ok (by kernel_rfl)
theorem undRes : ∃ fs, Tryd.prog.underlying 49 = some (.struct fs) ∧ fs.toList.map (·.type) = [36, 23, 4, 47] := structTypes_ok (by kernel_rfl)
structure RepSz (r : C.Rep) : Prop where
  rc : r.recs.length * 64 ≤ 140737488351232
  rl : r.shards.length * 104 ≤ 140737488355328
  rs : ∀ x ∈ r.shards, C.ShOk x
theorem rep_sized {K : Type} {d : DataW K} (hd : shRep.wf d) (hw : (d.weights Tryd.prog 52).all (· ≤ reachBytes) = true) : RepSz (toRep d) := by
  obtain ⟨d1, d2, d3, e1, e2, e3, e4, d5, d6, d7, d8, d9, rfl, x4, w6, e⟩ := rep_enc hd
  obtain ⟨fs, hf, ht⟩ := undRep
  have h := weights_struct hf hw
  rw [ht] at h
  obtain ⟨_, h⟩ := weights_cons h
  obtain ⟨_, h⟩ := weights_cons h
  obtain ⟨_, h⟩ := weights_cons h
  obtain ⟨h4, h⟩ := weights_cons h
  obtain ⟨_, h⟩ := weights_cons h
  obtain ⟨h6, _⟩ := weights_cons h
  obtain ⟨gs, hg, gt⟩ := undRes
  have k := weights_struct hg h4
  rw [gt] at k
  obtain ⟨_, k⟩ := weights_cons k
  obtain ⟨_, k⟩ := weights_cons k
  obtain ⟨_, k⟩ := weights_cons k
  obtain ⟨k4, _⟩ := weights_cons k
  have s := shs_sized w6 h6
  exact ⟨rs_sized k4, s.1, s.2⟩
/-! inputs -/
theorem cal_enc {K : Type} {d : DataW K} (hd : shCal.wf d) : ∃ d4 e5 : DataW K, (Sh.sl (.int .u8)).wf d4 ∧ (Sh.sl (.int .i64)).wf e5 ∧ listOf toI d4 = (toCal d).val ∧ listOf toI e5 = (toCal d).adm.nodes ∧ shCal.enc d = [.y (.int .i64 (toCal d).kind), .y (.string (toCal d).topic), .y (.string (toCal d).key), slAV (.int .u8) d4, .y (.int .u64 (toCal d).off), .y (.int .i64 (toCal d).most), .y (.string (toCal d).name), .y (.int .i64 (toCal d).adm.kind), .y (.int .u64 (toCal d).adm.prod), .y (.int .u64 (toCal d).adm.seq), .y (.string (toCal d).adm.topic), slAV (.int .i64) e5, .y (.int .u64 (toCal d).adm.group), .y (.int .u64 (toCal d).adm.other), .y (.string (toCal d).adm.key), .y (.int .i64 (toCal d).adm.fr), .y (.int .i64 (toCal d).adm.to), .y (.int .u64 (toCal d).adm.plan), .y (.int .i64 (toCal d).adm.step)] := by
  obtain ⟨ds, rfl, d1, r1, rfl, w1, d2, r2, rfl, w2, d3, r3, rfl, w3, d4, r4, rfl, w4, d5, r5, rfl, w5, d6, r6, rfl, w6, d7, r7, rfl, w7, d8, r8, rfl, w8, rfl⟩ := hd
  obtain ⟨es, rfl, e1, s1, rfl, x1, e2, s2, rfl, x2, e3, s3, rfl, x3, e4, s4, rfl, x4, e5, s5, rfl, x5, e6, s6, rfl, x6, e7, s7, rfl, x7, e8, s8, rfl, x8, e9, s9, rfl, x9, e10, s10, rfl, x10, e11, s11, rfl, x11, e12, s12, rfl, x12, rfl⟩ := w8
  refine ⟨d4, e5, w4, x5, rfl, rfl, ?_⟩
  simp only [shCal, shAd, enc_st, enc_cons, enc_nil, slAV_eq, encI_ok w1, encS_ok w2, encS_ok w3, encI_ok w5, encI_ok w6, encS_ok w7, encI_ok x1, encI_ok x2, encI_ok x3, encS_ok x4, encI_ok x6, encI_ok x7, encS_ok x8, encI_ok x9, encI_ok x10, encI_ok x11, encI_ok x12]
  rfl
def shInp : Sh := .st [.int .i64, shCal, shRep]
def toInp {K : Type} : DataW K → C.Inp
  | .agg [a, b, c] => ⟨toI a, toCal b, toRep c⟩
  | _ => default
def convL (H : HH) (E : Env) : List AV → List AV → Prop
  | [], [] => True
  | a :: r, b :: s => (∀ v, Rel a H E v → Rel b H E v) ∧ convL H E r s
  | _, _ => False
theorem convL_at {H : HH} {E : Env} : ∀ {l l' : List AV}, convL H E l l' → ∀ (j : Nat) (v : Value), Rel (Ax.get l j) H E v → Rel (Ax.get l' j) H E v
  | [], [], _, _, _, h => h
  | _ :: _, _ :: _, h, 0, v, hv => h.1 v hv
  | _ :: _, _ :: _, h, j + 1, v, hv => convL_at h.2 j v hv
  | [], _ :: _, h, _, _, _ => h.elim
  | _ :: _, [], h, _, _, _ => h.elim
theorem inp_conv {K : Type} {d : DataW K} (hd : shInp.wf d) (j : Nat) (hj : j < 32) (H : HH) (E : Env) (v : Value) (h : Rel (Ax.get (shInp.enc d) j) H E v) : Rel (Ax.get (C.encIn (toInp d)) j) H E v := by
  obtain ⟨ds, rfl, a, r1, rfl, w1, b, r2, rfl, w2, c, r3, rfl, w3, rfl⟩ := hd
  obtain ⟨d4, e5, x4, x5, q4, q5, eb⟩ := cal_enc w2
  obtain ⟨d1, d2, d3, e1, e2, e3, e4, d5, d6, d7, d8, d9, rfl, y4, y6, ec⟩ := rep_enc w3
  simp only [shInp, enc_st, enc_cons, enc_nil, encI_ok w1, eb, ec] at h
  have hb : ∀ v, Rel (slAV (.int .u8) d4) H E v → Rel (encBs true (toCal b).val) H E v := fun v hv => by rw [← q4]; exact relB x4 hv
  have hn : ∀ v, Rel (slAV (.int .i64) e5) H E v → Rel (C.encIs true (toCal b).adm.nodes) H E v := fun v hv => by rw [← q5]; exact relIs x5 hv
  refine convL_at (l := _) (l' := C.encIn (toInp (DataW.agg [a, b, DataW.agg [d1, d2, d3, DataW.agg [e1, e2, e3, e4], d5, d6, d7, d8, d9]]))) ?_ j v h
  exact ⟨(fun _ h => h), (fun _ h => h), (fun _ h => h), (fun _ h => h), hb, (fun _ h => h), (fun _ h => h), (fun _ h => h), (fun _ h => h), (fun _ h => h), (fun _ h => h), (fun _ h => h), hn, (fun _ h => h), (fun _ h => h), (fun _ h => h), (fun _ h => h), (fun _ h => h), (fun _ h => h), (fun _ h => h), (fun _ h => h), (fun _ h => h), (fun _ h => h), (fun _ h => h), (fun _ h => h), (fun _ h => h), (fun _ h => relRs y4 h), (fun _ h => h), (fun _ h => relShs y6 h), (fun _ h => h), (fun _ h => h), (fun _ h => h), trivial⟩
theorem relInps {K : Type} {d : DataW K} (hd : (Sh.sl shInp).wf d) {H : HH} {E : Env} {v : Value} (h : Rel (slAV shInp d) H E v) : Rel ((.ys true 32 (listOf toInp d).length (cellsOf' C.encIn (listOf toInp d)))) H E v :=
  conv_slR (encA := C.encIn) (fun x hx j hj H E v => inp_conv hx j hj H E v) hd h
theorem undInps : Tryd.prog.underlying 41 = some (.slice 59) := by kernel_rfl
theorem bytesInp : Tryd.prog.bytesOf 59 = 360 := by kernel_rfl
theorem undInp : ∃ fs, Tryd.prog.underlying 59 = some (.struct fs) ∧ fs.toList.map (·.type) = [57, 33, 52] := structTypes_ok (by kernel_rfl)
theorem inp_sized {K : Type} {d : DataW K} (hd : shInp.wf d) (hw : (d.weights Tryd.prog 59).all (· ≤ reachBytes) = true) : C.InpOk (toInp d) := by
  obtain ⟨ds, rfl, a, r1, rfl, w1, b, r2, rfl, w2, c, r3, rfl, w3, rfl⟩ := hd
  obtain ⟨fs, hf, ht⟩ := undInp
  have h := weights_struct hf hw
  rw [ht] at h
  obtain ⟨_, h⟩ := weights_cons h
  obtain ⟨h2, h⟩ := weights_cons h
  obtain ⟨h3, _⟩ := weights_cons h
  have hr := rep_sized w3 h3
  exact ⟨cal_sized w2 h2, by have := hr.rl; show (toRep c).shards.length * 104 ≤ _; omega, hr.rs⟩
theorem inps_sized {K : Type} {d : DataW K} (hd : (Sh.sl shInp).wf d) (hw : (d.weights Tryd.prog 41).all (· ≤ reachBytes) = true) : (listOf toInp d).length * 360 ≤ 140737488351232 ∧ ∀ x ∈ listOf toInp d, C.InpOk x := by
  refine ⟨?_, ?_⟩
  · have := weights_slice toInp undInps hw
    rwa [bytesInp] at this
  · rcases hd with rfl | ⟨xs, r, rfl, hx⟩
    · intro y hy; cases hy
    · intro y hy
      obtain ⟨x, hx', rfl⟩ := List.mem_map.1 hy
      exact inp_sized (hx x hx') (weights_elems undInps hw x hx')
end Go.Proofs.YtdpbogaldcpfeaaDoor

/-! A client: a reply is like itself. -/
namespace Go.Proofs.YtdpbogaldcpfeaaDoor.C
open Go.Ax
set_option maxRecDepth 1000000
def iqT (b1 b2 : Bool) (a : List Int) (k : Nat) : List AV := mkT 26 [(0, encIs b1 a), (1, encIs b2 a), (5, .y (.int .i64 k))]
def iqS (_ : Unit) : Exit × List AV × List Blk := (.exit 0, mkT 26 [], [])
def vcInL (b1 : Bool) (b2 : Bool) (a : List Int) (k : Nat) : Prop :=
  (decide ((↑k : Int) < (↑(List.length a) : Int)) = true → (true && decide ((↑k : Int) < (↑(List.length a) : Int))) = true ∧ (true && decide ((↑k : Int) < (↑(List.length a) : Int))) = true ∧ ((List.getD a (Int.toNat (↑k : Int)) (0 : Int) != List.getD a (Int.toNat (↑k : Int)) (0 : Int)) = true → False) ∧ ((List.getD a (Int.toNat (↑k : Int)) (0 : Int) != List.getD a (Int.toNat (↑k : Int)) (0 : Int)) = false → ∃ (j : Nat), List.length a - j < List.length a - k ∧ (((b1 = b1 ∧ List.length a = List.length a ∧ contLe (List.length a) (1 : Nat) (cellsOf' encI a) (cellsOf' encI a)) ∧ (b2 = b2 ∧ List.length a = List.length a ∧ contLe (List.length a) (1 : Nat) (cellsOf' encI a) (cellsOf' encI a)) ∧ IntKind.wrap IntKind.i64 ((↑k : Int) + (1 : Int)) = (↑j : Int) ∧ True) ∧ True ∧ true = true) ∧ true = true ∧ () = ())) ∧ (decide ((↑k : Int) < (↑(List.length a) : Int)) = false → True ∧ True ∧ true = true)
set_option maxRecDepth 1000000 in
theorem vcInL_eq (b1 : Bool) (b2 : Bool) (a : List Int) (k : Nat) : (loopVC Tryd.prog (hT _) 23 4 (fun k => a.length - k) (iqT b1 b2 a) (fun _ => []) [0] (fun _ => .ret ()) iqS k) = vcInL b1 b2 a k := by kernel_rfl
noncomputable def iqH (b1 b2 : Bool) (a : List Int) : HintsT Tryd.prog := hh _ (lp1 23 4 (jobOf (iqT b1 b2 a) (fun _ => []) [0] (fun _ => .ret ()) iqS 0) noLp) noCs noOp
def vcIns (b1 : Bool) (b2 : Bool) (a : List Int) : Prop :=
  (((↑(List.length a) : Int) != (↑(List.length a) : Int)) = true → false = true ∧ True) ∧ (((↑(List.length a) : Int) != (↑(List.length a) : Int)) = false → (((b1 = b1 ∧ List.length a = List.length a ∧ contLe (List.length a) (1 : Nat) (cellsOf' encI a) (cellsOf' encI a)) ∧ (b2 = b2 ∧ List.length a = List.length a ∧ contLe (List.length a) (1 : Nat) (cellsOf' encI a) (cellsOf' encI a)) ∧ (0 : Int) = (0 : Int) ∧ True) ∧ True ∧ true = true) ∧ LoopOk Tryd.prog (23 : Nat) (4 : Nat) (loopAt Tryd.prog (23 : Nat) (4 : Nat)) { t := iqT b1 b2 a (0 : Nat), m := [], mv := [] : St } (T.map (lout [(0 : Nat)] iqS) ((fun (x : Nat) => T.ret ()) (0 : Nat))) ∧ true = true ∧ True)
set_option maxRecDepth 1000000 in
theorem vcIns_eq (b1 : Bool) (b2 : Bool) (a : List Int) : (ctrVC Tryd.prog (iqH b1 b2 a) 23 [encIs b1 a, encIs b2 a] [] (boolR true)) = vcIns b1 b2 a := by kernel_rfl
theorem iq_loop (b1 b2 : Bool) (a : List Int) (hl : a.length ≤ 9223372036854775806) (k : Nat) : LoopOk Tryd.prog 23 4 (loopAt Tryd.prog 23 4) ⟨iqT b1 b2 a k, [], []⟩ (T.map (lout [0] iqS) (.ret ())) := by
  refine loop_vc (o := fun _ => .ret ()) Tryd.mixed (fun _ => rfl) (fun k => (vcInL_eq b1 b2 a k).mpr ?_) k
  unfold vcInL
  simp
  intro h
  simp [h]
  exact ⟨k + 1, by omega, by rw [wrap_i64 (by omega) (by omega)]; omega⟩
theorem iq_c (b1 b2 : Bool) (a : List Int) (hl : a.length ≤ 9223372036854775806) : (boolR true).Sat (ACall' Tryd.prog 23 [encIs b1 a, encIs b2 a] []) := by
  refine ctr_vc (ht := iqH b1 b2 a) Tryd.mixed rfl ?_
  rw [vcIns_eq b1 b2 a]
  unfold vcIns
  simp [iq_loop b1 b2 a hl 0]
noncomputable def iqC (b1 b2 : Bool) (a b : List Int) : Ctr Tryd.prog := ⟨23, [encIs b1 a, encIs b2 b], [], .need (a.length ≤ 9223372036854775806 ∧ a = b) (boolR true), T.Sat.need fun h => by obtain ⟨h1, rfl⟩ := h; exact iq_c b1 b2 a h1⟩
/-! records -/
/-! shards -/
structure ShIn (s : Shd) : Prop where
  n : s.nodes.length ≤ 9223372036854775806
  p : s.past.length ≤ 9223372036854775806
def ss2T (b1 b2 : Bool) (a : List Shd) (k : Nat) : List AV := mkT 99 [(0, encShs b1 a), (1, encShs b2 a), (5, .y (.int .i64 k))]
def ss2S (_ : Unit) : Exit × List AV × List Blk := (.exit 0, mkT 99 [], [])
noncomputable def ss2H (s : Shd) : HintsT Tryd.prog := hh _ noLp (cs1 24 6 10 (iqC true true s.nodes s.nodes) (cs1 24 7 10 (iqC true true s.past s.past) noCs)) noOp
def vcSsL (b1 : Bool) (b2 : Bool) (a : List Shd) (k : Nat) : Prop :=
  (decide ((↑k : Int) < (↑(List.length a) : Int)) = true → (true && decide ((↑k : Int) < (↑(List.length a) : Int))) = true ∧ (true && decide ((↑k : Int) < (↑(List.length a) : Int))) = true ∧ ((true = true ∧ List.length (List.getD a (Int.toNat (↑k : Int)) (@default Shd instInhabitedShd)).nodes = List.length (Option.getD a[k]? (@default Shd instInhabitedShd)).nodes ∧ contLe (List.length (List.getD a (Int.toNat (↑k : Int)) (@default Shd instInhabitedShd)).nodes) (1 : Nat) (cellsOf' encI (List.getD a (Int.toNat (↑k : Int)) (@default Shd instInhabitedShd)).nodes) (cellsOf' encI (Option.getD a[k]? (@default Shd instInhabitedShd)).nodes)) ∧ (true = true ∧ List.length (List.getD a (Int.toNat (↑k : Int)) (@default Shd instInhabitedShd)).nodes = List.length (Option.getD a[k]? (@default Shd instInhabitedShd)).nodes ∧ contLe (List.length (List.getD a (Int.toNat (↑k : Int)) (@default Shd instInhabitedShd)).nodes) (1 : Nat) (cellsOf' encI (List.getD a (Int.toNat (↑k : Int)) (@default Shd instInhabitedShd)).nodes) (cellsOf' encI (Option.getD a[k]? (@default Shd instInhabitedShd)).nodes)) ∧ True) ∧ True ∧ (List.length (Option.getD a[k]? (@default Shd instInhabitedShd)).nodes ≤ (9223372036854775806 : Nat) ∧ (Option.getD a[k]? (@default Shd instInhabitedShd)).nodes = (Option.getD a[k]? (@default Shd instInhabitedShd)).nodes) ∧ (true && decide ((↑k : Int) < (↑(List.length a) : Int))) = true ∧ (true && decide ((↑k : Int) < (↑(List.length a) : Int))) = true ∧ ((true = true ∧ List.length (List.getD a (Int.toNat (↑k : Int)) (@default Shd instInhabitedShd)).past = List.length (Option.getD a[k]? (@default Shd instInhabitedShd)).past ∧ contLe (List.length (List.getD a (Int.toNat (↑k : Int)) (@default Shd instInhabitedShd)).past) (1 : Nat) (cellsOf' encI (List.getD a (Int.toNat (↑k : Int)) (@default Shd instInhabitedShd)).past) (cellsOf' encI (Option.getD a[k]? (@default Shd instInhabitedShd)).past)) ∧ (true = true ∧ List.length (List.getD a (Int.toNat (↑k : Int)) (@default Shd instInhabitedShd)).past = List.length (Option.getD a[k]? (@default Shd instInhabitedShd)).past ∧ contLe (List.length (List.getD a (Int.toNat (↑k : Int)) (@default Shd instInhabitedShd)).past) (1 : Nat) (cellsOf' encI (List.getD a (Int.toNat (↑k : Int)) (@default Shd instInhabitedShd)).past) (cellsOf' encI (Option.getD a[k]? (@default Shd instInhabitedShd)).past)) ∧ True) ∧ True ∧ (List.length (Option.getD a[k]? (@default Shd instInhabitedShd)).past ≤ (9223372036854775806 : Nat) ∧ (Option.getD a[k]? (@default Shd instInhabitedShd)).past = (Option.getD a[k]? (@default Shd instInhabitedShd)).past) ∧ (false = true → False) ∧ (false = false → (false = true → False) ∧ (false = false → (true && decide ((↑k : Int) < (↑(List.length a) : Int))) = true ∧ (true && decide ((↑k : Int) < (↑(List.length a) : Int))) = true ∧ (((List.getD a (Int.toNat (↑k : Int)) (@default Shd instInhabitedShd)).group != (List.getD a (Int.toNat (↑k : Int)) (@default Shd instInhabitedShd)).group) = true → False) ∧ (((List.getD a (Int.toNat (↑k : Int)) (@default Shd instInhabitedShd)).group != (List.getD a (Int.toNat (↑k : Int)) (@default Shd instInhabitedShd)).group) = false → (true && decide ((↑k : Int) < (↑(List.length a) : Int))) = true ∧ (true && decide ((↑k : Int) < (↑(List.length a) : Int))) = true ∧ ((!((List.getD a (Int.toNat (↑k : Int)) (@default Shd instInhabitedShd)).rng.lo.data.toList == (List.getD a (Int.toNat (↑k : Int)) (@default Shd instInhabitedShd)).rng.lo.data.toList && ((List.getD a (Int.toNat (↑k : Int)) (@default Shd instInhabitedShd)).rng.hi.data.toList == (List.getD a (Int.toNat (↑k : Int)) (@default Shd instInhabitedShd)).rng.hi.data.toList && true))) = true → False) ∧ ((!((List.getD a (Int.toNat (↑k : Int)) (@default Shd instInhabitedShd)).rng.lo.data.toList == (List.getD a (Int.toNat (↑k : Int)) (@default Shd instInhabitedShd)).rng.lo.data.toList && ((List.getD a (Int.toNat (↑k : Int)) (@default Shd instInhabitedShd)).rng.hi.data.toList == (List.getD a (Int.toNat (↑k : Int)) (@default Shd instInhabitedShd)).rng.hi.data.toList && true))) = false → (true && decide ((↑k : Int) < (↑(List.length a) : Int))) = true ∧ (true && decide ((↑k : Int) < (↑(List.length a) : Int))) = true ∧ (((List.getD a (Int.toNat (↑k : Int)) (@default Shd instInhabitedShd)).epoch != (List.getD a (Int.toNat (↑k : Int)) (@default Shd instInhabitedShd)).epoch) = true → False) ∧ (((List.getD a (Int.toNat (↑k : Int)) (@default Shd instInhabitedShd)).epoch != (List.getD a (Int.toNat (↑k : Int)) (@default Shd instInhabitedShd)).epoch) = false → (true && decide ((↑k : Int) < (↑(List.length a) : Int))) = true ∧ (true && decide ((↑k : Int) < (↑(List.length a) : Int))) = true ∧ (((List.getD a (Int.toNat (↑k : Int)) (@default Shd instInhabitedShd)).plan != (List.getD a (Int.toNat (↑k : Int)) (@default Shd instInhabitedShd)).plan) = true → False) ∧ (((List.getD a (Int.toNat (↑k : Int)) (@default Shd instInhabitedShd)).plan != (List.getD a (Int.toNat (↑k : Int)) (@default Shd instInhabitedShd)).plan) = false → ∃ (j : Nat), List.length a - j < List.length a - k ∧ (((b1 = b1 ∧ List.length a = List.length a ∧ contLe (List.length a) (7 : Nat) (cellsOf' encSh a) (cellsOf' encSh a)) ∧ (b2 = b2 ∧ List.length a = List.length a ∧ contLe (List.length a) (7 : Nat) (cellsOf' encSh a) (cellsOf' encSh a)) ∧ IntKind.wrap IntKind.i64 ((↑k : Int) + (1 : Int)) = (↑j : Int) ∧ True) ∧ True ∧ true = true) ∧ true = true ∧ () = ()))))))) ∧ (decide ((↑k : Int) < (↑(List.length a) : Int)) = false → True ∧ True ∧ true = true)
set_option maxRecDepth 1000000 in
theorem vcSsL_eq (b1 : Bool) (b2 : Bool) (a : List Shd) (k : Nat) : (loopVC Tryd.prog (ss2H (a[k]?.getD default)) 24 4 (fun k => a.length - k) (ss2T b1 b2 a) (fun _ => []) [0] (fun _ => .ret ()) ss2S k) = vcSsL b1 b2 a k := by kernel_rfl
noncomputable def ss3H (b1 b2 : Bool) (a : List Shd) : HintsT Tryd.prog := hh _ (lp1 24 4 (jobOf (ss2T b1 b2 a) (fun _ => []) [0] (fun _ => .ret ()) ss2S 0) noLp) noCs noOp
def vcSss (b1 : Bool) (b2 : Bool) (a : List Shd) : Prop :=
  (((↑(List.length a) : Int) != (↑(List.length a) : Int)) = true → false = true ∧ True) ∧ (((↑(List.length a) : Int) != (↑(List.length a) : Int)) = false → (((b1 = b1 ∧ List.length a = List.length a ∧ contLe (List.length a) (7 : Nat) (cellsOf' encSh a) (cellsOf' encSh a)) ∧ (b2 = b2 ∧ List.length a = List.length a ∧ contLe (List.length a) (7 : Nat) (cellsOf' encSh a) (cellsOf' encSh a)) ∧ (0 : Int) = (0 : Int) ∧ True) ∧ True ∧ true = true) ∧ LoopOk Tryd.prog (24 : Nat) (4 : Nat) (loopAt Tryd.prog (24 : Nat) (4 : Nat)) { t := ss2T b1 b2 a (0 : Nat), m := [], mv := [] : St } (T.map (lout [(0 : Nat)] ss2S) ((fun (x : Nat) => T.ret ()) (0 : Nat))) ∧ true = true ∧ True)
set_option maxRecDepth 1000000 in
theorem vcSss_eq (b1 : Bool) (b2 : Bool) (a : List Shd) : (ctrVC Tryd.prog (ss3H b1 b2 a) 24 [encShs b1 a, encShs b2 a] [] (boolR true)) = vcSss b1 b2 a := by kernel_rfl
theorem ss2_loop (b1 b2 : Bool) (a : List Shd) (hl : a.length ≤ 9223372036854775806) (hs : ∀ x ∈ a, ShIn x) (k : Nat) : LoopOk Tryd.prog 24 4 (loopAt Tryd.prog 24 4) ⟨ss2T b1 b2 a k, [], []⟩ (T.map (lout [0] ss2S) (.ret ())) := by
  refine loop_vcH (ht := fun k => ss2H (a[k]?.getD default)) (o := fun _ => .ret ()) Tryd.mixed (fun _ => rfl) (fun k => (vcSsL_eq b1 b2 a k).mpr ?_) k
  unfold vcSsL
  simp
  intro h
  have hx := hs (a[k]'h) (List.getElem_mem h)
  have e : a[k]?.getD default = a[k]'h := by simp [h]
  rw [e]
  simp [h, hx.n, hx.p]
  exact ⟨k + 1, by omega, by rw [wrap_i64 (by omega) (by omega)]; omega⟩
theorem ss2_c (b1 b2 : Bool) (a : List Shd) (hl : a.length ≤ 9223372036854775806) (hs : ∀ x ∈ a, ShIn x) : (boolR true).Sat (ACall' Tryd.prog 24 [encShs b1 a, encShs b2 a] []) := by
  refine ctr_vc (ht := ss3H b1 b2 a) Tryd.mixed rfl ?_
  rw [vcSss_eq b1 b2 a]
  unfold vcSss
  simp [ss2_loop b1 b2 a hl hs 0]
structure ShsIn (a b : List Shd) : Prop where
  l : a.length ≤ 9223372036854775806
  s : ∀ x ∈ a, ShIn x
  e : a = b
noncomputable def ss2C (b1 b2 : Bool) (a b : List Shd) : Ctr Tryd.prog := ⟨24, [encShs b1 a, encShs b2 b], [], .need (ShsIn a b) (boolR true), T.Sat.need fun h => by obtain ⟨h1, h2, rfl⟩ := h; exact ss2_c b1 b2 a h1 h2⟩
/-! replies -/
end Go.Proofs.YtdpbogaldcpfeaaDoor.C

/-! A client is like itself: the conditions. -/
namespace Go.Proofs.YtdpbogaldcpfeaaDoor.C
open Go.Ax
set_option maxRecDepth 1000000
noncomputable def sadH (a : Adm) : HintsT Tryd.prog := hh _ noLp (cs1 57 1 4 (iqC true true a.nodes a.nodes) noCs) noOp
def vcSad (a : Adm) : Prop :=
  ((true = true ∧ List.length a.nodes = List.length a.nodes ∧ contLe (List.length a.nodes) (1 : Nat) (cellsOf' encI a.nodes) (cellsOf' encI a.nodes)) ∧ (true = true ∧ List.length a.nodes = List.length a.nodes ∧ contLe (List.length a.nodes) (1 : Nat) (cellsOf' encI a.nodes) (cellsOf' encI a.nodes)) ∧ True) ∧ True ∧ (List.length a.nodes ≤ (9223372036854775806 : Nat) ∧ a.nodes = a.nodes) ∧ (true = true → ((a.kind == a.kind) = true → ((a.topic.data.toList == a.topic.data.toList) = true → ((a.group == a.group) = true → ((a.other == a.other) = true → ((a.key.data.toList == a.key.data.toList) = true → ((a.fr == a.fr) = true → ((a.to == a.to) = true → ((a.plan == a.plan) = true → ((a.step == a.step) = true → ((a.prod == a.prod) = true → (a.seq == a.seq) = true ∧ True) ∧ ((a.prod == a.prod) = false → false = true ∧ True)) ∧ ((a.step == a.step) = false → false = true ∧ True)) ∧ ((a.plan == a.plan) = false → false = true ∧ True)) ∧ ((a.to == a.to) = false → false = true ∧ True)) ∧ ((a.fr == a.fr) = false → false = true ∧ True)) ∧ ((a.key.data.toList == a.key.data.toList) = false → false = true ∧ True)) ∧ ((a.other == a.other) = false → false = true ∧ True)) ∧ ((a.group == a.group) = false → false = true ∧ True)) ∧ ((a.topic.data.toList == a.topic.data.toList) = false → false = true ∧ True)) ∧ ((a.kind == a.kind) = false → false = true ∧ True)) ∧ (true = false → false = true ∧ True)
set_option maxRecDepth 1000000 in
theorem vcSad_eq (a : Adm) : (ctrVC Tryd.prog (sadH a) 57 [.agg (encAd a), .agg (encAd a)] [] (boolR true)) = vcSad a := by kernel_rfl
theorem sad_c (a : Adm) (h : a.nodes.length ≤ 9223372036854775806) : (boolR true).Sat (ACall' Tryd.prog 57 [.agg (encAd a), .agg (encAd a)] []) := by
  refine ctr_vc (ht := sadH a) Tryd.mixed rfl ?_
  rw [vcSad_eq a]
  unfold vcSad
  simp [h]
noncomputable def sadC (a : Adm) : Ctr Tryd.prog := ⟨57, [.agg (encAd a), .agg (encAd a)], [], .need (a.nodes.length ≤ 9223372036854775806) (boolR true), T.Sat.need fun h => sad_c a h⟩
noncomputable def scaH (c : Cal) : HintsT Tryd.prog := hh _ noLp (cs1 34 1 4 (sadC c.adm) noCs) noOp
def vcSca (c : Cal) : Prop :=
  ((c.adm.kind = c.adm.kind ∧ c.adm.prod = c.adm.prod ∧ c.adm.seq = c.adm.seq ∧ c.adm.topic = c.adm.topic ∧ (true = true ∧ List.length c.adm.nodes = List.length c.adm.nodes ∧ contLe (List.length c.adm.nodes) (1 : Nat) (cellsOf' encI c.adm.nodes) (cellsOf' encI c.adm.nodes)) ∧ c.adm.group = c.adm.group ∧ c.adm.other = c.adm.other ∧ c.adm.key = c.adm.key ∧ c.adm.fr = c.adm.fr ∧ c.adm.to = c.adm.to ∧ c.adm.plan = c.adm.plan ∧ c.adm.step = c.adm.step ∧ True) ∧ (c.adm.kind = c.adm.kind ∧ c.adm.prod = c.adm.prod ∧ c.adm.seq = c.adm.seq ∧ c.adm.topic = c.adm.topic ∧ (true = true ∧ List.length c.adm.nodes = List.length c.adm.nodes ∧ contLe (List.length c.adm.nodes) (1 : Nat) (cellsOf' encI c.adm.nodes) (cellsOf' encI c.adm.nodes)) ∧ c.adm.group = c.adm.group ∧ c.adm.other = c.adm.other ∧ c.adm.key = c.adm.key ∧ c.adm.fr = c.adm.fr ∧ c.adm.to = c.adm.to ∧ c.adm.plan = c.adm.plan ∧ c.adm.step = c.adm.step ∧ True) ∧ True) ∧
    True ∧
      List.length c.adm.nodes ≤ (9223372036854775806 : Nat) ∧
        (true = true →
            ((c.kind == c.kind) = true →
                ((c.topic.data.toList == c.topic.data.toList) = true →
                    ((c.key.data.toList == c.key.data.toList) = true →
                        (∀ (k : Nat), k < List.length c.val → true = true) ∧
                          (∀ (k : Nat), k < List.length c.val → true = true) ∧
                            ((List.map
                                      (fun (a : AV) =>
                                        match
                                          match a with
                                          | AV.s (Value.int IntKind.u8 n) => some n
                                          | AV.y (Value.int IntKind.u8 n) => some n
                                          | x => none with
                                        | some n => UInt8.ofNat (Int.toNat n)
                                        | none => (0 : UInt8))
                                      (List.map (fun (k : Nat) => AV.y (Value.int IntKind.u8 (List.getD c.val k (0 : Int)))) (List.range (List.length c.val))) ==
                                    List.map
                                      (fun (a : AV) =>
                                        match
                                          match a with
                                          | AV.s (Value.int IntKind.u8 n) => some n
                                          | AV.y (Value.int IntKind.u8 n) => some n
                                          | x => none with
                                        | some n => UInt8.ofNat (Int.toNat n)
                                        | none => (0 : UInt8))
                                      (List.map (fun (k : Nat) => AV.y (Value.int IntKind.u8 (List.getD c.val k (0 : Int)))) (List.range (List.length c.val)))) =
                                  true →
                                ((c.off == c.off) = true → ((c.most == c.most) = true → (c.name.data.toList == c.name.data.toList) = true ∧ True) ∧ ((c.most == c.most) = false → false = true ∧ True)) ∧ ((c.off == c.off) = false → false = true ∧ True)) ∧
                              ((List.map
                                      (fun (a : AV) =>
                                        match
                                          match a with
                                          | AV.s (Value.int IntKind.u8 n) => some n
                                          | AV.y (Value.int IntKind.u8 n) => some n
                                          | x => none with
                                        | some n => UInt8.ofNat (Int.toNat n)
                                        | none => (0 : UInt8))
                                      (List.map (fun (k : Nat) => AV.y (Value.int IntKind.u8 (List.getD c.val k (0 : Int)))) (List.range (List.length c.val))) ==
                                    List.map
                                      (fun (a : AV) =>
                                        match
                                          match a with
                                          | AV.s (Value.int IntKind.u8 n) => some n
                                          | AV.y (Value.int IntKind.u8 n) => some n
                                          | x => none with
                                        | some n => UInt8.ofNat (Int.toNat n)
                                        | none => (0 : UInt8))
                                      (List.map (fun (k : Nat) => AV.y (Value.int IntKind.u8 (List.getD c.val k (0 : Int)))) (List.range (List.length c.val)))) =
                                  false →
                                false = true ∧ True)) ∧
                      ((c.key.data.toList == c.key.data.toList) = false → false = true ∧ True)) ∧
                  ((c.topic.data.toList == c.topic.data.toList) = false → false = true ∧ True)) ∧
              ((c.kind == c.kind) = false → false = true ∧ True)) ∧
          (true = false → false = true ∧ True)
set_option maxRecDepth 1000000 in
theorem vcSca_eq (c : Cal) : (ctrVC Tryd.prog (scaH c) 34 [.agg (encCl c), .agg (encCl c)] [] (boolR true)) = vcSca c := by kernel_rfl
theorem sca_c (c : Cal) (h : c.adm.nodes.length ≤ 9223372036854775806) : (boolR true).Sat (ACall' Tryd.prog 34 [.agg (encCl c), .agg (encCl c)] []) := by
  refine ctr_vc (ht := scaH c) Tryd.mixed rfl ?_
  rw [vcSca_eq c]
  unfold vcSca
  have hb : ∀ q : Nat, isU8 (cellsOf' encB c.val q 0) = true := fun _ => rfl
  simp [h, hb]
noncomputable def scaC (c : Cal) : Ctr Tryd.prog := ⟨34, [.agg (encCl c), .agg (encCl c)], [], .need (c.adm.nodes.length ≤ 9223372036854775806) (boolR true), T.Sat.need fun h => sca_c c h⟩
noncomputable def sc1H (c : Cal) : HintsT Tryd.prog := hh _ noLp (cs1 22 1 2 (scaC c) noCs) noOp
def vcSc1 (c : Cal) : Prop :=
  ((c.kind = c.kind ∧ c.topic = c.topic ∧ c.key = c.key ∧ (true = true ∧ List.length c.val = List.length c.val ∧ contLe (List.length c.val) (1 : Nat) (cellsOf' encB c.val) (cellsOf' encB c.val)) ∧ c.off = c.off ∧ c.most = c.most ∧ c.name = c.name ∧ c.adm.kind = c.adm.kind ∧ c.adm.prod = c.adm.prod ∧ c.adm.seq = c.adm.seq ∧ c.adm.topic = c.adm.topic ∧ (true = true ∧ List.length c.adm.nodes = List.length c.adm.nodes ∧ contLe (List.length c.adm.nodes) (1 : Nat) (cellsOf' encI c.adm.nodes) (cellsOf' encI c.adm.nodes)) ∧ c.adm.group = c.adm.group ∧ c.adm.other = c.adm.other ∧ c.adm.key = c.adm.key ∧ c.adm.fr = c.adm.fr ∧ c.adm.to = c.adm.to ∧ c.adm.plan = c.adm.plan ∧ c.adm.step = c.adm.step ∧ True) ∧ (c.kind = c.kind ∧ c.topic = c.topic ∧ c.key = c.key ∧ (true = true ∧ List.length c.val = List.length c.val ∧ contLe (List.length c.val) (1 : Nat) (cellsOf' encB c.val) (cellsOf' encB c.val)) ∧ c.off = c.off ∧ c.most = c.most ∧ c.name = c.name ∧ c.adm.kind = c.adm.kind ∧ c.adm.prod = c.adm.prod ∧ c.adm.seq = c.adm.seq ∧ c.adm.topic = c.adm.topic ∧ (true = true ∧ List.length c.adm.nodes = List.length c.adm.nodes ∧ contLe (List.length c.adm.nodes) (1 : Nat) (cellsOf' encI c.adm.nodes) (cellsOf' encI c.adm.nodes)) ∧ c.adm.group = c.adm.group ∧ c.adm.other = c.adm.other ∧ c.adm.key = c.adm.key ∧ c.adm.fr = c.adm.fr ∧ c.adm.to = c.adm.to ∧ c.adm.plan = c.adm.plan ∧ c.adm.step = c.adm.step ∧ True) ∧ True) ∧ True ∧ List.length c.adm.nodes ≤ (9223372036854775806 : Nat) ∧ true = true ∧ True
set_option maxRecDepth 1000000 in
theorem vcSc1_eq (c : Cal) : (ctrVC Tryd.prog (sc1H c) 22 [.agg (encCl c), .agg (encCl c)] [] (boolR true)) = vcSc1 c := by kernel_rfl
theorem sc1_c (c : Cal) (h : c.adm.nodes.length ≤ 9223372036854775806) : (boolR true).Sat (ACall' Tryd.prog 22 [.agg (encCl c), .agg (encCl c)] []) := by
  refine ctr_vc (ht := sc1H c) Tryd.mixed rfl ?_
  rw [vcSc1_eq c]
  unfold vcSc1
  simp [h]
noncomputable def sc1C (c : Cal) : Ctr Tryd.prog := ⟨22, [.agg (encCl c), .agg (encCl c)], [], .need (c.adm.nodes.length ≤ 9223372036854775806) (boolR true), T.Sat.need fun h => sc1_c c h⟩
/-! the client -/
def smT (k : Nat) : List AV := mkT 174 [(2, .ptr 0 0 0 0), (3, .ptr 1 0 0 0), (7, .y (.int .i64 k))]
def smM (b1 b2 : Bool) (c : Clt) : List Blk := [.box 35 (encC0 b1 c), .box 35 (encC0 b2 c)]
def smS (b1 b2 : Bool) (c : Clt) (_ : Unit) : Exit × List AV × List Blk := (.exit 0, mkT 174 [(2, .ptr 0 0 0 0), (3, .ptr 1 0 0 0)], smM b1 b2 c)
noncomputable def smLH (t : Tpc) : HintsT Tryd.prog := hh _ noLp (cs1 11 8 12 (ss2C true true t.shards t.shards) noCs) noOp
def vcSmL_q1 (b1 : Bool) (b2 : Bool) (c : Clt) : Prop := ((c.id = c.id ∧ (true = true ∧ List.length c.servers = List.length c.servers ∧ contLe (List.length c.servers) (1 : Nat) (cellsOf' encI c.servers) (cellsOf' encI c.servers)) ∧ c.prod = c.prod ∧ c.seq = c.seq ∧ (b1 = b1 ∧ List.length c.topics = List.length c.topics ∧ contLe (List.length c.topics) (2 : Nat) (cellsOf' encTp c.topics) (cellsOf' encTp c.topics)) ∧ (b1 = b1 ∧ List.length c.leaders = List.length c.leaders ∧ contLe (List.length c.leaders) (2 : Nat) (cellsOf' encSi c.leaders) (cellsOf' encSi c.leaders)) ∧ c.busy = c.busy ∧ c.call.kind = c.call.kind ∧ c.call.topic = c.call.topic ∧ c.call.key = c.call.key ∧ (true = true ∧ List.length c.call.val = List.length c.call.val ∧ contLe (List.length c.call.val) (1 : Nat) (cellsOf' encB c.call.val) (cellsOf' encB c.call.val)) ∧ c.call.off = c.call.off ∧ c.call.most = c.call.most ∧ c.call.name = c.call.name ∧ c.call.adm.kind = c.call.adm.kind ∧ c.call.adm.prod = c.call.adm.prod ∧ c.call.adm.seq = c.call.adm.seq ∧ c.call.adm.topic = c.call.adm.topic ∧ (true = true ∧ List.length c.call.adm.nodes = List.length c.call.adm.nodes ∧ contLe (List.length c.call.adm.nodes) (1 : Nat) (cellsOf' encI c.call.adm.nodes) (cellsOf' encI c.call.adm.nodes)) ∧ c.call.adm.group = c.call.adm.group ∧ c.call.adm.other = c.call.adm.other ∧ c.call.adm.key = c.call.adm.key ∧ c.call.adm.fr = c.call.adm.fr ∧ c.call.adm.to = c.call.adm.to ∧ c.call.adm.plan = c.call.adm.plan ∧ c.call.adm.step = c.call.adm.step ∧ c.number = c.number ∧ c.route = c.route ∧ c.group = c.group ∧ c.tries = c.tries ∧ c.waited = c.waited ∧ c.again = c.again ∧ c.at' = c.at' ∧ True) ∧ (c.id = c.id ∧ (true = true ∧ List.length c.servers = List.length c.servers ∧ contLe (List.length c.servers) (1 : Nat) (cellsOf' encI c.servers) (cellsOf' encI c.servers)) ∧ c.prod = c.prod ∧ c.seq = c.seq ∧ (b2 = b2 ∧ List.length c.topics = List.length c.topics ∧ contLe (List.length c.topics) (2 : Nat) (cellsOf' encTp c.topics) (cellsOf' encTp c.topics)) ∧ (b2 = b2 ∧ List.length c.leaders = List.length c.leaders ∧ contLe (List.length c.leaders) (2 : Nat) (cellsOf' encSi c.leaders) (cellsOf' encSi c.leaders)) ∧ c.busy = c.busy ∧ c.call.kind = c.call.kind ∧ c.call.topic = c.call.topic ∧ c.call.key = c.call.key ∧ (true = true ∧ List.length c.call.val = List.length c.call.val ∧ contLe (List.length c.call.val) (1 : Nat) (cellsOf' encB c.call.val) (cellsOf' encB c.call.val)) ∧ c.call.off = c.call.off ∧ c.call.most = c.call.most ∧ c.call.name = c.call.name ∧ c.call.adm.kind = c.call.adm.kind ∧ c.call.adm.prod = c.call.adm.prod ∧ c.call.adm.seq = c.call.adm.seq ∧ c.call.adm.topic = c.call.adm.topic ∧ (true = true ∧ List.length c.call.adm.nodes = List.length c.call.adm.nodes ∧ contLe (List.length c.call.adm.nodes) (1 : Nat) (cellsOf' encI c.call.adm.nodes) (cellsOf' encI c.call.adm.nodes)) ∧ c.call.adm.group = c.call.adm.group ∧ c.call.adm.other = c.call.adm.other ∧ c.call.adm.key = c.call.adm.key ∧ c.call.adm.fr = c.call.adm.fr ∧ c.call.adm.to = c.call.adm.to ∧ c.call.adm.plan = c.call.adm.plan ∧ c.call.adm.step = c.call.adm.step ∧ c.number = c.number ∧ c.route = c.route ∧ c.group = c.group ∧ c.tries = c.tries ∧ c.waited = c.waited ∧ c.again = c.again ∧ c.at' = c.at' ∧ True) ∧ True)
def vcSmL_q2 (c : Clt) (k : Nat) : Prop := (true = true ∧ List.length (List.getD c.topics (Int.toNat (↑k : Int)) (@default Tpc instInhabitedTpc)).shards = List.length (List.getD c.topics k (@default Tpc instInhabitedTpc)).shards ∧ contLe (List.length (List.getD c.topics (Int.toNat (↑k : Int)) (@default Tpc instInhabitedTpc)).shards) (7 : Nat) (cellsOf' encSh (List.getD c.topics (Int.toNat (↑k : Int)) (@default Tpc instInhabitedTpc)).shards) (cellsOf' encSh (List.getD c.topics k (@default Tpc instInhabitedTpc)).shards))
def vcSmL (b1 : Bool) (b2 : Bool) (c : Clt) (k : Nat) : Prop :=
  (decide ((↑k : Int) < (↑(List.length c.topics) : Int)) = true → (true && decide ((↑k : Int) < (↑(List.length c.topics) : Int))) = true ∧ (true && decide ((↑k : Int) < (↑(List.length c.topics) : Int))) = true ∧ ((vcSmL_q2 c k) ∧ (vcSmL_q2 c k) ∧ True) ∧ True ∧ ShsIn (List.getD c.topics k (@default Tpc instInhabitedTpc)).shards (List.getD c.topics k (@default Tpc instInhabitedTpc)).shards ∧ (false = true → False) ∧ (false = false → (true && decide ((↑k : Int) < (↑(List.length c.topics) : Int))) = true ∧ (true && decide ((↑k : Int) < (↑(List.length c.topics) : Int))) = true ∧ ((!(List.getD c.topics (Int.toNat (↑k : Int)) (@default Tpc instInhabitedTpc)).name.data.toList == (List.getD c.topics (Int.toNat (↑k : Int)) (@default Tpc instInhabitedTpc)).name.data.toList) = true → False) ∧ ((!(List.getD c.topics (Int.toNat (↑k : Int)) (@default Tpc instInhabitedTpc)).name.data.toList == (List.getD c.topics (Int.toNat (↑k : Int)) (@default Tpc instInhabitedTpc)).name.data.toList) = false → ∃ (j : Nat), List.length c.topics - j < List.length c.topics - k ∧ ((((0 : Nat) = (0 : Nat) ∧ (0 : Nat) = (0 : Nat)) ∧ ((0 : Nat) = (0 : Nat) ∧ (0 : Nat) = (0 : Nat)) ∧ IntKind.wrap IntKind.i64 ((↑k : Int) + (1 : Int)) = (↑j : Int) ∧ True) ∧ (vcSmL_q1 b1 b2 c) ∧ true = true) ∧ true = true ∧ () = ()))) ∧ (decide ((↑k : Int) < (↑(List.length c.topics) : Int)) = false → (((0 : Nat) = (0 : Nat) ∧ (0 : Nat) = (0 : Nat)) ∧ ((0 : Nat) = (0 : Nat) ∧ (0 : Nat) = (0 : Nat)) ∧ True) ∧ (vcSmL_q1 b1 b2 c) ∧ true = true)
set_option maxRecDepth 1000000 in
theorem vcSmL_eq (b1 : Bool) (b2 : Bool) (c : Clt) (k : Nat) : (loopVC Tryd.prog (smLH (c.topics.getD k default)) 11 6 (fun k => c.topics.length - k) smT (fun _ => smM b1 b2 c) [] (fun _ => .ret ()) (smS b1 b2 c) k) = vcSmL b1 b2 c k := by kernel_rfl
def smT2 (k : Nat) : List AV := mkT 174 [(2, .ptr 0 0 0 0), (3, .ptr 1 0 0 0), (9, .y (.int .i64 k))]
def smS2 (b1 b2 : Bool) (c : Clt) (_ : Unit) : Exit × List AV × List Blk := (.exit 2, mkT 174 [(2, .ptr 0 0 0 0), (3, .ptr 1 0 0 0)], smM b1 b2 c)
def vcSmL2_q1 (b1 : Bool) (b2 : Bool) (c : Clt) : Prop := ((c.id = c.id ∧ (true = true ∧ List.length c.servers = List.length c.servers ∧ contLe (List.length c.servers) (1 : Nat) (cellsOf' encI c.servers) (cellsOf' encI c.servers)) ∧ c.prod = c.prod ∧ c.seq = c.seq ∧ (b1 = b1 ∧ List.length c.topics = List.length c.topics ∧ contLe (List.length c.topics) (2 : Nat) (cellsOf' encTp c.topics) (cellsOf' encTp c.topics)) ∧ (b1 = b1 ∧ List.length c.leaders = List.length c.leaders ∧ contLe (List.length c.leaders) (2 : Nat) (cellsOf' encSi c.leaders) (cellsOf' encSi c.leaders)) ∧ c.busy = c.busy ∧ c.call.kind = c.call.kind ∧ c.call.topic = c.call.topic ∧ c.call.key = c.call.key ∧ (true = true ∧ List.length c.call.val = List.length c.call.val ∧ contLe (List.length c.call.val) (1 : Nat) (cellsOf' encB c.call.val) (cellsOf' encB c.call.val)) ∧ c.call.off = c.call.off ∧ c.call.most = c.call.most ∧ c.call.name = c.call.name ∧ c.call.adm.kind = c.call.adm.kind ∧ c.call.adm.prod = c.call.adm.prod ∧ c.call.adm.seq = c.call.adm.seq ∧ c.call.adm.topic = c.call.adm.topic ∧ (true = true ∧ List.length c.call.adm.nodes = List.length c.call.adm.nodes ∧ contLe (List.length c.call.adm.nodes) (1 : Nat) (cellsOf' encI c.call.adm.nodes) (cellsOf' encI c.call.adm.nodes)) ∧ c.call.adm.group = c.call.adm.group ∧ c.call.adm.other = c.call.adm.other ∧ c.call.adm.key = c.call.adm.key ∧ c.call.adm.fr = c.call.adm.fr ∧ c.call.adm.to = c.call.adm.to ∧ c.call.adm.plan = c.call.adm.plan ∧ c.call.adm.step = c.call.adm.step ∧ c.number = c.number ∧ c.route = c.route ∧ c.group = c.group ∧ c.tries = c.tries ∧ c.waited = c.waited ∧ c.again = c.again ∧ c.at' = c.at' ∧ True) ∧ (c.id = c.id ∧ (true = true ∧ List.length c.servers = List.length c.servers ∧ contLe (List.length c.servers) (1 : Nat) (cellsOf' encI c.servers) (cellsOf' encI c.servers)) ∧ c.prod = c.prod ∧ c.seq = c.seq ∧ (b2 = b2 ∧ List.length c.topics = List.length c.topics ∧ contLe (List.length c.topics) (2 : Nat) (cellsOf' encTp c.topics) (cellsOf' encTp c.topics)) ∧ (b2 = b2 ∧ List.length c.leaders = List.length c.leaders ∧ contLe (List.length c.leaders) (2 : Nat) (cellsOf' encSi c.leaders) (cellsOf' encSi c.leaders)) ∧ c.busy = c.busy ∧ c.call.kind = c.call.kind ∧ c.call.topic = c.call.topic ∧ c.call.key = c.call.key ∧ (true = true ∧ List.length c.call.val = List.length c.call.val ∧ contLe (List.length c.call.val) (1 : Nat) (cellsOf' encB c.call.val) (cellsOf' encB c.call.val)) ∧ c.call.off = c.call.off ∧ c.call.most = c.call.most ∧ c.call.name = c.call.name ∧ c.call.adm.kind = c.call.adm.kind ∧ c.call.adm.prod = c.call.adm.prod ∧ c.call.adm.seq = c.call.adm.seq ∧ c.call.adm.topic = c.call.adm.topic ∧ (true = true ∧ List.length c.call.adm.nodes = List.length c.call.adm.nodes ∧ contLe (List.length c.call.adm.nodes) (1 : Nat) (cellsOf' encI c.call.adm.nodes) (cellsOf' encI c.call.adm.nodes)) ∧ c.call.adm.group = c.call.adm.group ∧ c.call.adm.other = c.call.adm.other ∧ c.call.adm.key = c.call.adm.key ∧ c.call.adm.fr = c.call.adm.fr ∧ c.call.adm.to = c.call.adm.to ∧ c.call.adm.plan = c.call.adm.plan ∧ c.call.adm.step = c.call.adm.step ∧ c.number = c.number ∧ c.route = c.route ∧ c.group = c.group ∧ c.tries = c.tries ∧ c.waited = c.waited ∧ c.again = c.again ∧ c.at' = c.at' ∧ True) ∧ True)
def vcSmL2 (b1 : Bool) (b2 : Bool) (c : Clt) (k : Nat) : Prop :=
  (decide ((↑k : Int) < (↑(List.length c.leaders) : Int)) = true → (true && decide ((↑k : Int) < (↑(List.length c.leaders) : Int))) = true ∧ (true && decide ((↑k : Int) < (↑(List.length c.leaders) : Int))) = true ∧ ((!((List.getD c.leaders (Int.toNat (↑k : Int)) (@default Sit instInhabitedSit)).group == (List.getD c.leaders (Int.toNat (↑k : Int)) (@default Sit instInhabitedSit)).group && ((List.getD c.leaders (Int.toNat (↑k : Int)) (@default Sit instInhabitedSit)).node == (List.getD c.leaders (Int.toNat (↑k : Int)) (@default Sit instInhabitedSit)).node && true))) = true → False) ∧ ((!((List.getD c.leaders (Int.toNat (↑k : Int)) (@default Sit instInhabitedSit)).group == (List.getD c.leaders (Int.toNat (↑k : Int)) (@default Sit instInhabitedSit)).group && ((List.getD c.leaders (Int.toNat (↑k : Int)) (@default Sit instInhabitedSit)).node == (List.getD c.leaders (Int.toNat (↑k : Int)) (@default Sit instInhabitedSit)).node && true))) = false → ∃ (j : Nat), List.length c.leaders - j < List.length c.leaders - k ∧ ((((0 : Nat) = (0 : Nat) ∧ (0 : Nat) = (0 : Nat)) ∧ ((0 : Nat) = (0 : Nat) ∧ (0 : Nat) = (0 : Nat)) ∧ IntKind.wrap IntKind.i64 ((↑k : Int) + (1 : Int)) = (↑j : Int) ∧ True) ∧ (vcSmL2_q1 b1 b2 c) ∧ true = true) ∧ true = true ∧ () = ())) ∧ (decide ((↑k : Int) < (↑(List.length c.leaders) : Int)) = false → (((0 : Nat) = (0 : Nat) ∧ (0 : Nat) = (0 : Nat)) ∧ ((0 : Nat) = (0 : Nat) ∧ (0 : Nat) = (0 : Nat)) ∧ True) ∧ (vcSmL2_q1 b1 b2 c) ∧ true = true)
set_option maxRecDepth 1000000 in
theorem vcSmL2_eq (b1 : Bool) (b2 : Bool) (c : Clt) (k : Nat) : (loopVC Tryd.prog (hT _) 11 12 (fun k => c.leaders.length - k) smT2 (fun _ => smM b1 b2 c) [] (fun _ => .ret ()) (smS2 b1 b2 c) k) = vcSmL2 b1 b2 c k := by kernel_rfl
noncomputable def smH (b1 b2 : Bool) (c : Clt) : HintsT Tryd.prog := hh _ (lp1 11 6 (jobOf smT (fun _ => smM b1 b2 c) [] (fun _ => .ret ()) (smS b1 b2 c) 0) (lp1 11 12 (jobOf smT2 (fun _ => smM b1 b2 c) [] (fun _ => .ret ()) (smS2 b1 b2 c) 0) noLp)) (cs1 11 1 4 (sc1C c.call) (cs1 11 2 4 (iqC true true c.servers c.servers) noCs)) noOp
def vcSm_q3 (c : Clt) : Prop := (true = true ∧ List.length c.servers = List.length c.servers ∧ contLe (List.length c.servers) (1 : Nat) (cellsOf' encI c.servers) (cellsOf' encI c.servers))
def vcSm_q4 (c : Clt) : Prop := (true = true ∧ List.length c.call.adm.nodes = List.length c.call.adm.nodes ∧ contLe (List.length c.call.adm.nodes) (1 : Nat) (cellsOf' encI c.call.adm.nodes) (cellsOf' encI c.call.adm.nodes))
def vcSm_q1 (b1 : Bool) (b2 : Bool) (c : Clt) : Prop := ((((0 : Nat) = (0 : Nat) ∧ (0 : Nat) = (0 : Nat)) ∧ ((0 : Nat) = (0 : Nat) ∧ (0 : Nat) = (0 : Nat)) ∧ (0 : Int) = (0 : Int) ∧ True) ∧ ((c.id = c.id ∧ (vcSm_q3 c) ∧ c.prod = c.prod ∧ c.seq = c.seq ∧ (b1 = b1 ∧ List.length c.topics = List.length c.topics ∧ contLe (List.length c.topics) (2 : Nat) (cellsOf' encTp c.topics) (cellsOf' encTp c.topics)) ∧ (b1 = b1 ∧ List.length c.leaders = List.length c.leaders ∧ contLe (List.length c.leaders) (2 : Nat) (cellsOf' encSi c.leaders) (cellsOf' encSi c.leaders)) ∧ c.busy = c.busy ∧ c.call.kind = c.call.kind ∧ c.call.topic = c.call.topic ∧ c.call.key = c.call.key ∧ (true = true ∧ List.length c.call.val = List.length c.call.val ∧ contLe (List.length c.call.val) (1 : Nat) (cellsOf' encB c.call.val) (cellsOf' encB c.call.val)) ∧ c.call.off = c.call.off ∧ c.call.most = c.call.most ∧ c.call.name = c.call.name ∧ c.call.adm.kind = c.call.adm.kind ∧ c.call.adm.prod = c.call.adm.prod ∧ c.call.adm.seq = c.call.adm.seq ∧ c.call.adm.topic = c.call.adm.topic ∧ (vcSm_q4 c) ∧ c.call.adm.group = c.call.adm.group ∧ c.call.adm.other = c.call.adm.other ∧ c.call.adm.key = c.call.adm.key ∧ c.call.adm.fr = c.call.adm.fr ∧ c.call.adm.to = c.call.adm.to ∧ c.call.adm.plan = c.call.adm.plan ∧ c.call.adm.step = c.call.adm.step ∧ c.number = c.number ∧ c.route = c.route ∧ c.group = c.group ∧ c.tries = c.tries ∧ c.waited = c.waited ∧ c.again = c.again ∧ c.at' = c.at' ∧ True) ∧ (c.id = c.id ∧ (vcSm_q3 c) ∧ c.prod = c.prod ∧ c.seq = c.seq ∧ (b2 = b2 ∧ List.length c.topics = List.length c.topics ∧ contLe (List.length c.topics) (2 : Nat) (cellsOf' encTp c.topics) (cellsOf' encTp c.topics)) ∧ (b2 = b2 ∧ List.length c.leaders = List.length c.leaders ∧ contLe (List.length c.leaders) (2 : Nat) (cellsOf' encSi c.leaders) (cellsOf' encSi c.leaders)) ∧ c.busy = c.busy ∧ c.call.kind = c.call.kind ∧ c.call.topic = c.call.topic ∧ c.call.key = c.call.key ∧ (true = true ∧ List.length c.call.val = List.length c.call.val ∧ contLe (List.length c.call.val) (1 : Nat) (cellsOf' encB c.call.val) (cellsOf' encB c.call.val)) ∧ c.call.off = c.call.off ∧ c.call.most = c.call.most ∧ c.call.name = c.call.name ∧ c.call.adm.kind = c.call.adm.kind ∧ c.call.adm.prod = c.call.adm.prod ∧ c.call.adm.seq = c.call.adm.seq ∧ c.call.adm.topic = c.call.adm.topic ∧ (vcSm_q4 c) ∧ c.call.adm.group = c.call.adm.group ∧ c.call.adm.other = c.call.adm.other ∧ c.call.adm.key = c.call.adm.key ∧ c.call.adm.fr = c.call.adm.fr ∧ c.call.adm.to = c.call.adm.to ∧ c.call.adm.plan = c.call.adm.plan ∧ c.call.adm.step = c.call.adm.step ∧ c.number = c.number ∧ c.route = c.route ∧ c.group = c.group ∧ c.tries = c.tries ∧ c.waited = c.waited ∧ c.again = c.again ∧ c.at' = c.at' ∧ True) ∧ True) ∧ true = true)
def vcSm_q2 (c : Clt) : Prop := (c.call.kind = c.call.kind ∧ c.call.topic = c.call.topic ∧ c.call.key = c.call.key ∧ (true = true ∧ List.length c.call.val = List.length c.call.val ∧ contLe (List.length c.call.val) (1 : Nat) (cellsOf' encB c.call.val) (cellsOf' encB c.call.val)) ∧ c.call.off = c.call.off ∧ c.call.most = c.call.most ∧ c.call.name = c.call.name ∧ c.call.adm.kind = c.call.adm.kind ∧ c.call.adm.prod = c.call.adm.prod ∧ c.call.adm.seq = c.call.adm.seq ∧ c.call.adm.topic = c.call.adm.topic ∧ (vcSm_q4 c) ∧ c.call.adm.group = c.call.adm.group ∧ c.call.adm.other = c.call.adm.other ∧ c.call.adm.key = c.call.adm.key ∧ c.call.adm.fr = c.call.adm.fr ∧ c.call.adm.to = c.call.adm.to ∧ c.call.adm.plan = c.call.adm.plan ∧ c.call.adm.step = c.call.adm.step ∧ True)
def vcSm (b1 : Bool) (b2 : Bool) (c : Clt) : Prop :=
  ((vcSm_q2 c) ∧ (vcSm_q2 c) ∧ True) ∧ True ∧ List.length c.call.adm.nodes ≤ (9223372036854775806 : Nat) ∧ ((vcSm_q3 c) ∧ (vcSm_q3 c) ∧ True) ∧ True ∧ (List.length c.servers ≤ (9223372036854775806 : Nat) ∧ c.servers = c.servers) ∧ (false = true → false = true ∧ True) ∧ (false = false → (false = true → false = true ∧ True) ∧ (false = false → (((↑(List.length c.topics) : Int) != (↑(List.length c.topics) : Int)) = true → false = true ∧ True) ∧ (((↑(List.length c.topics) : Int) != (↑(List.length c.topics) : Int)) = false → (((↑(List.length c.leaders) : Int) != (↑(List.length c.leaders) : Int)) = true → false = true ∧ True) ∧ (((↑(List.length c.leaders) : Int) != (↑(List.length c.leaders) : Int)) = false → (vcSm_q1 b1 b2 c) ∧ LoopOk Tryd.prog (11 : Nat) (6 : Nat) (loopAt Tryd.prog (11 : Nat) (6 : Nat)) { t := smT (0 : Nat), m := smM b1 b2 c, mv := [] : St } (T.map (lout [] (smS b1 b2 c)) ((fun (x : Nat) => T.ret ()) (0 : Nat))) ∧ (vcSm_q1 b1 b2 c) ∧ LoopOk Tryd.prog (11 : Nat) (12 : Nat) (loopAt Tryd.prog (11 : Nat) (12 : Nat)) { t := smT2 (0 : Nat), m := smM b1 b2 c, mv := [] : St } (T.map (lout [] (smS2 b1 b2 c)) ((fun (x : Nat) => T.ret ()) (0 : Nat))) ∧ ((c.id == c.id) = true → ((c.prod == c.prod) = true → ((c.seq == c.seq) = true → ((c.busy == c.busy) = true → ((c.number == c.number) = true → ((c.route == c.route) = true → ((c.group == c.group) = true → ((c.tries == c.tries) = true → ((c.waited == c.waited) = true → ((c.again == c.again) = true → (c.at' == c.at') = true ∧ True) ∧ ((c.again == c.again) = false → false = true ∧ True)) ∧ ((c.waited == c.waited) = false → false = true ∧ True)) ∧ ((c.tries == c.tries) = false → false = true ∧ True)) ∧ ((c.group == c.group) = false → false = true ∧ True)) ∧ ((c.route == c.route) = false → false = true ∧ True)) ∧ ((c.number == c.number) = false → false = true ∧ True)) ∧ ((c.busy == c.busy) = false → false = true ∧ True)) ∧ ((c.seq == c.seq) = false → false = true ∧ True)) ∧ ((c.prod == c.prod) = false → false = true ∧ True)) ∧ ((c.id == c.id) = false → false = true ∧ True)))))
set_option maxRecDepth 1000000 in
theorem vcSm_eq (b1 : Bool) (b2 : Bool) (c : Clt) : (ctrVC Tryd.prog (smH b1 b2 c) 11 [.agg (encC0 b1 c), .agg (encC0 b2 c)] [] (boolR true)) = vcSm b1 b2 c := by kernel_rfl
structure CltIn (c : Clt) : Prop where
  a : c.call.adm.nodes.length ≤ 9223372036854775806
  s : c.servers.length ≤ 9223372036854775806
  t : c.topics.length ≤ 9223372036854775806
  l : c.leaders.length ≤ 9223372036854775806
  h : ∀ x ∈ c.topics, ShsIn x.shards x.shards
theorem sm_loop (b1 b2 : Bool) (c : Clt) (h : CltIn c) (k : Nat) : LoopOk Tryd.prog 11 6 (loopAt Tryd.prog 11 6) ⟨smT k, smM b1 b2 c, []⟩ (T.map (lout [] (smS b1 b2 c)) (.ret ())) := by
  refine loop_vcH (P := Tryd.prog) (f := 11) (k := 6) (ι := Nat) (μ := fun k => c.topics.length - k) (ht := fun k => smLH (c.topics.getD k default)) (stT := smT) (stM := fun _ => smM b1 b2 c) (X := []) (o := fun _ => .ret ()) (S := smS b1 b2 c) Tryd.mixed (fun _ => rfl) (fun k => ?_) k
  rw [vcSmL_eq b1 b2 c k]
  unfold vcSmL vcSmL_q2 vcSmL_q1
  have hl := h.t
  by_cases hk : k < c.topics.length
  · have hz : decide ((k : Int) < c.topics.length) = true := by simp; omega
    have hw : IntKind.i64.wrap ((k : Int) + 1) = ((k + 1 : Nat) : Int) := by rw [wrap_i64 (by omega) (by omega)]; omega
    have h1 := h.h (c.topics.getD k default) (by simp [hk])
    rw [Int.toNat_natCast]
    simp only [hz, hw]
    generalize c.topics.getD k default = t at *
    simp [h1, hk]
    exact ⟨k + 1, by omega, by omega⟩
  · have hz : decide ((k : Int) < c.topics.length) = false := by simp; omega
    simp only [hz]
    simp
theorem sm_loop2 (b1 b2 : Bool) (c : Clt) (h : CltIn c) (k : Nat) : LoopOk Tryd.prog 11 12 (loopAt Tryd.prog 11 12) ⟨smT2 k, smM b1 b2 c, []⟩ (T.map (lout [] (smS2 b1 b2 c)) (.ret ())) := by
  refine loop_vcH (P := Tryd.prog) (f := 11) (k := 12) (ι := Nat) (μ := fun k => c.leaders.length - k) (ht := fun _ => hT _) (stT := smT2) (stM := fun _ => smM b1 b2 c) (X := []) (o := fun _ => .ret ()) (S := smS2 b1 b2 c) Tryd.mixed (fun _ => rfl) (fun k => ?_) k
  rw [vcSmL2_eq b1 b2 c k]
  unfold vcSmL2 vcSmL2_q1
  have hl := h.l
  by_cases hk : k < c.leaders.length
  · have hz : decide ((k : Int) < c.leaders.length) = true := by simp; omega
    have hw : IntKind.i64.wrap ((k : Int) + 1) = ((k + 1 : Nat) : Int) := by rw [wrap_i64 (by omega) (by omega)]; omega
    rw [Int.toNat_natCast]
    simp only [hz, hw]
    generalize c.leaders.getD k default = t at *
    simp [hk]
    exact ⟨k + 1, by omega, by omega⟩
  · have hz : decide ((k : Int) < c.leaders.length) = false := by simp; omega
    simp only [hz]
    simp
theorem sm_c (b1 b2 : Bool) (c : Clt) (h : CltIn c) : (boolR true).Sat (ACall' Tryd.prog 11 [.agg (encC0 b1 c), .agg (encC0 b2 c)] []) := by
  refine ctr_vc (ht := smH b1 b2 c) Tryd.mixed rfl ?_
  rw [vcSm_eq b1 b2 c]
  unfold vcSm vcSm_q2 vcSm_q1 vcSm_q4 vcSm_q3
  have l1 := sm_loop b1 b2 c h 0
  have l2 := sm_loop2 b1 b2 c h 0
  simp [h.a, h.s, l1, l2]
structure SmeQ (a c : Clt) : Prop where
  i : CltIn c
  e : a = c
noncomputable def smC (b1 b2 : Bool) (a c : Clt) : Ctr Tryd.prog := ⟨11, [.agg (encC0 b1 a), .agg (encC0 b2 c)], [], .need (SmeQ a c) (boolR true), T.Sat.need fun h => by obtain ⟨h1, rfl⟩ := h; exact sm_c b1 b2 a h1⟩
end Go.Proofs.YtdpbogaldcpfeaaDoor.C
