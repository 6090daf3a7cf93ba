import Derived.Test.YtdpbogaldcpfeaaDoorRows
import Derived.Test.YtdpbogaldcpfeaaDoorTie
import Derived.Test.YtdpbogaldcpfeaaDoorCards
import Derived.OpenShut
import Derived.Lay
import Derived.Handed
import Derived.SevenTiedAt
import Derived.Test.YtdpbogaldcpfeaaDoorE10
import Derived.Test.YtdpbogaldcpfeaaDoorW5
import Derived.Test.YtdpbogaldcpfeaaDoorW6
set_option linter.unusedVariables false
set_option linter.unusedSimpArgs false
set_option linter.unusedSectionVars false
/-! A client's New. -/
namespace Go.Proofs.YtdpbogaldcpfeaaDoor.C
open Go.Ax
set_option maxRecDepth 1000000
def newB (id : Int) (l : List Int) (p : Int) : Bool := !(decide (id < 1)) && (!(decide (7 < id)) && (!(l.length == 0) && (!(p == 0) && (!(nwAny id (srt l)) && (Lib.compact (srt l)).length == l.length))))
def newK (id : Int) (l : List Int) (p : Int) : Clt := if newB id l p = true then newQ id l p else default
def newE (id : Int) (l : List Int) (p : Int) : Int := if newB id l p = true then 0 else 1
structure NewQ (id : Int) (l : List Int) (p : Int) (c : Clt) (e : Int) : Prop where
  c : c = newK id l p
  e : e = newE id l p
  n : l.length * 8 ≤ 140737488355328
theorem nwg_c (id : Int) (b : Bool) (l : List Int) (p : Int) (c : Clt) (e : Int) (h : NewQ id l p c e) : (nwgR c e).Sat (ACall' Tryd.prog 9 [.y (.int .i64 id), encIs b l, .y (.int .u64 p)] []) := by
  refine ctr_vc (ht := nwgH id b l (srt l) (Lib.compact (srt l))) Tryd.mixed rfl ?_
  rw [vcNwg_eq id b l (srt l) (Lib.compact (srt l)) p c e]
  unfold vcNwg vcNwg_q1
  obtain ⟨hc, he, hn⟩ := h
  have hsl := srt_len l
  have q1 : SrtQ l (srt l) := ⟨rfl, by omega⟩
  have q00 : SrtQ [] (srt []) := ⟨rfl, by decide⟩
  have eb : ({ data := #[] } : ByteArray) = ByteArray.empty := rfl
  have ok0 : newB id l p = false → c = default ∧ e = 1 := fun h => ⟨by rw [hc]; unfold newK; simp [h], by rw [he]; unfold newE; simp [h]⟩
  have ok1 : newB id l p = true → c = newQ id l p ∧ e = 0 := fun h => ⟨by rw [hc]; unfold newK; simp [h], by rw [he]; unfold newE; simp [h]⟩
  by_cases h1 : id < 1
  · obtain ⟨rfl, rfl⟩ := ok0 (by unfold newB; simp [h1])
    simp [hn, q1, h1]
    repeat' apply And.intro
    all_goals rfl
  · by_cases h2 : 7 < id
    · obtain ⟨rfl, rfl⟩ := ok0 (by unfold newB; simp [h2])
      simp [hn, q1, h1, h2]
      repeat' apply And.intro
      all_goals rfl
    · by_cases h3 : l.length = 0
      · obtain ⟨rfl, rfl⟩ := ok0 (by unfold newB; simp [h3])
        have h3' : l = [] := List.eq_nil_of_length_eq_zero h3
        simp [hn, q1, h1, h2, h3']
        repeat' apply And.intro
        all_goals first | rfl | exact contLe_refl _ _ _ | exact q00 | omega
      · have q2 : CmpQ (srt l) (Lib.compact (srt l)) := ⟨rfl, by omega, by omega⟩
        have h3' : ¬ l = [] := fun e => h3 (by rw [e]; rfl)
        by_cases h4 : p = 0
        · obtain ⟨rfl, rfl⟩ := ok0 (by unfold newB; simp [h4])
          simp [hn, q1, h1, h2, h3', h4]
          repeat' apply And.intro
          all_goals first | rfl | exact contLe_refl _ _ _ | exact q00 | omega
        · generalize hs : srt l = s at *
          cases h5 : nwAny id s
          · by_cases h6 : (Lib.compact s).length = l.length
            · obtain ⟨rfl, rfl⟩ := ok1 (by unfold newB; simp [h1, h2, h3, h4, hs, h5, h6])
              simp [hn, q1, q2, h1, h2, h3', h4, h5, h6, hsl]
              repeat' apply And.intro
              all_goals first | rfl | exact contLe_refl _ _ _ | exact q00 | omega
            · obtain ⟨rfl, rfl⟩ := ok0 (by unfold newB; simp [hs, h6])
              simp [hn, q1, q2, h1, h2, h3', h4, h5, h6, hsl]
              refine ⟨by omega, fun hh => ?_, fun hh => ?_⟩
              · first | (repeat' apply And.intro) <;> first | rfl | exact contLe_refl _ _ _ | omega
              · first | exact absurd hh (by omega) | (repeat' apply And.intro) <;> first | rfl | exact contLe_refl _ _ _ | omega
          · obtain ⟨rfl, rfl⟩ := ok0 (by unfold newB; simp [hs, h5])
            simp [hn, q1, q2, h1, h2, h3', h4, h5, hsl]
            repeat' apply And.intro
            all_goals first | rfl | exact contLe_refl _ _ _ | exact q00 | omega
noncomputable def nwG (id : Int) (b : Bool) (l : List Int) (p : Int) (c : Clt) (e : Int) : Ctr Tryd.prog := ⟨9, [.y (.int .i64 id), encIs b l, .y (.int .u64 p)], [], .need (NewQ id l p c e) (nwgR c e), T.Sat.need fun h => nwg_c id b l p c e h⟩
end Go.Proofs.YtdpbogaldcpfeaaDoor.C

/-! A client: what stays so from step to step. -/
namespace Go.Proofs.YtdpbogaldcpfeaaDoor.C
open Go.Ax
structure Inv (n : Nat) (c : Clt) : Prop where
  s : c.servers.length * 8 ≤ 140737488355328
  a0 : 0 ≤ c.at'
  a1 : c.at' < c.servers.length
  tl : c.topics.length ≤ n
  ll : c.leaders.length ≤ n
  k : CalOk c.call
  t : ∀ x ∈ c.topics, TpOk x
structure InpOk (i : Inp) : Prop where
  c : CalOk i.call
  n : i.rep.shards.length * 104 ≤ 281474976710656
  s : ∀ x ∈ i.rep.shards, ShOk x
theorem calOk_default : CalOk default := ⟨by decide, by decide⟩
theorem Inv.mono {n m : Nat} {c : Clt} (h : Inv n c) (hm : n ≤ m) : Inv m c := ⟨h.s, h.a0, h.a1, Nat.le_trans h.tl hm, Nat.le_trans h.ll hm, h.k, h.t⟩
theorem inv_end {n : Nat} {x : Nod} {r : Rep} (h : Inv n x.c) : Inv n (endN x r).c := ⟨h.s, h.a0, h.a1, h.tl, h.ll, calOk_default, h.t⟩
theorem inv_later {n : Nat} {x : Nod} (h : Inv n x.c) : Inv n (laterN x).c := ⟨h.s, h.a0, h.a1, h.tl, h.ll, h.k, h.t⟩
theorem inv_send {n : Nat} {x : Nod} (h : Inv n x.c) : Inv n (sendN x).c := by
  unfold sendN
  split
  · exact inv_end h
  · split
    · exact ⟨h.s, h.a0, h.a1, h.tl, h.ll, h.k, h.t⟩
    · split
      · exact ⟨h.s, h.a0, h.a1, h.tl, h.ll, h.k, h.t⟩
      · exact ⟨h.s, h.a0, h.a1, h.tl, h.ll, h.k, h.t⟩
theorem at_ok {n : Nat} {x : Nod} (h : Inv n x.c) : 0 ≤ atQ x ∧ atQ x < x.c.servers.length := by
  have h1 := h.a0
  have h2 := h.a1
  have h3 := h.s
  unfold atQ
  rw [wrap_i64 (by omega) (by omega), Int.tmod_eq_emod_of_nonneg (by omega)]
  exact ⟨Int.emod_nonneg _ (by omega), Int.emod_lt_of_pos _ (by omega)⟩
theorem inv_next {n : Nat} {x : Nod} (h : Inv n x.c) : Inv n (nxtN x).c := ⟨h.s, (at_ok h).1, (at_ok h).2, h.tl, h.ll, h.k, h.t⟩
theorem inv_turn {n : Nat} {x : Nod} (h : Inv n x.c) : Inv n (turnN x).c := ⟨h.s, (at_ok h).1, (at_ok h).2, h.tl, Nat.le_trans (List.length_filter_le _ _) h.ll, h.k, h.t⟩
theorem inv_lrn {n : Nat} {x : Nod} {l : List Shd} (h : Inv n x.c) (hn : l.length * 104 ≤ 281474976710656) (hs : ∀ x ∈ l, ShOk x) : Inv (n + 1) (lrnN x l).c := by
  have htl : (lrnT x l).length ≤ n + 1 := by
    have := h.tl
    unfold lrnT
    split
    · rw [List.length_set]; omega
    · rw [List.length_append]; simp; omega
  have ht : ∀ t ∈ lrnT x l, TpOk t := by
    intro t ht
    unfold lrnT at ht
    split at ht
    · rcases List.mem_or_eq_of_mem_set ht with h1 | rfl
      · exact h.t t h1
      · exact ⟨hn, hs⟩
    · rcases List.mem_append.1 ht with h1 | h1
      · exact h.t t h1
      · obtain rfl := List.mem_singleton.1 h1
        exact ⟨hn, hs⟩
  exact ⟨h.s, h.a0, h.a1, htl, Nat.le_succ_of_le h.ll, h.k, ht⟩
theorem inv_finL {n : Nat} {x : Nod} {r : Rep} (h : Inv n x.c) (hn : r.shards.length * 104 ≤ 281474976710656) (hs : ∀ x ∈ r.shards, ShOk x) : Inv (n + 1) (finL x r).c := by
  unfold finL
  split
  · exact inv_lrn h hn hs
  · exact h.mono (Nat.le_succ _)
theorem inv_fin {n : Nat} {x : Nod} {r : Rep} (h : Inv n x.c) (hn : r.shards.length * 104 ≤ 281474976710656) (hs : ∀ x ∈ r.shards, ShOk x) : Inv (n + 1) (finN x r).c := by
  have h1 := inv_finL h hn hs
  unfold finN
  split
  · exact inv_end h1
  · split
    · exact inv_send h1
    · exact inv_later (inv_next h1)
theorem inv_taken {n : Nat} {x : Nod} (h : Inv n x.c) : Inv n (taken x).c := by
  unfold taken
  split
  · refine ⟨h.s, h.a0, h.a1, ?_, h.ll, h.k, fun t ht => h.t t ?_⟩
    · have := h.tl
      show (tout x.c.topics (topI x)).length ≤ n
      unfold tout
      simp
      omega
    · have ht : t ∈ tout x.c.topics (topI x) := ht
      unfold tout at ht
      rcases List.mem_append.1 ht with h1 | h1
      · exact List.mem_of_mem_take h1
      · exact List.mem_of_mem_drop h1
  · exact h
theorem inv_gone {n : Nat} {x : Nod} (h : Inv n x.c) : Inv n (goneN x).c := inv_later (inv_turn (inv_taken h))
theorem inv_led {n : Nat} {x : Nod} {v : Int} (h : Inv n x.c) : Inv (n + 1) (ledN x v).c := by
  refine ⟨h.s, h.a0, h.a1, Nat.le_succ_of_le h.tl, ?_, h.k, h.t⟩
  have := h.ll
  show (ledT x v).length ≤ n + 1
  unfold ledT
  split
  · rw [List.length_set]; omega
  · rw [List.length_append]; simp; omega
theorem inv_ans {n : Nat} {x : Nod} {r : Rep} (h : Inv n x.c) (hn : r.shards.length * 104 ≤ 281474976710656) (hs : ∀ x ∈ r.shards, ShOk x) : Inv (n + 1) (ansN x r).c := by
  unfold ansN
  split
  · exact inv_fin h hn hs
  · split
    · split
      · exact inv_send (inv_led h)
      · exact (inv_later (inv_turn h)).mono (Nat.le_succ _)
    · split
      · split
        · exact (inv_end h).mono (Nat.le_succ _)
        · exact (inv_gone h).mono (Nat.le_succ _)
      · split
        · exact (inv_gone h).mono (Nat.le_succ _)
        · split
          · split
            · exact (inv_end h).mono (Nat.le_succ _)
            · exact (inv_later h).mono (Nat.le_succ _)
          · exact (inv_end h).mono (Nat.le_succ _)
theorem inv_wt {n : Nat} {x : Nod} (h : Inv n x.c) : Inv n (wt1 x).c := ⟨h.s, h.a0, h.a1, h.tl, h.ll, h.k, h.t⟩
theorem inv_tic {n : Nat} {x : Nod} (h : Inv n x.c) : Inv n (ticN x).c := by
  unfold ticN
  split
  · exact h
  · split
    · exact inv_send h
    · split
      · exact inv_wt h
      · split
        · exact inv_end (inv_turn (inv_wt h))
        · exact inv_send (inv_turn (inv_wt h))
theorem inv_beg1 {n : Nat} {x : Nod} {c : Cal} (h : Inv n x.c) (hc : CalOk c) : Inv n (beg1 x c).c := ⟨h.s, h.a0, h.a1, h.tl, h.ll, hc, h.t⟩
theorem inv_step {n : Nat} {c : Clt} {i : Inp} (h : Inv n c) (hi : InpOk i) : Inv (n + 1) (stepN c i).c := by
  have h0 : Inv n (⟨c, default⟩ : Nod).c := h
  unfold stepN
  split
  · unfold begQ
    split
    · exact (inv_send (inv_beg1 h0 hi.c)).mono (Nat.le_succ _)
    · exact h0.mono (Nat.le_succ _)
  · split
    · unfold herN
      split
      · exact inv_ans h0 hi.n hi.s
      · exact h0.mono (Nat.le_succ _)
    · split
      · exact (inv_tic h0).mono (Nat.le_succ _)
      · exact h0.mono (Nat.le_succ _)
/-! the contract's conditions -/
theorem cltOk_of {n : Nat} {c : Clt} (h : Inv n c) (hN : (n + 1) * 40 ≤ 140737488355328) : CltOk c := by
  have h1 := h.tl
  have h2 := h.ll
  exact ⟨h.s, by omega, h.k, by omega, h.t⟩
theorem nodIn_of {n : Nat} {x : Nod} (h : Inv n x.c) (hN : (n + 1) * 40 ≤ 140737488355328) : NodIn x := by
  have h1 := h.tl
  exact ⟨by omega, fun t ht => by have := (h.t t ht).n; omega⟩
theorem sndOk_of {n : Nat} {x : Nod} (h : Inv n x.c) (hN : (n + 1) * 40 ≤ 140737488355328) : SndOk x := by
  have h2 := h.ll
  exact ⟨nodIn_of h hN, h.k, by omega, h.a0, h.a1⟩
theorem trnOk_of {n : Nat} {x : Nod} (h : Inv n x.c) (hN : (n + 1) * 40 ≤ 140737488355328) : TrnOk x := by
  have h2 := h.ll
  have h3 := h.a0
  have h4 := h.a1
  exact ⟨by omega, by omega⟩
theorem finOk_of {n : Nat} {x : Nod} {r : Rep} (h : Inv n x.c) (hN : (n + 2) * 40 ≤ 140737488355328) (hn : r.shards.length * 104 ≤ 281474976710656) (hs : ∀ x ∈ r.shards, ShOk x) : FinOk x r := by
  have h1 := h.tl
  have h2 := inv_finL h hn hs
  exact ⟨⟨by omega, hn, hs⟩, nodIn_of h2 hN, sndOk_of h2 hN⟩
theorem ansOk_of {n : Nat} {x : Nod} {r : Rep} (h : Inv n x.c) (hN : (n + 2) * 40 ≤ 140737488355328) (hn : r.shards.length * 104 ≤ 281474976710656) (hs : ∀ x ∈ r.shards, ShOk x) : AnsOk x r := by
  have h1 := h.tl
  have h2 := h.ll
  have h3 := h.s
  exact ⟨fun _ => finOk_of h hN hn hs, by omega, trnOk_of h (by omega), trnOk_of (inv_taken h) (by omega), sndOk_of (inv_led h) hN, by omega, by omega⟩
theorem stg_of {n : Nat} {c : Clt} {i : Inp} (h : Inv n c) (hi : InpOk i) (hN : (n + 2) * 40 ≤ 140737488355328) : StG c i (stepN c i) (stepE c i) := by
  have h0 : Inv n (⟨c, default⟩ : Nod).c := h
  exact ⟨cltOk_of h (by omega), rfl, rfl, fun _ => sndOk_of (inv_beg1 h0 hi.c) (by omega), fun _ => ⟨fun _ => ansOk_of h0 hN hi.n hi.s⟩, fun _ => ⟨fun _ _ => sndOk_of h0 (by omega), trnOk_of (inv_wt h0) (by omega), sndOk_of (inv_turn (inv_wt h0)) (by omega)⟩⟩
/-! New -/
theorem inv_new {id p : Int} {l : List Int} (hn : l.length * 8 ≤ 140737488355328) (h : newE id l p = 0) : Inv 0 (newK id l p) := by
  have hb : newB id l p = true := by
    cases hb : newB id l p
    · unfold newE at h; simp [hb] at h
    · rfl
  have h0 : ¬ l.length = 0 := by
    intro e
    unfold newB at hb
    simp [e] at hb
  unfold newK
  rw [if_pos hb]
  exact ⟨hn, Int.le_refl 0, (by show (0 : Int) < (l.length : Int); omega), Nat.le_refl 0, Nat.le_refl 0, calOk_default, fun x hx => by cases hx⟩
end Go.Proofs.YtdpbogaldcpfeaaDoor.C

/-! From the statements to the laws: the data. -/
namespace Go.Proofs.YtdpbogaldcpfeaaDoor
open Go.Ax Go.Shelf Go.RowKit Go.ChangeShapes Go.WideShapes Go.ChangeAt
set_option maxRecDepth 1000000
def toI {K : Type} : DataW K → Int
  | .lit (.int _ a) => a
  | _ => 0
def toS {K : Type} : DataW K → ByteArray
  | .lit (.string l) => ⟨l.toArray⟩
  | _ => ByteArray.empty
def toB {K : Type} : DataW K → Bool
  | .lit (.bool b) => b
  | _ => false
theorem encI_ok {K : Type} {k : IntKind} {d : DataW K} (h : (Sh.int k).wf d) : (Sh.int k).enc d = [.y (.int k (toI d))] := by
  obtain ⟨k', n, rfl, _⟩ := h
  rfl
theorem encS_ok {K : Type} {d : DataW K} (h : Sh.str.wf d) : Sh.str.enc d = [.y (.string (toS d))] := by
  obtain ⟨l, rfl, _⟩ := h
  rfl
theorem encO_ok {K : Type} {d : DataW K} (h : Sh.bool.wf d) : Sh.bool.enc d = [.y (.bool (toB d))] := by
  obtain ⟨l, rfl⟩ := h
  rfl
theorem enc_st {K : Type} (fs : List Sh) (ds : List (DataW K)) : (Sh.st fs).enc (.agg ds) = Sh.encL fs ds := by simp only [Sh.enc]
theorem enc_cons {K : Type} (s : Sh) (r : List Sh) (d : DataW K) (ds : List (DataW K)) : Sh.encL (s :: r) (d :: ds) = s.enc d ++ Sh.encL r ds := by simp only [Sh.encL]
theorem enc_nil {K : Type} (l : List (DataW K)) : Sh.encL [] l = [] := by simp only [Sh.encL]
theorem Tryd.own : ownKnob Tryd.prog.godebug = Option.none := by kernel_rfl
theorem Tryd.laidOut : laidOutB Tryd.prog = true := by kernel_rfl
theorem Tryd.mapsRowed : mapsRowed Tryd.prog = true := by kernel_rfl
theorem Tryd.slicesOk : slicesOk Tryd.prog = true := by kernel_rfl
theorem underBool : Tryd.prog.underlying 4 = some .bool := by kernel_rfl
def structTypes (P : Program) (t : TypeId) : Option (List TypeId) := match P.underlying t with | some (.struct fs) => some (fs.toList.map (·.type)) | _ => Option.none
theorem structTypes_ok {P : Program} {t : TypeId} {l : List TypeId} (h : structTypes P t = some l) : ∃ fs, P.underlying t = some (.struct fs) ∧ fs.toList.map (·.type) = l := by
  unfold structTypes at h
  split at h
  · rename_i fs hu
    exact ⟨fs, hu, Option.some.inj h⟩
  · cases h
end Go.Proofs.YtdpbogaldcpfeaaDoor

/-! From the statements to the laws: calls, shards, replies. -/
namespace Go.Proofs.YtdpbogaldcpfeaaDoor
open Go.Ax Go.Shelf Go.RowKit Go.ChangeShapes Go.WideShapes Go.ChangeAt
set_option maxRecDepth 1000000
def shRec : Sh := .st [.int .u64, .str, .sl (.int .u8), .int .u64, .int .u64]
def toRec {K : Type} : DataW K → Rec
  | .agg [a, b, c, d, e] => ⟨toI a, toS b, listOf toI c, toI d, toI e⟩
  | _ => default
theorem relB {K : Type} {d : DataW K} (hd : (Sh.sl (.int .u8)).wf d) {H : HH} {E : Env} {v : Value} (h : Rel (slAV (.int .u8) d) H E v) : Rel (encBs true (listOf toI d)) H E v := conv_sl (encA := encB) (fun x hx => encI_ok hx) hd h
theorem rec_enc {K : Type} {d : DataW K} (hd : shRec.wf d) : ∃ a b c e f, d = .agg [a, b, c, e, f] ∧ (Sh.sl (.int .u8)).wf c ∧ shRec.enc d = [.y (.int .u64 (toI a)), .y (.string (toS b)), slAV (.int .u8) c, .y (.int .u64 (toI e)), .y (.int .u64 (toI f))] := by
  obtain ⟨ds, rfl, d1, r1, rfl, w1, d2, r2, rfl, w2, d3, r3, rfl, w3, d4, r4, rfl, w4, d5, r5, rfl, w5, rfl⟩ := hd
  refine ⟨d1, d2, d3, d4, d5, rfl, w3, ?_⟩
  simp only [shRec, enc_st, enc_cons, enc_nil, encI_ok w1, encS_ok w2, slAV_eq, encI_ok w4, encI_ok w5]
  rfl
theorem rec_conv {K : Type} {d : DataW K} (hd : shRec.wf d) (j : Nat) (hj : j < 5) (H : HH) (E : Env) (v : Value) (h : Rel (Ax.get (shRec.enc d) j) H E v) : Rel (Ax.get (encR (toRec d)) j) H E v := by
  obtain ⟨a, b, c, e, f, rfl, wc, he⟩ := rec_enc hd
  rw [he] at h
  match j, hj with
  | 0, _ => exact h
  | 1, _ => exact h
  | 2, _ => exact relB wc h
  | 3, _ => exact h
  | 4, _ => exact h
theorem relRs {K : Type} {d : DataW K} (hd : (Sh.sl shRec).wf d) {H : HH} {E : Env} {v : Value} (h : Rel (slAV shRec d) H E v) : Rel (encRs true (listOf toRec d)) H E v :=
  conv_slR (encA := encR) (fun x hx j hj H E v => rec_conv hx j hj H E v) hd h
theorem undRs : Tryd.prog.underlying 47 = some (.slice 149) := by kernel_rfl
theorem bytesR : Tryd.prog.bytesOf 149 = 64 := by kernel_rfl
theorem rs_sized {K : Type} {d : DataW K} (hw : (d.weights Tryd.prog 47).all (· ≤ reachBytes) = true) : (listOf toRec d).length * 64 ≤ 140737488351232 := by
  have := weights_slice toRec undRs hw
  rwa [bytesR] at this
def shRng : Sh := .st [.str, .str]
def toRng {K : Type} : DataW K → Rng
  | .agg [a, b] => ⟨toS a, toS b⟩
  | _ => default
theorem toRng_ok {K : Type} {d : DataW K} (h : shRng.wf d) : shRng.enc d = encG (toRng d) := by
  obtain ⟨ds, rfl, d1, r1, rfl, w1, d2, r2, rfl, w2, rfl⟩ := h
  simp only [shRng, enc_st, enc_cons, enc_nil, encS_ok w1, encS_ok w2]
  rfl
theorem weights_elem {K : Type} {P : Program} {e : TypeId} : ∀ {xs : List (DataW K)}, (DataW.weightsAll P e xs).all (· ≤ reachBytes) = true → ∀ x ∈ xs, (x.weights P e).all (· ≤ reachBytes) = true
  | [], _, _, h => by cases h
  | y :: r, h, x, hx => by
    rw [DataW.weightsAll, List.all_append, Bool.and_eq_true] at h
    rcases List.mem_cons.1 hx with rfl | hx
    · exact h.1
    · exact weights_elem h.2 x hx
theorem weights_elems {K : Type} {P : Program} {t u : TypeId} {xs r : List (DataW K)} (hu : P.underlying t = some (.slice u)) (h : ((DataW.slice xs r).weights P t).all (· ≤ reachBytes) = true) : ∀ x ∈ xs, (x.weights P u).all (· ≤ reachBytes) = true := by
  rw [DataW.weights, hu] at h
  simp only [List.all_cons, List.all_append, Bool.and_eq_true] at h
  exact weights_elem h.2.1
theorem relIs {K : Type} {d : DataW K} (hd : (Sh.sl (.int .i64)).wf d) {H : HH} {E : Env} {v : Value} (h : Rel (slAV (.int .i64) d) H E v) : Rel (C.encIs true (listOf toI d)) H E v := conv_sl (encA := encI) (fun x hx => encI_ok hx) hd h
theorem undIs : Tryd.prog.underlying 22 = some (.slice 3) := by kernel_rfl
theorem bytesI : Tryd.prog.bytesOf 3 = 8 := by kernel_rfl
theorem is_sized {K : Type} {d : DataW K} (hw : (d.weights Tryd.prog 22).all (· ≤ reachBytes) = true) : (listOf toI d).length * 8 ≤ 140737488351232 := by
  have := weights_slice toI undIs hw
  rwa [bytesI] at this
theorem undBs : Tryd.prog.underlying 28 = some (.slice 5) := by kernel_rfl
theorem bytesB : Tryd.prog.bytesOf 5 = 1 := by kernel_rfl
theorem bs_sized {K : Type} {d : DataW K} (hw : (d.weights Tryd.prog 28).all (· ≤ reachBytes) = true) : (listOf toI d).length ≤ 140737488351232 := by
  have := weights_slice toI undBs hw
  rwa [bytesB, Nat.mul_one] at this
/-! shards -/
def shShd : Sh := .st [.int .u64, shRng, .int .u64, .sl (.int .i64), .sl (.int .i64), .int .u64]
def toShd {K : Type} : DataW K → C.Shd
  | .agg [a, b, c, d, e, f] => ⟨toI a, toRng b, toI c, listOf toI d, listOf toI e, toI f⟩
  | _ => default
theorem shd_enc {K : Type} {d : DataW K} (hd : shShd.wf d) : ∃ a1 a2 a3 a4 a5 a6, d = .agg [a1, a2, a3, a4, a5, a6] ∧ (Sh.sl (.int .i64)).wf a4 ∧ (Sh.sl (.int .i64)).wf a5 ∧ shShd.enc d = [.y (.int .u64 (toI a1)), .y (.string (toRng a2).lo), .y (.string (toRng a2).hi), .y (.int .u64 (toI a3)), slAV (.int .i64) a4, slAV (.int .i64) a5, .y (.int .u64 (toI a6))] := by
  obtain ⟨ds, rfl, d1, r1, rfl, w1, d2, r2, rfl, w2, d3, r3, rfl, w3, d4, r4, rfl, w4, d5, r5, rfl, w5, d6, r6, rfl, w6, rfl⟩ := hd
  refine ⟨d1, d2, d3, d4, d5, d6, rfl, w4, w5, ?_⟩
  simp only [shShd, enc_st, enc_cons, enc_nil, encI_ok w1, toRng_ok w2, encI_ok w3, slAV_eq, encI_ok w6]
  rfl
theorem shd_conv {K : Type} {d : DataW K} (hd : shShd.wf d) (j : Nat) (hj : j < 7) (H : HH) (E : Env) (v : Value) (h : Rel (Ax.get (shShd.enc d) j) H E v) : Rel (Ax.get (C.encSh (toShd d)) j) H E v := by
  obtain ⟨a1, a2, a3, a4, a5, a6, rfl, w4, w5, he⟩ := shd_enc hd
  rw [he] at h
  match j, hj with
  | 0, _ => exact h
  | 1, _ => exact h
  | 2, _ => exact h
  | 3, _ => exact h
  | 4, _ => exact relIs w4 h
  | 5, _ => exact relIs w5 h
  | 6, _ => exact h
theorem relShs {K : Type} {d : DataW K} (hd : (Sh.sl shShd).wf d) {H : HH} {E : Env} {v : Value} (h : Rel (slAV shShd d) H E v) : Rel (C.encShs true (listOf toShd d)) H E v :=
  conv_slR (encA := C.encSh) (fun x hx j hj H E v => shd_conv hx j hj H E v) hd h
theorem undShs : Tryd.prog.underlying 50 = some (.slice 68) := by kernel_rfl
theorem bytesSh : Tryd.prog.bytesOf 68 = 104 := by kernel_rfl
theorem undShd : ∃ fs, Tryd.prog.underlying 68 = some (.struct fs) ∧ fs.toList.map (·.type) = [23, 66, 23, 22, 22, 23] := structTypes_ok (by kernel_rfl)
theorem shd_sized {K : Type} {d : DataW K} (hd : shShd.wf d) (hw : (d.weights Tryd.prog 68).all (· ≤ reachBytes) = true) : C.ShOk (toShd d) := by
  obtain ⟨a1, a2, a3, a4, a5, a6, rfl, w4, w5, he⟩ := shd_enc hd
  obtain ⟨fs, hf, ht⟩ := undShd
  have h := weights_struct hf hw
  rw [ht] at h
  obtain ⟨_, h⟩ := weights_cons h
  obtain ⟨_, h⟩ := weights_cons h
  obtain ⟨_, h⟩ := weights_cons h
  obtain ⟨h4, h⟩ := weights_cons h
  obtain ⟨h5, _⟩ := weights_cons h
  exact ⟨by have := is_sized h4; show (listOf toI a4).length * 8 ≤ _; omega, by have := is_sized h5; show (listOf toI a5).length * 8 ≤ _; omega⟩
theorem shs_sized {K : Type} {d : DataW K} (hd : (Sh.sl shShd).wf d) (hw : (d.weights Tryd.prog 50).all (· ≤ reachBytes) = true) : (listOf toShd d).length * 104 ≤ 140737488355328 ∧ ∀ x ∈ listOf toShd d, C.ShOk x := by
  refine ⟨?_, ?_⟩
  · have := weights_slice toShd undShs hw
    rw [bytesSh] at this
    omega
  · rcases hd with rfl | ⟨xs, r, rfl, hx⟩
    · intro y hy; cases hy
    · intro y hy
      obtain ⟨x, hx', rfl⟩ := List.mem_map.1 hy
      exact shd_sized (hx x hx') (weights_elems undShs hw x hx')
/-! calls -/
def shAd : Sh := .st [.int .i64, .int .u64, .int .u64, .str, .sl (.int .i64), .int .u64, .int .u64, .str, .int .i64, .int .i64, .int .u64, .int .i64]
def toAd {K : Type} : DataW K → C.Adm
  | .agg [a, b, c, d, e, f, g, h, i, j, k, l] => ⟨toI a, toI b, toI c, toS d, listOf toI e, toI f, toI g, toS h, toI i, toI j, toI k, toI l⟩
  | _ => default
def shCal : Sh := .st [.int .i64, .str, .str, .sl (.int .u8), .int .u64, .int .i64, .str, shAd]
def toCal {K : Type} : DataW K → C.Cal
  | .agg [a, b, c, d, e, f, g, h] => ⟨toI a, toS b, toS c, listOf toI d, toI e, toI f, toS g, toAd h⟩
  | _ => default
theorem undCal : ∃ fs, Tryd.prog.underlying 33 = some (.struct fs) ∧ fs.toList.map (·.type) = [27, 9, 9, 28, 23, 3, 9, 31] := structTypes_ok (by kernel_rfl)
theorem undAd : ∃ fs, Tryd.prog.underlying 31 = some (.struct fs) ∧ fs.toList.map (·.type) = [29, 23, 23, 9, 22, 23, 23, 9, 3, 3, 23, 3] := structTypes_ok (by kernel_rfl)
theorem cal_sized {K : Type} {d : DataW K} (hd : shCal.wf d) (hw : (d.weights Tryd.prog 33).all (· ≤ reachBytes) = true) : C.CalOk (toCal d) := by
  obtain ⟨ds, rfl, d1, r1, rfl, w1, d2, r2, rfl, w2, d3, r3, rfl, w3, d4, r4, rfl, w4, d5, r5, rfl, w5, d6, r6, rfl, w6, d7, r7, rfl, w7, d8, r8, rfl, w8, rfl⟩ := hd
  obtain ⟨es, rfl, e1, s1, rfl, x1, e2, s2, rfl, x2, e3, s3, rfl, x3, e4, s4, rfl, x4, e5, s5, rfl, x5, e6, s6, rfl, x6, e7, s7, rfl, x7, e8, s8, rfl, x8, e9, s9, rfl, x9, e10, s10, rfl, x10, e11, s11, rfl, x11, e12, s12, rfl, x12, rfl⟩ := w8
  obtain ⟨fs, hf, ht⟩ := undCal
  have h := weights_struct hf hw
  rw [ht] at h
  obtain ⟨_, h⟩ := weights_cons h
  obtain ⟨_, h⟩ := weights_cons h
  obtain ⟨_, h⟩ := weights_cons h
  obtain ⟨h4, h⟩ := weights_cons h
  obtain ⟨_, h⟩ := weights_cons h
  obtain ⟨_, h⟩ := weights_cons h
  obtain ⟨_, h⟩ := weights_cons h
  obtain ⟨h8, _⟩ := weights_cons h
  obtain ⟨gs, hg, gt⟩ := undAd
  have k := weights_struct hg h8
  rw [gt] at k
  obtain ⟨_, k⟩ := weights_cons k
  obtain ⟨_, k⟩ := weights_cons k
  obtain ⟨_, k⟩ := weights_cons k
  obtain ⟨_, k⟩ := weights_cons k
  obtain ⟨k5, _⟩ := weights_cons k
  exact ⟨by have := bs_sized h4; show (listOf toI d4).length ≤ _; omega, by have := is_sized k5; show (listOf toI e5).length * 8 ≤ _; omega⟩
/-! replies -/
def shRes : Sh := .st [.int .i64, .int .u64, .bool, .sl shRec]
def shRep : Sh := .st [.int .u64, .int .i64, .int .i64, shRes, .int .u64, .sl shShd, .int .u64, .int .u64, .int .u64]
def toRep {K : Type} : DataW K → C.Rep
  | .agg [a, b, c, .agg [d, e, f, g], h, i, j, k, l] => ⟨toI a, toI b, toI c, toI d, toI e, toB f, listOf toRec g, toI h, listOf toShd i, toI j, toI k, toI l⟩
  | _ => default
theorem rep_enc {K : Type} {d : DataW K} (hd : shRep.wf d) : ∃ d1 d2 d3 e1 e2 e3 e4 d5 d6 d7 d8 d9, d = .agg [d1, d2, d3, .agg [e1, e2, e3, e4], d5, d6, d7, d8, d9] ∧ (Sh.sl shRec).wf e4 ∧ (Sh.sl shShd).wf d6 ∧ shRep.enc d = [.y (.int .u64 (toI d1)), .y (.int .i64 (toI d2)), .y (.int .i64 (toI d3)), .y (.int .i64 (toI e1)), .y (.int .u64 (toI e2)), .y (.bool (toB e3)), slAV shRec e4, .y (.int .u64 (toI d5)), slAV shShd d6, .y (.int .u64 (toI d7)), .y (.int .u64 (toI d8)), .y (.int .u64 (toI d9))] := by
  obtain ⟨ds, rfl, d1, r1, rfl, w1, d2, r2, rfl, w2, d3, r3, rfl, w3, d4, r4, rfl, w4, d5, r5, rfl, w5, d6, r6, rfl, w6, d7, r7, rfl, w7, d8, r8, rfl, w8, d9, r9, rfl, w9, rfl⟩ := hd
  obtain ⟨es, rfl, e1, s1, rfl, x1, e2, s2, rfl, x2, e3, s3, rfl, x3, e4, s4, rfl, x4, rfl⟩ := w4
  refine ⟨d1, d2, d3, e1, e2, e3, e4, d5, d6, d7, d8, d9, rfl, x4, w6, ?_⟩
  simp only [shRep, shRes, enc_st, enc_cons, enc_nil, slAV_eq, encI_ok w1, encI_ok w2, encI_ok w3, encI_ok w5, encI_ok w7, encI_ok w8, encI_ok w9, encI_ok x1, encI_ok x2, encO_ok x3]
  rfl
theorem undRep : ∃ fs, Tryd.prog.underlying 52 = some (.struct fs) ∧ fs.toList.map (·.type) = [23, 36, 3, 49, 23, 50, 23, 23, 23] := structTypes_ok (by kernel_rfl)
theorem undRes : ∃ fs, Tryd.prog.underlying 49 = some (.struct fs) ∧ fs.toList.map (·.type) = [36, 23, 4, 47] := structTypes_ok (by kernel_rfl)
structure RepSz (r : C.Rep) : Prop where
  rc : r.recs.length * 64 ≤ 140737488351232
  rl : r.shards.length * 104 ≤ 140737488355328
  rs : ∀ x ∈ r.shards, C.ShOk x
theorem rep_sized {K : Type} {d : DataW K} (hd : shRep.wf d) (hw : (d.weights Tryd.prog 52).all (· ≤ reachBytes) = true) : RepSz (toRep d) := by
  obtain ⟨d1, d2, d3, e1, e2, e3, e4, d5, d6, d7, d8, d9, rfl, x4, w6, e⟩ := rep_enc hd
  obtain ⟨fs, hf, ht⟩ := undRep
  have h := weights_struct hf hw
  rw [ht] at h
  obtain ⟨_, h⟩ := weights_cons h
  obtain ⟨_, h⟩ := weights_cons h
  obtain ⟨_, h⟩ := weights_cons h
  obtain ⟨h4, h⟩ := weights_cons h
  obtain ⟨_, h⟩ := weights_cons h
  obtain ⟨h6, _⟩ := weights_cons h
  obtain ⟨gs, hg, gt⟩ := undRes
  have k := weights_struct hg h4
  rw [gt] at k
  obtain ⟨_, k⟩ := weights_cons k
  obtain ⟨_, k⟩ := weights_cons k
  obtain ⟨_, k⟩ := weights_cons k
  obtain ⟨k4, _⟩ := weights_cons k
  have s := shs_sized w6 h6
  exact ⟨rs_sized k4, s.1, s.2⟩
/-! inputs -/
theorem cal_enc {K : Type} {d : DataW K} (hd : shCal.wf d) : ∃ d4 e5 : DataW K, (Sh.sl (.int .u8)).wf d4 ∧ (Sh.sl (.int .i64)).wf e5 ∧ listOf toI d4 = (toCal d).val ∧ listOf toI e5 = (toCal d).adm.nodes ∧ shCal.enc d = [.y (.int .i64 (toCal d).kind), .y (.string (toCal d).topic), .y (.string (toCal d).key), slAV (.int .u8) d4, .y (.int .u64 (toCal d).off), .y (.int .i64 (toCal d).most), .y (.string (toCal d).name), .y (.int .i64 (toCal d).adm.kind), .y (.int .u64 (toCal d).adm.prod), .y (.int .u64 (toCal d).adm.seq), .y (.string (toCal d).adm.topic), slAV (.int .i64) e5, .y (.int .u64 (toCal d).adm.group), .y (.int .u64 (toCal d).adm.other), .y (.string (toCal d).adm.key), .y (.int .i64 (toCal d).adm.fr), .y (.int .i64 (toCal d).adm.to), .y (.int .u64 (toCal d).adm.plan), .y (.int .i64 (toCal d).adm.step)] := by
  obtain ⟨ds, rfl, d1, r1, rfl, w1, d2, r2, rfl, w2, d3, r3, rfl, w3, d4, r4, rfl, w4, d5, r5, rfl, w5, d6, r6, rfl, w6, d7, r7, rfl, w7, d8, r8, rfl, w8, rfl⟩ := hd
  obtain ⟨es, rfl, e1, s1, rfl, x1, e2, s2, rfl, x2, e3, s3, rfl, x3, e4, s4, rfl, x4, e5, s5, rfl, x5, e6, s6, rfl, x6, e7, s7, rfl, x7, e8, s8, rfl, x8, e9, s9, rfl, x9, e10, s10, rfl, x10, e11, s11, rfl, x11, e12, s12, rfl, x12, rfl⟩ := w8
  refine ⟨d4, e5, w4, x5, rfl, rfl, ?_⟩
  simp only [shCal, shAd, enc_st, enc_cons, enc_nil, slAV_eq, encI_ok w1, encS_ok w2, encS_ok w3, encI_ok w5, encI_ok w6, encS_ok w7, encI_ok x1, encI_ok x2, encI_ok x3, encS_ok x4, encI_ok x6, encI_ok x7, encS_ok x8, encI_ok x9, encI_ok x10, encI_ok x11, encI_ok x12]
  rfl
def shInp : Sh := .st [.int .i64, shCal, shRep]
def toInp {K : Type} : DataW K → C.Inp
  | .agg [a, b, c] => ⟨toI a, toCal b, toRep c⟩
  | _ => default
def convL (H : HH) (E : Env) : List AV → List AV → Prop
  | [], [] => True
  | a :: r, b :: s => (∀ v, Rel a H E v → Rel b H E v) ∧ convL H E r s
  | _, _ => False
theorem convL_at {H : HH} {E : Env} : ∀ {l l' : List AV}, convL H E l l' → ∀ (j : Nat) (v : Value), Rel (Ax.get l j) H E v → Rel (Ax.get l' j) H E v
  | [], [], _, _, _, h => h
  | _ :: _, _ :: _, h, 0, v, hv => h.1 v hv
  | _ :: _, _ :: _, h, j + 1, v, hv => convL_at h.2 j v hv
  | [], _ :: _, h, _, _, _ => h.elim
  | _ :: _, [], h, _, _, _ => h.elim
theorem inp_conv {K : Type} {d : DataW K} (hd : shInp.wf d) (j : Nat) (hj : j < 32) (H : HH) (E : Env) (v : Value) (h : Rel (Ax.get (shInp.enc d) j) H E v) : Rel (Ax.get (C.encIn (toInp d)) j) H E v := by
  obtain ⟨ds, rfl, a, r1, rfl, w1, b, r2, rfl, w2, c, r3, rfl, w3, rfl⟩ := hd
  obtain ⟨d4, e5, x4, x5, q4, q5, eb⟩ := cal_enc w2
  obtain ⟨d1, d2, d3, e1, e2, e3, e4, d5, d6, d7, d8, d9, rfl, y4, y6, ec⟩ := rep_enc w3
  simp only [shInp, enc_st, enc_cons, enc_nil, encI_ok w1, eb, ec] at h
  have hb : ∀ v, Rel (slAV (.int .u8) d4) H E v → Rel (encBs true (toCal b).val) H E v := fun v hv => by rw [← q4]; exact relB x4 hv
  have hn : ∀ v, Rel (slAV (.int .i64) e5) H E v → Rel (C.encIs true (toCal b).adm.nodes) H E v := fun v hv => by rw [← q5]; exact relIs x5 hv
  refine convL_at (l := _) (l' := C.encIn (toInp (DataW.agg [a, b, DataW.agg [d1, d2, d3, DataW.agg [e1, e2, e3, e4], d5, d6, d7, d8, d9]]))) ?_ j v h
  exact ⟨(fun _ h => h), (fun _ h => h), (fun _ h => h), (fun _ h => h), hb, (fun _ h => h), (fun _ h => h), (fun _ h => h), (fun _ h => h), (fun _ h => h), (fun _ h => h), (fun _ h => h), hn, (fun _ h => h), (fun _ h => h), (fun _ h => h), (fun _ h => h), (fun _ h => h), (fun _ h => h), (fun _ h => h), (fun _ h => h), (fun _ h => h), (fun _ h => h), (fun _ h => h), (fun _ h => h), (fun _ h => h), (fun _ h => relRs y4 h), (fun _ h => h), (fun _ h => relShs y6 h), (fun _ h => h), (fun _ h => h), (fun _ h => h), trivial⟩
theorem relInps {K : Type} {d : DataW K} (hd : (Sh.sl shInp).wf d) {H : HH} {E : Env} {v : Value} (h : Rel (slAV shInp d) H E v) : Rel ((.ys true 32 (listOf toInp d).length (cellsOf' C.encIn (listOf toInp d)))) H E v :=
  conv_slR (encA := C.encIn) (fun x hx j hj H E v => inp_conv hx j hj H E v) hd h
theorem undInps : Tryd.prog.underlying 41 = some (.slice 59) := by kernel_rfl
theorem bytesInp : Tryd.prog.bytesOf 59 = 360 := by kernel_rfl
theorem undInp : ∃ fs, Tryd.prog.underlying 59 = some (.struct fs) ∧ fs.toList.map (·.type) = [57, 33, 52] := structTypes_ok (by kernel_rfl)
theorem inp_sized {K : Type} {d : DataW K} (hd : shInp.wf d) (hw : (d.weights Tryd.prog 59).all (· ≤ reachBytes) = true) : C.InpOk (toInp d) := by
  obtain ⟨ds, rfl, a, r1, rfl, w1, b, r2, rfl, w2, c, r3, rfl, w3, rfl⟩ := hd
  obtain ⟨fs, hf, ht⟩ := undInp
  have h := weights_struct hf hw
  rw [ht] at h
  obtain ⟨_, h⟩ := weights_cons h
  obtain ⟨h2, h⟩ := weights_cons h
  obtain ⟨h3, _⟩ := weights_cons h
  have hr := rep_sized w3 h3
  exact ⟨cal_sized w2 h2, by have := hr.rl; show (toRep c).shards.length * 104 ≤ _; omega, hr.rs⟩
theorem inps_sized {K : Type} {d : DataW K} (hd : (Sh.sl shInp).wf d) (hw : (d.weights Tryd.prog 41).all (· ≤ reachBytes) = true) : (listOf toInp d).length * 360 ≤ 140737488351232 ∧ ∀ x ∈ listOf toInp d, C.InpOk x := by
  refine ⟨?_, ?_⟩
  · have := weights_slice toInp undInps hw
    rwa [bytesInp] at this
  · rcases hd with rfl | ⟨xs, r, rfl, hx⟩
    · intro y hy; cases hy
    · intro y hy
      obtain ⟨x, hx', rfl⟩ := List.mem_map.1 hy
      exact inp_sized (hx x hx') (weights_elems undInps hw x hx')
end Go.Proofs.YtdpbogaldcpfeaaDoor

/-! A client: a reply is like itself. -/
namespace Go.Proofs.YtdpbogaldcpfeaaDoor.C
open Go.Ax
set_option maxRecDepth 1000000
/-! records -/
/-! shards -/
/-! replies -/
end Go.Proofs.YtdpbogaldcpfeaaDoor.C

/-! A client is like itself: the conditions. -/
namespace Go.Proofs.YtdpbogaldcpfeaaDoor.C
open Go.Ax
set_option maxRecDepth 1000000
/-! the client -/
end Go.Proofs.YtdpbogaldcpfeaaDoor.C

/-! A client's numbers: the conditions. -/
--fold
namespace Go.Proofs.YtdpbogaldcpfeaaDoor.C
open Go.Ax
set_option maxRecDepth 1000000
def fdC1 (a : Clt) (b : Clt) : Prop :=
  a.id = b.id ∧ (true = true ∧ List.length a.servers = List.length b.servers ∧ contLe (List.length a.servers) (1 : Nat) (cellsOf' encI a.servers) (cellsOf' encI b.servers)) ∧ a.prod = b.prod ∧ a.seq = b.seq ∧ (true = true ∧ List.length a.topics = List.length b.topics ∧ contLe (List.length a.topics) (2 : Nat) (cellsOf' encTp a.topics) (cellsOf' encTp b.topics)) ∧ (true = true ∧ List.length a.leaders = List.length b.leaders ∧ contLe (List.length a.leaders) (2 : Nat) (cellsOf' encSi a.leaders) (cellsOf' encSi b.leaders)) ∧ a.busy = b.busy ∧ a.call.kind = b.call.kind ∧ a.call.topic = b.call.topic ∧ a.call.key = b.call.key ∧ (true = true ∧ List.length a.call.val = List.length b.call.val ∧ contLe (List.length a.call.val) (1 : Nat) (cellsOf' encB a.call.val) (cellsOf' encB b.call.val)) ∧ a.call.off = b.call.off ∧ a.call.most = b.call.most ∧ a.call.name = b.call.name ∧ a.call.adm.kind = b.call.adm.kind ∧ a.call.adm.prod = b.call.adm.prod ∧ a.call.adm.seq = b.call.adm.seq ∧ a.call.adm.topic = b.call.adm.topic ∧ (true = true ∧ List.length a.call.adm.nodes = List.length b.call.adm.nodes ∧ contLe (List.length a.call.adm.nodes) (1 : Nat) (cellsOf' encI a.call.adm.nodes) (cellsOf' encI b.call.adm.nodes)) ∧ a.call.adm.group = b.call.adm.group ∧ a.call.adm.other = b.call.adm.other ∧ a.call.adm.key = b.call.adm.key ∧ a.call.adm.fr = b.call.adm.fr ∧ a.call.adm.to = b.call.adm.to ∧ a.call.adm.plan = b.call.adm.plan ∧ a.call.adm.step = b.call.adm.step ∧ a.number = b.number ∧ a.route = b.route ∧ a.group = b.group ∧ a.tries = b.tries ∧ a.waited = b.waited ∧ a.again = b.again ∧ a.at' = b.at' ∧ True
def fdCl (a : Cal) (b : Cal) : Prop :=
  a.kind = b.kind ∧ a.topic = b.topic ∧ a.key = b.key ∧ (true = true ∧ List.length a.val = List.length b.val ∧ contLe (List.length a.val) (1 : Nat) (cellsOf' encB a.val) (cellsOf' encB b.val)) ∧ a.off = b.off ∧ a.most = b.most ∧ a.name = b.name ∧ a.adm.kind = b.adm.kind ∧ a.adm.prod = b.adm.prod ∧ a.adm.seq = b.adm.seq ∧ a.adm.topic = b.adm.topic ∧ (true = true ∧ List.length a.adm.nodes = List.length b.adm.nodes ∧ contLe (List.length a.adm.nodes) (1 : Nat) (cellsOf' encI a.adm.nodes) (cellsOf' encI b.adm.nodes)) ∧ a.adm.group = b.adm.group ∧ a.adm.other = b.adm.other ∧ a.adm.key = b.adm.key ∧ a.adm.fr = b.adm.fr ∧ a.adm.to = b.adm.to ∧ a.adm.plan = b.adm.plan ∧ a.adm.step = b.adm.step ∧ True
def fdIn (a : Inp) (b : Inp) : Prop :=
  a.kind = b.kind ∧ a.call.kind = b.call.kind ∧ a.call.topic = b.call.topic ∧ a.call.key = b.call.key ∧ (true = true ∧ List.length a.call.val = List.length b.call.val ∧ contLe (List.length a.call.val) (1 : Nat) (cellsOf' encB a.call.val) (cellsOf' encB b.call.val)) ∧ a.call.off = b.call.off ∧ a.call.most = b.call.most ∧ a.call.name = b.call.name ∧ a.call.adm.kind = b.call.adm.kind ∧ a.call.adm.prod = b.call.adm.prod ∧ a.call.adm.seq = b.call.adm.seq ∧ a.call.adm.topic = b.call.adm.topic ∧ (true = true ∧ List.length a.call.adm.nodes = List.length b.call.adm.nodes ∧ contLe (List.length a.call.adm.nodes) (1 : Nat) (cellsOf' encI a.call.adm.nodes) (cellsOf' encI b.call.adm.nodes)) ∧ a.call.adm.group = b.call.adm.group ∧ a.call.adm.other = b.call.adm.other ∧ a.call.adm.key = b.call.adm.key ∧ a.call.adm.fr = b.call.adm.fr ∧ a.call.adm.to = b.call.adm.to ∧ a.call.adm.plan = b.call.adm.plan ∧ a.call.adm.step = b.call.adm.step ∧ a.rep.id = b.rep.id ∧ a.rep.err = b.rep.err ∧ a.rep.leader = b.rep.leader ∧ a.rep.rerr = b.rep.rerr ∧ a.rep.roff = b.rep.roff ∧ a.rep.rold = b.rep.rold ∧ (true = true ∧ List.length a.rep.recs = List.length b.rep.recs ∧ contLe (List.length a.rep.recs) (5 : Nat) (cellsOf' encR a.rep.recs) (cellsOf' encR b.rep.recs)) ∧ a.rep.number = b.rep.number ∧ (true = true ∧ List.length a.rep.shards = List.length b.rep.shards ∧ contLe (List.length a.rep.shards) (7 : Nat) (cellsOf' encSh a.rep.shards) (cellsOf' encSh b.rep.shards)) ∧ a.rep.group = b.rep.group ∧ a.rep.index = b.rep.index ∧ a.rep.term = b.rep.term ∧ True
noncomputable def ccH : HintsT Tryd.prog := withSh (hT _) (sh1 13 3 0 779 noSh)
def vcCc (c : Cal) : Prop :=
  (decide ((0 : Nat) + List.length c.val ≤ (9223372036854775807 : Nat)) && decide (((0 : Nat) + List.length c.val) * (1 : Nat) ≤ (140737488355328 : Nat))) = true ∧ (decide ((0 : Nat) + List.length c.adm.nodes ≤ (9223372036854775807 : Nat)) && decide (((0 : Nat) + List.length c.adm.nodes) * (8 : Nat) ≤ (140737488355328 : Nat))) = true ∧ (∀ (k : Nat), k < (0 : Nat) + List.length c.val → ∀ (j : Nat), j < (1 : Nat) → tagT (appRow (0 : Nat) (fun (k j : Nat) => AV.junk) (cellsOf' encB c.val) k j) = true) ∧ (∀ (k : Nat), k < (0 : Nat) + List.length c.adm.nodes → ∀ (j : Nat), j < (1 : Nat) → tagT (appRow (0 : Nat) (fun (k j : Nat) => AV.junk) (cellsOf' encI c.adm.nodes) k j) = true) ∧ (c.kind = c.kind ∧ c.topic = c.topic ∧ c.key = c.key ∧ (true = true ∧ (0 : Nat) + List.length c.val = List.length c.val ∧ contLe ((0 : Nat) + List.length c.val) (1 : Nat) (Ax.rowAt (0 : Nat) (appRow (0 : Nat) (fun (k j : Nat) => AV.junk) (cellsOf' encB c.val))) (cellsOf' encB c.val)) ∧ c.off = c.off ∧ c.most = c.most ∧ c.name = c.name ∧ c.adm.kind = c.adm.kind ∧ c.adm.prod = c.adm.prod ∧ c.adm.seq = c.adm.seq ∧ c.adm.topic = c.adm.topic ∧ (true = true ∧ (0 : Nat) + List.length c.adm.nodes = List.length c.adm.nodes ∧ contLe ((0 : Nat) + List.length c.adm.nodes) (1 : Nat) (Ax.rowAt (0 : Nat) (appRow (0 : Nat) (fun (k j : Nat) => AV.junk) (cellsOf' encI c.adm.nodes))) (cellsOf' encI c.adm.nodes)) ∧ c.adm.group = c.adm.group ∧ c.adm.other = c.adm.other ∧ c.adm.key = c.adm.key ∧ c.adm.fr = c.adm.fr ∧ c.adm.to = c.adm.to ∧ c.adm.plan = c.adm.plan ∧ c.adm.step = c.adm.step ∧ True) ∧ True
set_option maxRecDepth 1000000 in
theorem vcCc_eq (c : Cal) : (ctrVC Tryd.prog ccH 13 [.agg (encCl c)] [] (calR c)) = vcCc c := by kernel_rfl
end Go.Proofs.YtdpbogaldcpfeaaDoor.C

/-! A client's numbers: the conditions, by what it sends. -/
--fold
namespace Go.Proofs.YtdpbogaldcpfeaaDoor.C
open Go.Ax
set_option maxRecDepth 1000000
theorem cc_c (c : Cal) (h : CalOk c) : (calR c).Sat (ACall' Tryd.prog 13 [.agg (encCl c)] []) := by
  refine ctr_vc (ht := ccH) Tryd.mixed rfl ?_
  rw [vcCc_eq c]
  unfold vcCc
  have h1 := h.v
  have h2 := h.n
  have h3 : c.val.length ≤ 9223372036854775807 := by omega
  have h4 : c.adm.nodes.length ≤ 9223372036854775807 := by omega
  simp [h1, h2, h3, h4]
  exact ⟨fun k _ => rfl, fun k _ => rfl⟩
noncomputable def ccC (c : Cal) : Ctr Tryd.prog := ⟨13, [.agg (encCl c)], [], .need (CalOk c) (calR c), T.Sat.need fun h => cc_c c h⟩
def fdCf (a : Clt) (b : Clt) : Prop :=
  a.id = b.id ∧ (true = true ∧ List.length a.servers = List.length b.servers ∧ contLe (List.length a.servers) (1 : Nat) (cellsOf' encI a.servers) (cellsOf' encI b.servers)) ∧ a.prod = b.prod ∧ a.seq = b.seq ∧ (true = true ∧ List.length a.topics = List.length b.topics ∧ contLe (List.length a.topics) (2 : Nat) (Ax.rowAt (0 : Nat) (cellsOf' encTp a.topics)) (cellsOf' encTp b.topics)) ∧ (true = true ∧ List.length a.leaders = List.length b.leaders ∧ contLe (List.length a.leaders) (2 : Nat) (Ax.rowAt (0 : Nat) (cellsOf' encSi a.leaders)) (cellsOf' encSi b.leaders)) ∧ a.busy = b.busy ∧ a.call.kind = b.call.kind ∧ a.call.topic = b.call.topic ∧ a.call.key = b.call.key ∧ (true = true ∧ List.length a.call.val = List.length b.call.val ∧ contLe (List.length a.call.val) (1 : Nat) (cellsOf' encB a.call.val) (cellsOf' encB b.call.val)) ∧ a.call.off = b.call.off ∧ a.call.most = b.call.most ∧ a.call.name = b.call.name ∧ a.call.adm.kind = b.call.adm.kind ∧ a.call.adm.prod = b.call.adm.prod ∧ a.call.adm.seq = b.call.adm.seq ∧ a.call.adm.topic = b.call.adm.topic ∧ (true = true ∧ List.length a.call.adm.nodes = List.length b.call.adm.nodes ∧ contLe (List.length a.call.adm.nodes) (1 : Nat) (cellsOf' encI a.call.adm.nodes) (cellsOf' encI b.call.adm.nodes)) ∧ a.call.adm.group = b.call.adm.group ∧ a.call.adm.other = b.call.adm.other ∧ a.call.adm.key = b.call.adm.key ∧ a.call.adm.fr = b.call.adm.fr ∧ a.call.adm.to = b.call.adm.to ∧ a.call.adm.plan = b.call.adm.plan ∧ a.call.adm.step = b.call.adm.step ∧ a.number = b.number ∧ a.route = b.route ∧ a.group = b.group ∧ a.tries = b.tries ∧ a.waited = b.waited ∧ a.again = b.again ∧ a.at' = b.at' ∧ True
def encRqK (r : Req) (kd : AV) : List AV := [.y (.int .u64 r.id), kd, .y (.int .u64 r.group)] ++ encCm r.part ++ encAd r.adm ++ [.y (.string r.topic)]
def encOuK (o : Out) (sd kd : AV) : List AV := [sd, .y (.int .i64 o.to)] ++ encRqK o.req kd ++ [.y (.bool o.done)] ++ encRp o.rep
def stpK (y : Nod) (e : Int) (sd kd : AV) : T An := .ret (.tup [.agg (encCt (.own 0 2 0 y.c.topics.length) (.own 1 2 0 y.c.leaders.length) y.c), .agg (encOuK y.o sd kd), .y (.int .i64 e)], [rwT y.c.topics, rwS y.c.leaders], [])
structure StK (c : Clt) (i : Inp) (y : Nod) (e : Int) (s : Bool) (kd : Int) : Prop where
  st : StG c i y e
  s : y.o.send = s
  k : y.o.req.kind = kd
def anR (y : Nod) (e : Int) : An := (.tup [.agg (encCt (.own 0 2 0 y.c.topics.length) (.own 1 2 0 y.c.leaders.length) y.c), .agg (encOu y.o), .y (.int .i64 e)], [rwT y.c.topics, rwS y.c.leaders], [])
def anK (y : Nod) (e : Int) (sd kd : AV) : An := (.tup [.agg (encCt (.own 0 2 0 y.c.topics.length) (.own 1 2 0 y.c.leaders.length) y.c), .agg (encOuK y.o sd kd), .y (.int .i64 e)], [rwT y.c.topics, rwS y.c.leaders], [])
def vcAk (y : Nod) (e : Int) (s : Bool) (kd : Int) : Prop :=
  ((y.c.id = y.c.id ∧ (true = true ∧ List.length y.c.servers = List.length y.c.servers ∧ contLe (List.length y.c.servers) (1 : Nat) (cellsOf' encI y.c.servers) (cellsOf' encI y.c.servers)) ∧ y.c.prod = y.c.prod ∧ y.c.seq = y.c.seq ∧ ((0 : Nat) = (0 : Nat) ∧ List.length y.c.topics = List.length y.c.topics) ∧ ((0 : Nat) = (0 : Nat) ∧ List.length y.c.leaders = List.length y.c.leaders) ∧ y.c.busy = y.c.busy ∧ y.c.call.kind = y.c.call.kind ∧ y.c.call.topic = y.c.call.topic ∧ y.c.call.key = y.c.call.key ∧ (true = true ∧ List.length y.c.call.val = List.length y.c.call.val ∧ contLe (List.length y.c.call.val) (1 : Nat) (cellsOf' encB y.c.call.val) (cellsOf' encB y.c.call.val)) ∧ y.c.call.off = y.c.call.off ∧ y.c.call.most = y.c.call.most ∧ y.c.call.name = y.c.call.name ∧ y.c.call.adm.kind = y.c.call.adm.kind ∧ y.c.call.adm.prod = y.c.call.adm.prod ∧ y.c.call.adm.seq = y.c.call.adm.seq ∧ y.c.call.adm.topic = y.c.call.adm.topic ∧ (true = true ∧ List.length y.c.call.adm.nodes = List.length y.c.call.adm.nodes ∧ contLe (List.length y.c.call.adm.nodes) (1 : Nat) (cellsOf' encI y.c.call.adm.nodes) (cellsOf' encI y.c.call.adm.nodes)) ∧ y.c.call.adm.group = y.c.call.adm.group ∧ y.c.call.adm.other = y.c.call.adm.other ∧ y.c.call.adm.key = y.c.call.adm.key ∧ y.c.call.adm.fr = y.c.call.adm.fr ∧ y.c.call.adm.to = y.c.call.adm.to ∧ y.c.call.adm.plan = y.c.call.adm.plan ∧ y.c.call.adm.step = y.c.call.adm.step ∧ y.c.number = y.c.number ∧ y.c.route = y.c.route ∧ y.c.group = y.c.group ∧ y.c.tries = y.c.tries ∧ y.c.waited = y.c.waited ∧ y.c.again = y.c.again ∧ y.c.at' = y.c.at' ∧ True) ∧ (y.o.send = s ∧ y.o.to = y.o.to ∧ y.o.req.id = y.o.req.id ∧ y.o.req.kind = kd ∧ y.o.req.group = y.o.req.group ∧ y.o.req.part.kind = y.o.req.part.kind ∧ y.o.req.part.epoch = y.o.req.part.epoch ∧ y.o.req.part.prod = y.o.req.part.prod ∧ y.o.req.part.seq = y.o.req.part.seq ∧ y.o.req.part.key = y.o.req.part.key ∧ (true = true ∧ List.length y.o.req.part.val = List.length y.o.req.part.val ∧ contLe (List.length y.o.req.part.val) (1 : Nat) (cellsOf' encB y.o.req.part.val) (cellsOf' encB y.o.req.part.val)) ∧ y.o.req.part.off = y.o.req.part.off ∧ y.o.req.part.most = y.o.req.part.most ∧ y.o.req.part.name = y.o.req.part.name ∧ y.o.req.part.plan = y.o.req.part.plan ∧ y.o.req.adm.kind = y.o.req.adm.kind ∧ y.o.req.adm.prod = y.o.req.adm.prod ∧ y.o.req.adm.seq = y.o.req.adm.seq ∧ y.o.req.adm.topic = y.o.req.adm.topic ∧ (true = true ∧ List.length y.o.req.adm.nodes = List.length y.o.req.adm.nodes ∧ contLe (List.length y.o.req.adm.nodes) (1 : Nat) (cellsOf' encI y.o.req.adm.nodes) (cellsOf' encI y.o.req.adm.nodes)) ∧ y.o.req.adm.group = y.o.req.adm.group ∧ y.o.req.adm.other = y.o.req.adm.other ∧ y.o.req.adm.key = y.o.req.adm.key ∧ y.o.req.adm.fr = y.o.req.adm.fr ∧ y.o.req.adm.to = y.o.req.adm.to ∧ y.o.req.adm.plan = y.o.req.adm.plan ∧ y.o.req.adm.step = y.o.req.adm.step ∧ y.o.req.topic = y.o.req.topic ∧ y.o.done = y.o.done ∧ y.o.rep.id = y.o.rep.id ∧ y.o.rep.err = y.o.rep.err ∧ y.o.rep.leader = y.o.rep.leader ∧ y.o.rep.rerr = y.o.rep.rerr ∧ y.o.rep.roff = y.o.rep.roff ∧ y.o.rep.rold = y.o.rep.rold ∧ (true = true ∧ List.length y.o.rep.recs = List.length y.o.rep.recs ∧ contLe (List.length y.o.rep.recs) (5 : Nat) (cellsOf' encR y.o.rep.recs) (cellsOf' encR y.o.rep.recs)) ∧ y.o.rep.number = y.o.rep.number ∧ (true = true ∧ List.length y.o.rep.shards = List.length y.o.rep.shards ∧ contLe (List.length y.o.rep.shards) (7 : Nat) (cellsOf' encSh y.o.rep.shards) (cellsOf' encSh y.o.rep.shards)) ∧ y.o.rep.group = y.o.rep.group ∧ y.o.rep.index = y.o.rep.index ∧ y.o.rep.term = y.o.rep.term ∧ True) ∧ e = e ∧ True) ∧ (List.length y.c.topics = List.length y.c.topics ∧ contLe (List.length y.c.topics) (2 : Nat) (cellsOf' encTp y.c.topics) (cellsOf' encTp y.c.topics)) ∧ (List.length y.c.leaders = List.length y.c.leaders ∧ contLe (List.length y.c.leaders) (2 : Nat) (cellsOf' encSi y.c.leaders) (cellsOf' encSi y.c.leaders)) ∧ True
set_option maxRecDepth 1000000 in
theorem vcAk_eq (y : Nod) (e : Int) (s : Bool) (kd : Int) : (anLe (anR y e) (anK y e (.s (.bool s)) (.s (.int .i64 kd)))) = vcAk y e s kd := by kernel_rfl
theorem stk_c (c : Clt) (i : Inp) (y : Nod) (e : Int) (s : Bool) (kd : Int) (h : StK c i y e s kd) : (stpK y e (.s (.bool s)) (.s (.int .i64 kd))).Sat (ACall' Tryd.prog 12 [.agg (encC0 true c), .agg (encIn i)] []) := by
  obtain ⟨h1, h2, h3⟩ := h
  have h4 : (T.ret (anR y e) : T An).Sat (ACall' Tryd.prog 12 [.agg (encC0 true c), .agg (encIn i)] []) := stg_c true c i y e h1
  have h5 : ACall' Tryd.prog 12 [.agg (encC0 true c), .agg (encIn i)] [] (anK y e (.s (.bool s)) (.s (.int .i64 kd))) := by
    refine anLe_ok (of_ret h4) ?_
    rw [vcAk_eq y e s kd]
    unfold vcAk
    simp [h2, h3]
  exact T.Sat.ret h5
noncomputable def stK (c : Clt) (i : Inp) (y : Nod) (e : Int) (s : Bool) (kd : Int) : Ctr Tryd.prog := ⟨12, [.agg (encC0 true c), .agg (encIn i)], [], .need (StK c i y e s kd) (stpK y e (.s (.bool s)) (.s (.int .i64 kd))), T.Sat.need fun h => stk_c c i y e s kd h⟩
def encInsR (l : List Inp) : AV := .ys true 32 l.length (cellsOf' encIn l)
/-- the client, what is under way, whether it changes anything, the number -/
structure RuS where
  c : Clt
  now : Cal
  u : Bool
  q : Int
def chg (k : Int) : Bool := k == 1 || (k == 3 || k == 5)
structure RuI (m : Nat) (s : RuS) : Prop where
  iv : Inv m s.c
  pr : s.c.prod = 9
  sq : s.c.seq = s.q
  bu : s.c.busy = true → s.now = s.c.call ∧ s.u = chg s.c.call.kind
  nb : s.c.busy = false → s.u = false
  kr : s.c.busy = true → 1 ≤ s.c.call.kind ∧ s.c.call.kind ≤ 6
structure RI (l : List Inp) where
  k : Nat
  s : RuS
  kl : k ≤ l.length
  e : RuI k s
def ruT (l : List Inp) (q : RI l) : List AV := mkT 197 [(2, encInsR l), (8, .ptr 0 0 0 0), (10, .y (.int .u64 q.s.q)), (11, .y (.bool q.s.u)), (12, .ptr 1 0 0 0), (13, .y (.int .i64 q.k))]
def ruM (s : RuS) : List Blk := [.box 35 (encC0 true s.c), .box 33 (encCl s.now)]
def ruS (_ : Unit) : Exit × List AV × List Blk := (.exit 0, mkT 197 [], [])
noncomputable def ruH (c : Clt) (i : Inp) (y : Nod) (e : Int) (s : Bool) (kd : Int) : HintsT Tryd.prog := withSh (hh _ noLp (cs1 4 12 5 (stK c i y e s kd) (cs1 4 16 5 (ccC i.call) noCs)) noOp) (sh1 4 31 0 779 noSh)
def vcRu0_q5 (l : List Inp) : Prop := (true = true ∧ List.length l = List.length l ∧ contLe (List.length l) (32 : Nat) (cellsOf' encIn l) (cellsOf' encIn l))
def vcRu0_q1 (l : List Inp) (y : Nod) (q : RI l) : Prop := (y.o.done = true → ((y.c.seq != IntKind.wrap IntKind.u64 (q.s.q + (1 : Int))) = true → False) ∧ ((y.c.seq != IntKind.wrap IntKind.u64 (q.s.q + (1 : Int))) = false → (∀ (k : Nat), k < List.length y.c.topics → ∀ (j : Nat), j < (2 : Nat) → tagT (cellsOf' encTp y.c.topics k j) = true) ∧ (∀ (k : Nat), k < List.length y.c.leaders → ∀ (j : Nat), j < (2 : Nat) → tagT (cellsOf' encSi y.c.leaders k j) = true) ∧ ∃ (j : RI l), List.length l - j.k < List.length l - q.k ∧ (((vcRu0_q5 l) ∧ ((0 : Nat) = (0 : Nat) ∧ (0 : Nat) = (0 : Nat)) ∧ IntKind.wrap IntKind.u64 (q.s.q + (1 : Int)) = j.s.q ∧ false = j.s.u ∧ ((0 : Nat) = (0 : Nat) ∧ (0 : Nat) = (0 : Nat)) ∧ IntKind.wrap IntKind.i64 ((↑q.k : Int) + (1 : Int)) = (↑j.k : Int) ∧ True) ∧ ((fdCf y.c j.s.c) ∧ (fdCl (List.getD l q.k (@default Inp instInhabitedInp)).call j.s.now) ∧ True) ∧ true = true) ∧ true = true ∧ () = ()))
def vcRu0_q2 (l : List Inp) (y : Nod) (q : RI l) : Prop := (y.o.done = false → ((y.c.seq != IntKind.wrap IntKind.u64 (q.s.q + (1 : Int))) = true → False) ∧ ((y.c.seq != IntKind.wrap IntKind.u64 (q.s.q + (1 : Int))) = false → (∀ (k : Nat), k < List.length y.c.topics → ∀ (j : Nat), j < (2 : Nat) → tagT (cellsOf' encTp y.c.topics k j) = true) ∧ (∀ (k : Nat), k < List.length y.c.leaders → ∀ (j : Nat), j < (2 : Nat) → tagT (cellsOf' encSi y.c.leaders k j) = true) ∧ ∃ (j : RI l), List.length l - j.k < List.length l - q.k ∧ (((vcRu0_q5 l) ∧ ((0 : Nat) = (0 : Nat) ∧ (0 : Nat) = (0 : Nat)) ∧ IntKind.wrap IntKind.u64 (q.s.q + (1 : Int)) = j.s.q ∧ true = j.s.u ∧ ((0 : Nat) = (0 : Nat) ∧ (0 : Nat) = (0 : Nat)) ∧ IntKind.wrap IntKind.i64 ((↑q.k : Int) + (1 : Int)) = (↑j.k : Int) ∧ True) ∧ ((fdCf y.c j.s.c) ∧ (fdCl (List.getD l q.k (@default Inp instInhabitedInp)).call j.s.now) ∧ True) ∧ true = true) ∧ true = true ∧ () = ()))
def vcRu0_q3 (l : List Inp) (y : Nod) (q : RI l) : Prop := (y.o.done = false → ((y.c.seq != q.s.q) = true → False) ∧ ((y.c.seq != q.s.q) = false → (∀ (k : Nat), k < List.length y.c.topics → ∀ (j : Nat), j < (2 : Nat) → tagT (cellsOf' encTp y.c.topics k j) = true) ∧ (∀ (k : Nat), k < List.length y.c.leaders → ∀ (j : Nat), j < (2 : Nat) → tagT (cellsOf' encSi y.c.leaders k j) = true) ∧ ∃ (j : RI l), List.length l - j.k < List.length l - q.k ∧ (((vcRu0_q5 l) ∧ ((0 : Nat) = (0 : Nat) ∧ (0 : Nat) = (0 : Nat)) ∧ q.s.q = j.s.q ∧ q.s.u = j.s.u ∧ ((0 : Nat) = (0 : Nat) ∧ (0 : Nat) = (0 : Nat)) ∧ IntKind.wrap IntKind.i64 ((↑q.k : Int) + (1 : Int)) = (↑j.k : Int) ∧ True) ∧ ((fdCf y.c j.s.c) ∧ (fdCl q.s.now j.s.now) ∧ True) ∧ true = true) ∧ true = true ∧ () = ()))
def vcRu0_q4 (l : List Inp) (y : Nod) (q : RI l) : Prop := (y.o.done = true → ((y.c.seq != q.s.q) = true → False) ∧ ((y.c.seq != q.s.q) = false → (∀ (k : Nat), k < List.length y.c.topics → ∀ (j : Nat), j < (2 : Nat) → tagT (cellsOf' encTp y.c.topics k j) = true) ∧ (∀ (k : Nat), k < List.length y.c.leaders → ∀ (j : Nat), j < (2 : Nat) → tagT (cellsOf' encSi y.c.leaders k j) = true) ∧ ∃ (j : RI l), List.length l - j.k < List.length l - q.k ∧ (((vcRu0_q5 l) ∧ ((0 : Nat) = (0 : Nat) ∧ (0 : Nat) = (0 : Nat)) ∧ q.s.q = j.s.q ∧ false = j.s.u ∧ ((0 : Nat) = (0 : Nat) ∧ (0 : Nat) = (0 : Nat)) ∧ IntKind.wrap IntKind.i64 ((↑q.k : Int) + (1 : Int)) = (↑j.k : Int) ∧ True) ∧ ((fdCf y.c j.s.c) ∧ (fdCl q.s.now j.s.now) ∧ True) ∧ true = true) ∧ true = true ∧ () = ()))
def vcRu0 (l : List Inp) (y : Nod) (e : Int) (q : RI l) (kd : Int) : Prop :=
  (decide ((↑q.k : Int) < (↑(List.length l) : Int)) = true → (true && decide ((↑q.k : Int) < (↑(List.length l) : Int))) = true ∧ ((fdC1 q.s.c q.s.c) ∧ (fdIn (List.getD l (Int.toNat (↑q.k : Int)) (@default Inp instInhabitedInp)) (List.getD l q.k (@default Inp instInhabitedInp))) ∧ True) ∧ True ∧ StK q.s.c (List.getD l q.k (@default Inp instInhabitedInp)) y e false kd ∧ (true && decide ((↑q.k : Int) < (↑(List.length l) : Int))) = true ∧ (((List.getD l (Int.toNat (↑q.k : Int)) (@default Inp instInhabitedInp)).kind == (1 : Int)) = true → ((e == (0 : Int)) = true → (q.s.c.busy = true → False) ∧ (q.s.c.busy = false → (true && decide ((↑q.k : Int) < (↑(List.length l) : Int))) = true ∧ ((fdCl (List.getD l (Int.toNat (↑q.k : Int)) (@default Inp instInhabitedInp)).call (List.getD l q.k (@default Inp instInhabitedInp)).call) ∧ True) ∧ True ∧ CalOk (List.getD l q.k (@default Inp instInhabitedInp)).call ∧ (((List.getD l q.k (@default Inp instInhabitedInp)).call.kind == (1 : Int)) = true → (vcRu0_q1 l y q) ∧ (vcRu0_q2 l y q)) ∧ (((List.getD l q.k (@default Inp instInhabitedInp)).call.kind == (1 : Int)) = false → (((List.getD l q.k (@default Inp instInhabitedInp)).call.kind == (3 : Int)) = true → (vcRu0_q1 l y q) ∧ (vcRu0_q2 l y q)) ∧ (((List.getD l q.k (@default Inp instInhabitedInp)).call.kind == (3 : Int)) = false → (((List.getD l q.k (@default Inp instInhabitedInp)).call.kind == (5 : Int)) = true → (vcRu0_q1 l y q) ∧ (y.o.done = false → ((y.c.seq != IntKind.wrap IntKind.u64 (q.s.q + (1 : Int))) = true → False) ∧ ((y.c.seq != IntKind.wrap IntKind.u64 (q.s.q + (1 : Int))) = false → (∀ (k : Nat), k < List.length y.c.topics → ∀ (j : Nat), j < (2 : Nat) → tagT (cellsOf' encTp y.c.topics k j) = true) ∧ (∀ (k : Nat), k < List.length y.c.leaders → ∀ (j : Nat), j < (2 : Nat) → tagT (cellsOf' encSi y.c.leaders k j) = true) ∧ ∃ (j : RI l), List.length l - j.k < List.length l - q.k ∧ (((vcRu0_q5 l) ∧ ((0 : Nat) = (0 : Nat) ∧ (0 : Nat) = (0 : Nat)) ∧ IntKind.wrap IntKind.u64 (q.s.q + (1 : Int)) = j.s.q ∧ ((List.getD l q.k (@default Inp instInhabitedInp)).call.kind == (5 : Int)) = j.s.u ∧ ((0 : Nat) = (0 : Nat) ∧ (0 : Nat) = (0 : Nat)) ∧ IntKind.wrap IntKind.i64 ((↑q.k : Int) + (1 : Int)) = (↑j.k : Int) ∧ True) ∧ ((fdCf y.c j.s.c) ∧ (fdCl (List.getD l q.k (@default Inp instInhabitedInp)).call j.s.now) ∧ True) ∧ true = true) ∧ true = true ∧ () = ()))) ∧ (((List.getD l q.k (@default Inp instInhabitedInp)).call.kind == (5 : Int)) = false → (y.o.done = true → ((y.c.seq != q.s.q) = true → False) ∧ ((y.c.seq != q.s.q) = false → (∀ (k : Nat), k < List.length y.c.topics → ∀ (j : Nat), j < (2 : Nat) → tagT (cellsOf' encTp y.c.topics k j) = true) ∧ (∀ (k : Nat), k < List.length y.c.leaders → ∀ (j : Nat), j < (2 : Nat) → tagT (cellsOf' encSi y.c.leaders k j) = true) ∧ ∃ (j : RI l), List.length l - j.k < List.length l - q.k ∧ (((vcRu0_q5 l) ∧ ((0 : Nat) = (0 : Nat) ∧ (0 : Nat) = (0 : Nat)) ∧ q.s.q = j.s.q ∧ false = j.s.u ∧ ((0 : Nat) = (0 : Nat) ∧ (0 : Nat) = (0 : Nat)) ∧ IntKind.wrap IntKind.i64 ((↑q.k : Int) + (1 : Int)) = (↑j.k : Int) ∧ True) ∧ ((fdCf y.c j.s.c) ∧ (fdCl (List.getD l q.k (@default Inp instInhabitedInp)).call j.s.now) ∧ True) ∧ true = true) ∧ true = true ∧ () = ())) ∧ (y.o.done = false → ((y.c.seq != q.s.q) = true → False) ∧ ((y.c.seq != q.s.q) = false → (∀ (k : Nat), k < List.length y.c.topics → ∀ (j : Nat), j < (2 : Nat) → tagT (cellsOf' encTp y.c.topics k j) = true) ∧ (∀ (k : Nat), k < List.length y.c.leaders → ∀ (j : Nat), j < (2 : Nat) → tagT (cellsOf' encSi y.c.leaders k j) = true) ∧ ∃ (j : RI l), List.length l - j.k < List.length l - q.k ∧ (((vcRu0_q5 l) ∧ ((0 : Nat) = (0 : Nat) ∧ (0 : Nat) = (0 : Nat)) ∧ q.s.q = j.s.q ∧ ((List.getD l q.k (@default Inp instInhabitedInp)).call.kind == (5 : Int)) = j.s.u ∧ ((0 : Nat) = (0 : Nat) ∧ (0 : Nat) = (0 : Nat)) ∧ IntKind.wrap IntKind.i64 ((↑q.k : Int) + (1 : Int)) = (↑j.k : Int) ∧ True) ∧ ((fdCf y.c j.s.c) ∧ (fdCl (List.getD l q.k (@default Inp instInhabitedInp)).call j.s.now) ∧ True) ∧ true = true) ∧ true = true ∧ () = ()))))))) ∧ ((e == (0 : Int)) = false → (vcRu0_q4 l y q) ∧ (vcRu0_q3 l y q))) ∧ (((List.getD l (Int.toNat (↑q.k : Int)) (@default Inp instInhabitedInp)).kind == (1 : Int)) = false → (vcRu0_q4 l y q) ∧ (vcRu0_q3 l y q))) ∧ (decide ((↑q.k : Int) < (↑(List.length l) : Int)) = false → True ∧ True ∧ true = true)
set_option maxRecDepth 1000000 in
theorem vcRu0_eq (l : List Inp) (y : Nod) (e : Int) (q : RI l) (kd : Int) : (loopVC Tryd.prog (ruH q.s.c (l.getD q.k default) y e false kd) 4 9 (fun q => l.length - q.k) (ruT l) (fun q => ruM q.s) [0, 1, 2, 3, 4, 5, 6, 7, 8, 9, 10, 11, 12] (fun _ => .ret ()) ruS q) = vcRu0 l y e q kd := by kernel_rfl
end Go.Proofs.YtdpbogaldcpfeaaDoor.C
