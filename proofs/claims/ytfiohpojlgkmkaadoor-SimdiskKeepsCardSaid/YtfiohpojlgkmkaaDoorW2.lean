import Derived.KernelRfl
import Derived.Test.YtfiohpojlgkmkaaDoorE12
import Derived.Test.YtfiohpojlgkmkaaDoorW1
set_option linter.unusedVariables false
set_option linter.unusedSimpArgs false
set_option linter.unusedSectionVars false
namespace Go.Proofs.YtfiohpojlgkmkaaDoor.O
open Go.Ax Go.Maps
set_option maxRecDepth 1000000
structure FOk (x : Fil) : Prop where
  l : 0 ≤ x.syn
  u : x.syn ≤ x.b.length
  m : x.b.length ≤ 140737488355328
theorem mx0_nn (k : Int) : 0 ≤ mx0 k := by unfold mx0; split <;> omega
theorem crN_le {x : Fil} (h : FOk x) (k : Int) : crN x k ≤ x.b.length := by
  have h1 := h.l
  have h2 := h.u
  have h3 := mx0_nn k
  unfold crN
  split <;> omega
theorem crF_ok {x : Fil} (h : FOk x) (k : Int) : FOk (crF x k) := by
  have := crN_le h k
  have hm := h.m
  refine ⟨?_, ?_, ?_⟩ <;> simp only [crF, List.length_take] <;> omega
theorem crF_len {x : Fil} (h : FOk x) (k : Int) : (crF x k).b.length = crN x k := by
  have := crN_le h k
  simp only [crF, List.length_take]; omega
theorem crS_has (d : Dsk) (ks : List ByteArray) (keep : List Int) : ∀ i, (crS d ks keep i).has = d.has ∧ (crS d ks keep i).n = d.n
  | 0 => ⟨rfl, rfl⟩
  | i + 1 => crS_has d ks keep i
theorem crS_ok {d : Dsk} {ks : List ByteArray} {keep : List Int} (h : ∀ s, d.has s = true → FOk (d.f s)) (hs : Srt ks d.has) : ∀ i, i ≤ ks.length → ∀ s, d.has s = true → FOk ((crS d ks keep i).f s)
  | 0, _ => h
  | i + 1, hi => fun s hsd => by
    have ih := crS_ok (keep := keep) h hs i (by omega)
    have hk : d.has (ks.getD i default) = true := (hs.mem _).2 (by rw [List.getD_eq_getElem?_getD, List.getElem?_eq_getElem (by omega)]; exact List.getElem_mem _)
    show FOk (if s = ks.getD i default then crF ((crS d ks keep i).f (ks.getD i default)) (kvA keep i) else (crS d ks keep i).f s)
    split
    · exact crF_ok (ih _ hk) _
    · exact ih s hsd
theorem takeB_le {l : List Int} {m : Nat} : contLe m 1 (cellsOf' encB l) (cellsOf' encB (l.take m)) := by
  intro k hk j _
  unfold cellsOf'
  simp [List.getElem?_take, hk]
def crX (d : Dsk) (ks : List ByteArray) (keep : List Int) (k : Nat) : Dsk := crS d ks keep (min k ks.length)
theorem cr_loop (b : Bool) (d : Dsk) (ks : List ByteArray) (keep : List Int) (h : ∀ s, d.has s = true → FOk (d.f s)) (hs : Srt ks d.has) (hn : ks.length ≤ 140737488355328) (k : Nat) : LoopOk Tryd.prog 10 2 (loopAt Tryd.prog 10 2) ⟨crT b ks keep k, dkM (crX d ks keep k), []⟩ ((T.ret ()).map (lout jM (crO (crX d ks keep ks.length)))) := by
  refine loop_vcH Tryd.mixed (fun _ => rfl) (ht := fun k => crLH (crF ((crS d ks keep k).f (ks.getD k default)) (kvA keep k)).b) (μ := fun k => ks.length - k) (stT := crT b ks keep) (stM := fun k => dkM (crX d ks keep k)) (X := jM) (o := fun _ => .ret ()) (S := crO (crX d ks keep ks.length)) (fun k => (vcCrL_eq b (crX d ks keep) ks keep (crF ((crS d ks keep k).f (ks.getD k default)) (kvA keep k)).b k).mpr ?_) k
  unfold vcCrL
  simp only [Int.toNat_natCast]
  refine ⟨fun hk => ?_, fun hk => ?_⟩
  · have hk : k < ks.length := by simpa using hk
    have x1 : crX d ks keep k = crS d ks keep k := by unfold crX; rw [Nat.min_eq_left (by omega)]
    have x2 : crX d ks keep (k + 1) = crS d ks keep (k + 1) := by unfold crX; rw [Nat.min_eq_left (by omega)]
    rw [x1]
    have hks : d.has (ks.getD k default) = true := (hs.mem _).2 (by rw [List.getD_eq_getElem?_getD, List.getElem?_eq_getElem hk]; exact List.getElem_mem _)
    have hf := crS_ok (keep := keep) h hs k (by omega) _ hks
    have hh := (crS_has d ks keep k).1
    have hx : (crS d ks keep (k + 1)) = { crS d ks keep k with f := fun x => if x = ks.getD k default then crF ((crS d ks keep k).f (ks.getD k default)) (kvA keep k) else (crS d ks keep k).f x, used := IntKind.i64.wrap ((crS d ks keep k).used + (crF ((crS d ks keep k).f (ks.getD k default)) (kvA keep k)).b.length) } := rfl
    have hks2 : (crS d ks keep k).has (ks.getD k default) = true := by rw [hh]; exact hks
    have hl := crF_len hf (kvA keep k)
    have hle := crN_le hf (kvA keep k)
    have hw := hf.l
    have hw2 := hf.u
    have hw3 := hf.m
    generalize ks.getD k default = s at *
    generalize hy : crS d ks keep k = y at *
    have e1 : IntKind.i64.wrap (((y.f s).b.length : Int) - (y.f s).syn) = ((y.f s).b.length : Int) - (y.f s).syn := wrap_i64 (by omega) (by omega)
    have key : ∀ kv : Int, kv = kvA keep k → IntKind.i64.wrap ((y.f s).syn + if ((y.f s).b.length : Int) - (y.f s).syn < (if 0 > kv then 0 else kv) then ((y.f s).b.length : Int) - (y.f s).syn else if 0 > kv then 0 else kv) = (crN (y.f s) (kvA keep k) : Int) := by
      rintro kv rfl
      have := mx0_nn (kvA keep k)
      unfold mx0 at this
      unfold crN mx0
      rw [wrap_i64]
      all_goals (split <;> omega)
    have hb : (crF (y.f s) (kvA keep k)).b = (y.f s).b.take (crN (y.f s) (kvA keep k)) := rfl
    have hsyn : (crF (y.f s) (kvA keep k)).syn = (crN (y.f s) (kvA keep k) : Int) := rfl
    have tk := takeB_le (l := (y.f s).b) (m := crN (y.f s) (kvA keep k))
    rw [← hb] at tk
    rw [e1]
    refine ⟨by simpa using hk, fun hkk => ⟨by simpa using hkk, fun _ => ?_, fun hq => by rw [hks2] at hq; cases hq⟩, fun hkk => ⟨fun _ => ?_, fun hq => by rw [hks2] at hq; cases hq⟩⟩
    · have e2 : keep.getD k 0 = kvA keep k := by
        have : k < keep.length := by simpa using hkk
        simp [kvA, this]
      rw [key _ e2]
      generalize kvA keep k = kv at *
      generalize crF (y.f s) kv = v at *
      generalize crN (y.f s) kv = m at *
      have hl2 := hl
      simp [hl, hsyn]
      refine ⟨hle, tk, by omega, fun _ _ => rfl, ?_⟩
      refine Exists.intro (k + 1) ?_
      rw [x2, hx]
      simp +contextual [hl, hsyn]
      exact ⟨by omega, wrap_i64 (by omega) (by omega)⟩
    · have e2 : (0 : Int) = kvA keep k := by
        have : ¬k < keep.length := by simpa using hkk
        simp [kvA, this]
      have e3 := key _ e2
      simp only [show ¬((0 : Int) > 0) by omega, if_false] at e3
      rw [e3]
      generalize kvA keep k = kv at *
      generalize crF (y.f s) kv = v at *
      generalize crN (y.f s) kv = m at *
      simp [hl, hsyn]
      refine ⟨hle, tk, by omega, fun _ _ => rfl, ?_⟩
      refine Exists.intro (k + 1) ?_
      rw [x2, hx]
      simp +contextual [hl, hsyn]
      exact ⟨by omega, wrap_i64 (by omega) (by omega)⟩
  · have : ¬k < ks.length := by simpa using hk
    have e : crX d ks keep k = crX d ks keep ks.length := by unfold crX; rw [Nat.min_eq_right (by omega), Nat.min_self]
    rw [e]
    simp
def crD (d : Dsk) (ks : List ByteArray) (keep : List Int) : Dsk := { crS d ks keep ks.length with down := false, trip := -1, fail := -1 }
theorem cr_c (b : Bool) (d : Dsk) (ks : List ByteArray) (keep : List Int) (h : ∀ s, d.has s = true → FOk (d.f s)) (hs : SrtOk ks d.has d.n) : (T.ret (.tup [], dkM (crD d ks keep), jM) : T An).Sat (ACall' Tryd.prog 10 [.ptr 0 0 0 0, encIs b keep] (dkM d)) := by
  have e0 : crX d ks keep ks.length = crS d ks keep ks.length := by unfold crX; rw [Nat.min_self]
  have hlp := cr_loop b d ks keep h hs.srt (by have := hs.bnd; have := hs.len; omega) 0
  have e1 : crX d ks keep 0 = { d with used := 0 } := by unfold crX; rw [Nat.zero_min]; rfl
  unfold crD
  rw [← e0]
  refine ctr_vc (ht := crH b d (crX d ks keep) ks keep) Tryd.mixed rfl ?_
  rw [vcCr_eq b d (crX d ks keep) ks keep]
  unfold vcCr
  rw [e1] at hlp
  have hs2 : SrtOk ks ({ d with used := 0 } : Dsk).has ({ d with used := 0 } : Dsk).n := hs
  simp [e1, hlp, hs]
noncomputable def crC (b : Bool) (d : Dsk) (ks : List ByteArray) (keep : List Int) : Ctr Tryd.prog := ⟨10, [.ptr 0 0 0 0, encIs b keep], dkM d, .need (∀ s, d.has s = true → FOk (d.f s)) (.need (SrtOk ks d.has d.n) (.ret (.tup [], dkM (crD d ks keep), jM))), T.Sat.need fun h1 => T.Sat.need fun h2 => cr_c b d ks keep h1 h2⟩
end Go.Proofs.YtfiohpojlgkmkaaDoor.O

namespace Go.Proofs.YtfiohpojlgkmkaaDoor.O
open Go.Ax Go.Maps
set_option maxRecDepth 1000000
def tot (f : ByteArray → Fil) (L : List ByteArray) : Nat := (L.map fun s => (f s).b.length).sum
structure Cov (d : Dsk) (L : List ByteArray) : Prop where
  nd : L.Nodup
  mem : ∀ x, d.has x = true ↔ x ∈ L
  len : L.length = d.n
  sum : (tot d.f L : Int) = d.used
theorem srt_of {has : ByteArray → Bool} {L : List ByteArray} (nd : L.Nodup) (mem : ∀ x, has x = true ↔ x ∈ L) : ∃ ks, Srt ks has ∧ ks.Perm L := by
  let le : ByteArray → ByteArray → Bool := fun a b => decide (bl a ≤ bl b)
  have tr : ∀ a b c : ByteArray, le a b = true → le b c = true → le a c = true := fun a b c h1 h2 => by
    simp only [le, decide_eq_true_eq] at *; exact List.le_trans h1 h2
  have tt : ∀ a b : ByteArray, (le a b || le b a) = true := fun a b => by
    simp only [le, Bool.or_eq_true, decide_eq_true_eq]; exact List.le_total _ _
  have hp := List.mergeSort_perm L le
  have hs := List.pairwise_mergeSort tr tt L
  have hnd : (L.mergeSort le).Nodup := hp.symm.nodup nd
  refine ⟨L.mergeSort le, ⟨?_, fun x => by rw [mem x]; exact hp.mem_iff.symm⟩, hp⟩
  rw [List.nodup_iff_pairwise_ne] at hnd
  refine (hs.and hnd).imp fun {a b} h => ?_
  have h1 : bl a ≤ bl b := by simpa [le] using h.1
  rcases List.le_iff_lt_or_eq.1 h1 with h2 | h2
  · exact h2
  · exact absurd (bl_inj h2) h.2
theorem Srt.nd {ks : List ByteArray} {has : ByteArray → Bool} (h : Srt ks has) : ks.Nodup := by
  rw [List.nodup_iff_pairwise_ne]
  refine h.so.imp fun {a b} hab e => ?_
  subst e
  exact absurd hab (List.lt_irrefl _)
theorem tot_perm {f : ByteArray → Fil} {L L' : List ByteArray} (h : L.Perm L') : tot f L = tot f L' := (h.map _).sum_nat
theorem tot_cons (f : ByteArray → Fil) (s : ByteArray) (L : List ByteArray) : tot f (s :: L) = (f s).b.length + tot f L := by simp [tot]
theorem tot_congr {f g : ByteArray → Fil} : ∀ {L : List ByteArray}, (∀ x ∈ L, (f x).b.length = (g x).b.length) → tot f L = tot g L
  | [], _ => rfl
  | a :: L, h => by
    rw [tot_cons, tot_cons, h a (by simp), tot_congr fun x hx => h x (List.mem_cons_of_mem _ hx)]
def ers (s : ByteArray) (L : List ByteArray) : List ByteArray := L.filter fun x => decide (x ≠ s)
theorem mem_ers {s x : ByteArray} {L : List ByteArray} : x ∈ ers s L ↔ x ≠ s ∧ x ∈ L := by
  unfold ers
  rw [List.mem_filter, decide_eq_true_eq]
  exact And.comm
theorem nd_ers {s : ByteArray} {L : List ByteArray} (h : L.Nodup) : (ers s L).Nodup := List.filter_sublist.nodup h
theorem not_mem_erase (L : List ByteArray) (s : ByteArray) : s ∉ ers s L := fun hx => (mem_ers.1 hx).1 rfl
theorem perm_ers {s : ByteArray} {L : List ByteArray} (h : L.Nodup) (hs : s ∈ L) : L.Perm (s :: ers s L) := by
  refine (List.perm_ext_iff_of_nodup h (List.nodup_cons.2 ⟨not_mem_erase L s, nd_ers h⟩)).2 fun x => ?_
  rw [List.mem_cons, mem_ers]
  by_cases e : x = s
  · subst e; simp [hs]
  · simp [e]
theorem tot_mem {f : ByteArray → Fil} {L : List ByteArray} {s : ByteArray} (hn : L.Nodup) (h : s ∈ L) : tot f L = (f s).b.length + tot f (ers s L) := by
  rw [tot_perm (perm_ers hn h), tot_cons]
theorem Cov.tick {d : Dsk} {L : List ByteArray} (h : Cov d L) : Cov d.tick L := ⟨h.nd, h.mem, h.len, h.sum⟩
theorem Cov.fld {d : Dsk} {L : List ByteArray} (h : Cov d L) : Cov d.fld L := ⟨h.nd, h.mem, h.len, h.sum⟩
theorem Cov.put_t {d : Dsk} {L : List ByteArray} {s : ByteArray} {v : Fil} {u : Int} (h : Cov d L) (hs : d.has s = true) (hu : u = d.used - (d.f s).b.length + v.b.length) : Cov { d.put s v with used := u } L where
  nd := h.nd
  mem := fun x => by
    show updBs d.has s x = true ↔ _
    rw [updBs_same hs]; exact h.mem x
  len := by show _ = (if d.has s then d.n else d.n + 1); rw [if_pos hs]; exact h.len
  sum := by
    have hm := (h.mem s).1 hs
    have h1 := h.sum
    rw [tot_mem h.nd hm] at h1
    show (tot (fun x => if x = s then v else d.f x) L : Int) = u
    rw [tot_mem h.nd hm, if_pos rfl, tot_congr (f := fun x => if x = s then v else d.f x) (g := d.f) fun x hx => by
      have : x ≠ s := fun e => not_mem_erase L s (e ▸ hx)
      simp [this]]
    omega
theorem Cov.put_f {d : Dsk} {L : List ByteArray} {s : ByteArray} {v : Fil} {u : Int} (h : Cov d L) (hs : d.has s = false) (hu : u = d.used + v.b.length) : Cov { d.put s v with used := u } (s :: L) := by
  have hm : s ∉ L := fun hm => by have := (h.mem s).2 hm; rw [hs] at this; cases this
  refine ⟨List.nodup_cons.2 ⟨hm, h.nd⟩, fun x => ?_, ?_, ?_⟩
  · show updBs d.has s x = true ↔ _
    unfold updBs
    rw [Bool.or_eq_true, decide_eq_true_eq, List.mem_cons, h.mem x]
    exact or_congr ⟨Eq.symm, Eq.symm⟩ Iff.rfl
  · show _ = (if d.has s then d.n else d.n + 1)
    rw [if_neg (by simp [hs]), List.length_cons, h.len]
  · show (tot (fun x => if x = s then v else d.f x) (s :: L) : Int) = u
    rw [tot_cons, if_pos rfl, tot_congr (f := fun x => if x = s then v else d.f x) (g := d.f) fun x hx => by
      have : x ≠ s := fun e => hm (e ▸ hx)
      simp [this]]
    have := h.sum
    omega
theorem Cov.le {d : Dsk} {L : List ByteArray} {s : ByteArray} (h : Cov d L) (hs : d.has s = true) : ((d.f s).b.length : Int) ≤ d.used := by
  have h1 := h.sum
  rw [tot_mem h.nd ((h.mem s).1 hs)] at h1
  omega
structure DInv (d : Dsk) : Prop where
  cov : ∃ L, Cov d L
  r0 : 0 ≤ d.room
  r1 : d.room ≤ 16777216
  us : d.used ≤ d.room
  n : d.n ≤ 64
  nm : ∀ s, d.has s = true → nmd s = true
  syn : ∀ s, d.has s = true → 0 ≤ (d.f s).syn ∧ (d.f s).syn ≤ (d.f s).b.length
  fl : -1 ≤ d.fail ∧ d.fail ≤ 9223372036854775807
  tr : -1 ≤ d.trip ∧ d.trip ≤ 9223372036854775807
theorem DInv.u0 {d : Dsk} (h : DInv d) : 0 ≤ d.used := by
  obtain ⟨L, hL⟩ := h.cov
  have := hL.sum
  omega
theorem DInv.fok {d : Dsk} (h : DInv d) (s : ByteArray) (hs : d.has s = true) : FOk (d.f s) := by
  obtain ⟨L, hL⟩ := h.cov
  have h1 := hL.le hs
  have h2 := h.us
  have h3 := h.r1
  exact ⟨(h.syn s hs).1, (h.syn s hs).2, by omega⟩
theorem nmd_size {s : ByteArray} (h : nmd s = true) : s.size ≤ 24 := by
  unfold nmd at h
  simp only [Bool.and_eq_true, decide_eq_true_eq] at h
  omega
theorem DInv.srt {d : Dsk} (h : DInv d) : ∃ ks, SrtOk ks d.has d.n := by
  obtain ⟨L, hL⟩ := h.cov
  obtain ⟨ks, h1, h2⟩ := srt_of hL.nd hL.mem
  have hn := h.n
  exact ⟨ks, h1, by rw [h2.length_eq, hL.len], by omega, fun x hx => by have := nmd_size (h.nm x hx); unfold maxLen; omega⟩
theorem mx_rng {v : Int} (h : v ≤ 9223372036854775807) : -1 ≤ mx v ∧ mx v ≤ 9223372036854775807 := by unfold mx; split <;> omega
theorem i64_rng (n : Int) : -9223372036854775808 ≤ IntKind.i64.wrap n ∧ IntKind.i64.wrap n ≤ 9223372036854775807 := by
  simp [IntKind.wrap, IntKind.bits, IntKind.signed]; omega
theorem DInv.tick {d : Dsk} (h : DInv d) : DInv d.tick := ⟨h.cov.imp fun _ => Cov.tick, h.r0, h.r1, h.us, h.n, h.nm, h.syn, h.fl, mx_rng (i64_rng _).2⟩
theorem DInv.fld {d : Dsk} (h : DInv d) : DInv d.fld := ⟨h.cov.imp fun _ => Cov.fld, h.r0, h.r1, h.us, h.n, h.nm, h.syn, mx_rng (i64_rng _).2, h.tr⟩
theorem DInv.dn {d : Dsk} (h : DInv d) (b : Bool) : DInv { d with down := b } := ⟨h.cov.imp fun _ h => ⟨h.nd, h.mem, h.len, h.sum⟩, h.r0, h.r1, h.us, h.n, h.nm, h.syn, h.fl, h.tr⟩
theorem dinv0 {room : Int} (h0 : 0 ≤ room) (h1 : room ≤ 16777216) : DInv (d0 room) :=
  ⟨⟨[], List.nodup_nil, fun x => by simp [d0], rfl, rfl⟩, h0, h1, h0, by simp [d0], fun s h => by simp [d0] at h, fun s h => by simp [d0] at h, by simp [d0], by simp [d0]⟩
end Go.Proofs.YtfiohpojlgkmkaaDoor.O

namespace Go.Proofs.YtfiohpojlgkmkaaDoor.O
open Go.Ax Go.Maps
set_option maxRecDepth 1000000
theorem op_inv {d d1 y : Dsk} {e : Int} (h : DInv d) (h1 : DInv d1) (hy : d.down = false → e = 0 → DInv y) : DInv (opD d e d1 y) := by
  unfold opD
  split
  · exact h
  · rename_i hd
    split
    · exact h1
    · rename_i he
      split
      · exact h1.dn true
      · exact hy (by simpa using hd) (by omega)
theorem apP_0 {d : Dsk} {s : ByteArray} {l : List Int} (h : DInv d) (h0 : apP d s l = 0) : nmd s = true ∧ (d.has s = false → d.n < 64) ∧ (l.length : Int) ≤ d.room - d.used := by
  unfold apP at h0
  split at h0
  · cases h0
  rename_i h1
  split at h0
  · cases h0
  split at h0
  · cases h0
  rename_i h3
  split at h0
  · cases h0
  rename_i h4
  have a1 := h.u0
  have a2 := h.us
  have a3 := h.r1
  have a4 := h.n
  rw [wrap_i64 (by omega) (by omega)] at h4
  refine ⟨by simpa using h1, fun hh => ?_, by omega⟩
  rcases Nat.lt_or_ge d.n 64 with q | q
  · exact q
  · exact absurd ⟨hh, by omega⟩ h3
theorem ap_room {d : Dsk} {s : ByteArray} {l : List Int} (h : DInv d) (h0 : apP d s l = 0) : (d.get s).b.length + l.length ≤ 16777216 := by
  obtain ⟨_, _, h1⟩ := apP_0 h h0
  have a1 := h.us
  have a2 := h.r1
  have a3 := h.u0
  obtain ⟨L, hL⟩ := h.cov
  cases hh : d.has s with
  | true =>
    rw [get_t hh]
    have := hL.le hh
    omega
  | false => rw [get_f hh]; simp; omega
theorem put_has {d : Dsk} {s x : ByteArray} {v : Fil} (h : (d.put s v).has x = true) : x = s ∨ d.has x = true := by
  have h : updBs d.has s x = true := h
  unfold updBs at h
  rw [Bool.or_eq_true, decide_eq_true_eq] at h
  exact h.imp Eq.symm id
theorem put_all {P : ByteArray → Fil → Prop} {d : Dsk} {s : ByteArray} {v : Fil} (h1 : P s v) (h2 : ∀ x, d.has x = true → P x (d.f x)) : ∀ x, (d.put s v).has x = true → P x ((d.put s v).f x) := fun x hx => by
  by_cases e : x = s
  · subst e; simpa [Dsk.put] using h1
  · have : (d.put s v).f x = d.f x := by simp [Dsk.put, e]
    rw [this]
    exact h2 x ((put_has hx).resolve_left e)
theorem apY_inv {d : Dsk} {s : ByteArray} {l : List Int} (h : DInv d) (h0 : apP d s l = 0) : DInv (apY d s l) := by
  obtain ⟨n1, n2, n3⟩ := apP_0 h h0
  have a1 := h.us
  have a2 := h.r1
  have a3 := h.u0
  have hw : IntKind.i64.wrap (d.used + l.length) = d.used + l.length := wrap_i64 (by omega) (by omega)
  have h' := h.fld.tick
  have hsyn : 0 ≤ (d.get s).syn ∧ (d.get s).syn ≤ ((d.get s).b ++ l).length := by
    cases hh : d.has s with
    | true =>
      rw [get_t hh]
      have := h.syn s hh
      rw [List.length_append]
      omega
    | false => rw [get_f hh]; simp
  have hc : ∃ L, Cov (apY d s l) L := by
    obtain ⟨L, hL⟩ := h'.cov
    unfold apY
    rw [hw]
    cases hh : d.has s with
    | true =>
      refine ⟨L, hL.put_t hh ?_⟩
      rw [get_t hh, List.length_append]
      show d.used + (l.length : Int) = d.used - ((d.f s).b.length : Int) + (((d.f s).b.length + l.length : Nat) : Int)
      omega
    | false =>
      refine ⟨s :: L, hL.put_f hh ?_⟩
      rw [get_f hh, List.length_append]
      show d.used + (l.length : Int) = d.used + ((0 + l.length : Nat) : Int)
      omega
  refine ⟨hc, h.r0, h.r1, ?_, ?_, ?_, ?_, h'.fl, h'.tr⟩
  · show IntKind.i64.wrap (d.used + l.length) ≤ d.room
    rw [hw]; omega
  · show (if d.has s then d.n else d.n + 1) ≤ 64
    have := h.n
    cases hh : d.has s with
    | true => simpa using this
    | false => have := n2 hh; simp; omega
  · intro x hx
    rcases put_has (d := d.fld.tick) (v := default) hx with rfl | hx
    · exact n1
    · exact h.nm x hx
  · exact put_all (P := fun _ v => 0 ≤ v.syn ∧ v.syn ≤ v.b.length) (d := d.fld.tick) hsyn h.syn
theorem ap_inv {d : Dsk} {s : ByteArray} {l : List Int} (h : DInv d) : DInv (apD d s l) := by
  refine op_inv h ?_ fun _ h0 => apY_inv h h0
  unfold apQ
  split
  · exact h
  · exact h.fld
theorem fnP_0 {d : Dsk} {s : ByteArray} (h : fnP d s = 0) : d.has s = true := by
  unfold fnP at h
  split at h
  · assumption
  · cases h
theorem putS_inv {d : Dsk} {s : ByteArray} {v : Fil} {u : Int} (h : DInv d) (hs : d.has s = true) (hu : u = d.used - (d.f s).b.length + v.b.length) (hr : u ≤ d.room) (hv : 0 ≤ v.syn ∧ v.syn ≤ v.b.length) : DInv { d.put s v with used := u } := by
  refine ⟨h.cov.imp fun _ hL => hL.put_t hs hu, h.r0, h.r1, hr, ?_, ?_, ?_, h.fl, h.tr⟩
  · show (if d.has s then d.n else d.n + 1) ≤ 64
    rw [if_pos hs]; exact h.n
  · intro x hx
    rcases put_has (d := d) (v := default) hx with rfl | hx
    · exact h.nm _ hs
    · exact h.nm x hx
  · exact put_all (P := fun _ v => 0 ≤ v.syn ∧ v.syn ≤ v.b.length) (d := d) hv h.syn
theorem sy_inv {d : Dsk} {s : ByteArray} (h : DInv d) : DInv (syD d s) := by
  refine op_inv h h fun _ h0 => ?_
  have hs := fnP_0 h0
  have := putS_inv (v := { d.f s with syn := (d.f s).b.length }) (u := d.used) h.tick hs (by show d.used = d.used - ((d.f s).b.length : Int) + ((d.f s).b.length : Int); omega) h.us ⟨by simp, by simp⟩
  exact this
end Go.Proofs.YtfiohpojlgkmkaaDoor.O

namespace Go.Proofs.YtfiohpojlgkmkaaDoor.O
open Go.Ax Go.Maps
set_option maxRecDepth 1000000
structure OpIs (y y' : Dsk) (e e' : Int) : Prop where
  d : y = y'
  n : e = e'
structure ApRoom (d : Dsk) (s : ByteArray) (l : List Int) : Prop where
  r : apP d s l = 0 → (d.get s).b.length + l.length ≤ 140737488355328
theorem apV_c (c : Bool) (d y : Dsk) (s : ByteArray) (l : List Int) (e : Int) (h : ApRoom d s l) (q : OpIs y (apD d s l) e (apE d s l)) : (opR y e).Sat (ACall' Tryd.prog 8 [.ptr 0 0 0 0, .y (.string s), encBs c l] (dkM d)) := by
  rw [q.d, q.n]; exact ap_c d s c l h.r
noncomputable def apV (c : Bool) (d y : Dsk) (s : ByteArray) (l : List Int) (e : Int) : Ctr Tryd.prog := ⟨8, [.ptr 0 0 0 0, .y (.string s), encBs c l], dkM d, .need (ApRoom d s l) (.need (OpIs y (apD d s l) e (apE d s l)) (opR y e)), T.Sat.need fun h => T.Sat.need fun q => apV_c c d y s l e h q⟩
theorem syV_c (d y : Dsk) (s : ByteArray) (e : Int) (q : OpIs y (syD d s) e (syE d s)) : (opR y e).Sat (ACall' Tryd.prog 9 [.ptr 0 0 0 0, .y (.string s)] (dkM d)) := by
  rw [q.d, q.n]; exact sy_c d s
noncomputable def syV (d y : Dsk) (s : ByteArray) (e : Int) : Ctr Tryd.prog := ⟨9, [.ptr 0 0 0 0, .y (.string s)], dkM d, .need (OpIs y (syD d s) e (syE d s)) (opR y e), T.Sat.need fun q => syV_c d y s e q⟩
def sA : ByteArray := ⟨#[97]⟩
noncomputable def lvH (d d1 d2 d3 : Dsk) (e1 e2 e3 : Int) : HintsT Tryd.prog := { withSh (hh _ noLp (cs1 5 1 0 (nwC 10) (cs1 5 4 3 (apV true d d1 sA [120, 121, 122] e1) (cs1 5 5 1 (syV d1 d2 sA e2) (cs1 5 6 3 (apV true d2 d3 sA [117, 118] e3) (cs1 5 7 1 (szC d3 sA) noCs))))) noOp) (sh1 5 4 1 779 (sh1 5 6 1 779 noSh)) with sub := fun _ => true }
def vcLv (d : Dsk) (d1 : Dsk) (d2 : Dsk) (d3 : Dsk) (e1 : Int) (e2 : Int) (e3 : Int) : Prop :=
  ((10 : Int) = (10 : Int) ∧ True) ∧ True ∧ (false = true → false = true ∧ True) ∧ (false = false → (((0 : Nat) = (0 : Nat) ∧ (0 : Nat) = (0 : Nat)) ∧ { data := #[(97 : UInt8)] : ByteArray } = sA ∧ (true = true ∧ (3 : Nat) = (3 : Nat) ∧ contLe (3 : Nat) (1 : Nat) (Ax.rowAt (0 : Nat) fun (k j : Nat) => Ax.get [AV.s (Value.int IntKind.u8 (120 : Int)), AV.s (Value.int IntKind.u8 (121 : Int)), AV.s (Value.int IntKind.u8 (122 : Int))] (k * (1 : Nat) + j)) (cellsOf' encB [(120 : Int), (121 : Int), (122 : Int)])) ∧ True) ∧ ((True ∧ (10 : Int) = d.room ∧ (0 : Int) = d.used ∧ false = d.down ∧ (-1 : Int) = d.trip ∧ (-1 : Int) = d.fail ∧ True) ∧ ((0 : Nat) = d.n ∧ (∀ (x : ByteArray), false = d.has x) ∧ ∀ (x : ByteArray), false = true → ((0 : Nat) = List.length (d.f x).b ∧ contLe (0 : Nat) (1 : Nat) (cellsOf' encB []) (cellsOf' encB (d.f x).b)) ∧ (0 : Int) = (d.f x).syn ∧ True) ∧ True) ∧ ApRoom d sA [(120 : Int), (121 : Int), (122 : Int)] ∧ OpIs d1 (apD d sA [(120 : Int), (121 : Int), (122 : Int)]) e1 (apE d sA [(120 : Int), (121 : Int), (122 : Int)]) ∧ (((0 : Nat) = (0 : Nat) ∧ (0 : Nat) = (0 : Nat)) ∧ { data := #[(97 : UInt8)] : ByteArray } = sA ∧ True) ∧ ((True ∧ d1.room = d1.room ∧ d1.used = d1.used ∧ d1.down = d1.down ∧ d1.trip = d1.trip ∧ d1.fail = d1.fail ∧ True) ∧ (d1.n = d1.n ∧ (∀ (x : ByteArray), d1.has x = d1.has x) ∧ ∀ (x : ByteArray), d1.has x = true → (List.length (d1.f x).b = List.length (d1.f x).b ∧ contLe (List.length (d1.f x).b) (1 : Nat) (cellsOf' encB (d1.f x).b) (cellsOf' encB (d1.f x).b)) ∧ (d1.f x).syn = (d1.f x).syn ∧ True) ∧ True) ∧ OpIs d2 (syD d1 sA) e2 (syE d1 sA) ∧ (((0 : Nat) = (0 : Nat) ∧ (0 : Nat) = (0 : Nat)) ∧ { data := #[(97 : UInt8)] : ByteArray } = sA ∧ (true = true ∧ (2 : Nat) = (2 : Nat) ∧ contLe (2 : Nat) (1 : Nat) (Ax.rowAt (0 : Nat) fun (k j : Nat) => Ax.get [AV.s (Value.int IntKind.u8 (117 : Int)), AV.s (Value.int IntKind.u8 (118 : Int))] (k * (1 : Nat) + j)) (cellsOf' encB [(117 : Int), (118 : Int)])) ∧ True) ∧ ((True ∧ d2.room = d2.room ∧ d2.used = d2.used ∧ d2.down = d2.down ∧ d2.trip = d2.trip ∧ d2.fail = d2.fail ∧ True) ∧ (d2.n = d2.n ∧ (∀ (x : ByteArray), d2.has x = d2.has x) ∧ ∀ (x : ByteArray), d2.has x = true → (List.length (d2.f x).b = List.length (d2.f x).b ∧ contLe (List.length (d2.f x).b) (1 : Nat) (cellsOf' encB (d2.f x).b) (cellsOf' encB (d2.f x).b)) ∧ (d2.f x).syn = (d2.f x).syn ∧ True) ∧ True) ∧ ApRoom d2 sA [(117 : Int), (118 : Int)] ∧ OpIs d3 (apD d2 sA [(117 : Int), (118 : Int)]) e3 (apE d2 sA [(117 : Int), (118 : Int)]) ∧ (((0 : Nat) = (0 : Nat) ∧ (0 : Nat) = (0 : Nat)) ∧ { data := #[(97 : UInt8)] : ByteArray } = sA ∧ True) ∧ ((True ∧ d3.room = d3.room ∧ d3.used = d3.used ∧ d3.down = d3.down ∧ d3.trip = d3.trip ∧ d3.fail = d3.fail ∧ True) ∧ (d3.n = d3.n ∧ (∀ (x : ByteArray), d3.has x = d3.has x) ∧ ∀ (x : ByteArray), d3.has x = true → (List.length (d3.f x).b = List.length (d3.f x).b ∧ contLe (List.length (d3.f x).b) (1 : Nat) (cellsOf' encB (d3.f x).b) (cellsOf' encB (d3.f x).b)) ∧ (d3.f x).syn = (d3.f x).syn ∧ True) ∧ True) ∧ ((e2 == (0 : Int)) = true → (((↑(List.length (Dsk.get d3 sA).b) : Int) == (5 : Int)) = true → (((Dsk.get d3 sA).syn == (3 : Int)) = true → d3.has sA = true ∧ True) ∧ (((Dsk.get d3 sA).syn == (3 : Int)) = false → false = true ∧ True)) ∧ (((↑(List.length (Dsk.get d3 sA).b) : Int) == (5 : Int)) = false → false = true ∧ True)) ∧ ((e2 == (0 : Int)) = false → false = true ∧ True))
theorem vcLv_eq (d : Dsk) (d1 : Dsk) (d2 : Dsk) (d3 : Dsk) (e1 : Int) (e2 : Int) (e3 : Int) : (ctrVC Tryd.prog (lvH d d1 d2 d3 e1 e2 e3) 5 [] [] (boR true)) = vcLv d d1 d2 d3 e1 e2 e3 := by kernel_rfl
end Go.Proofs.YtfiohpojlgkmkaaDoor.O

namespace Go.Proofs.YtfiohpojlgkmkaaDoor.O
open Go.Ax Go.Maps
set_option maxRecDepth 1000000
def lv1 : Dsk := apD (d0 10) sA [120, 121, 122]
def lv2 : Dsk := syD lv1 sA
def lv3 : Dsk := apD lv2 sA [117, 118]
theorem lv_nm : nmd sA = true := by decide
theorem w10 : IntKind.i64.wrap 10 = 10 := by decide
theorem w7 : IntKind.i64.wrap 7 = 7 := by decide
theorem w3 : IntKind.i64.wrap 3 = 3 := by decide
theorem wm2 : IntKind.i64.wrap (-2) = -2 := by decide
theorem mxm2 : mx (-2) = -1 := by decide
theorem d0_f : (d0 10).down = false ∧ (d0 10).trip = -1 ∧ (d0 10).fail = -1 ∧ (d0 10).n = 0 ∧ (d0 10).room = 10 ∧ (d0 10).used = 0 := ⟨rfl, rfl, rfl, rfl, rfl, rfl⟩
theorem d0_h (x : ByteArray) : (d0 10).has x = false := rfl
theorem lv_p1 : apP (d0 10) sA [120, 121, 122] = 0 := by simp [apP, lv_nm, d0_f, d0_h, w10]
theorem lv_1 : lv1 = apY (d0 10) sA [120, 121, 122] := by
  unfold lv1 apD opD
  simp [lv_p1, apQ, lv_nm, d0_f, Dsk.fld]
theorem lv_has1 : lv1.has sA = true := by rw [lv_1]; simp [apY, Dsk.put, updBs]
theorem lv_f1 : lv1.f sA = ⟨[120, 121, 122], 0⟩ := by rw [lv_1]; simp [apY, Dsk.put, Dsk.get, d0]
theorem lv_t1 : lv1.trip = -1 ∧ lv1.down = false ∧ lv1.fail = -1 ∧ lv1.n = 1 ∧ lv1.room = 10 ∧ lv1.used = 3 := by
  rw [lv_1]
  refine ⟨?_, rfl, ?_, rfl, rfl, ?_⟩
  · simp [apY, Dsk.put, Dsk.tick, Dsk.fld, d0_f, wm2, mxm2]
  · simp [apY, Dsk.put, Dsk.tick, Dsk.fld, d0_f, wm2, mxm2]
  · simp [apY, d0_f, w3]
theorem lv_e2 : syE lv1 sA = 0 := by simp [syE, opE, fnP, lv_has1, lv_t1]
theorem lv_2 : lv2 = syY lv1 sA := by simp [lv2, syD, opD, fnP, lv_has1, lv_t1]
theorem lv_f2 : lv2.f sA = ⟨[120, 121, 122], 3⟩ := by rw [lv_2]; simp [syY, Dsk.put, lv_f1]
theorem lv_has2 : lv2.has sA = true := by rw [lv_2]; simp [syY, Dsk.put, updBs]
theorem lv_t2 : lv2.trip = -1 ∧ lv2.down = false ∧ lv2.fail = -1 ∧ lv2.room = 10 ∧ lv2.used = 3 := by
  rw [lv_2]
  refine ⟨?_, lv_t1.2.1, lv_t1.2.2.1, lv_t1.2.2.2.2.1, lv_t1.2.2.2.2.2⟩
  simp [syY, Dsk.put, Dsk.tick, lv_t1, wm2, mxm2]
theorem lv_p3 : apP lv2 sA [117, 118] = 0 := by simp [apP, lv_nm, lv_t2, lv_has2, w7]
theorem lv_3 : lv3 = apY lv2 sA [117, 118] := by simp [lv3, apD, opD, lv_p3, apQ, lv_nm, lv_t2, Dsk.fld]
theorem lv_f3 : lv3.f sA = ⟨[120, 121, 122, 117, 118], 3⟩ := by rw [lv_3]; simp [apY, Dsk.put, get_t lv_has2, lv_f2]
theorem lv_has3 : lv3.has sA = true := by rw [lv_3]; simp [apY, Dsk.put, updBs]
theorem lv_c : (boR true).Sat (ACall' Tryd.prog 5 [] []) := by
  refine ctr_vc (ht := lvH (d0 10) lv1 lv2 lv3 (apE (d0 10) sA [120, 121, 122]) 0 (apE lv2 sA [117, 118])) Tryd.mixed rfl ?_
  rw [vcLv_eq (d0 10) lv1 lv2 lv3]
  unfold vcLv
  have a1 : ApRoom (d0 10) sA [120, 121, 122] := ⟨fun _ => by simp [Dsk.get, d0]⟩
  have a2 : OpIs lv1 (apD (d0 10) sA [120, 121, 122]) (apE (d0 10) sA [120, 121, 122]) (apE (d0 10) sA [120, 121, 122]) := ⟨rfl, rfl⟩
  have a3 : OpIs lv2 (syD lv1 sA) 0 (syE lv1 sA) := ⟨rfl, lv_e2.symm⟩
  have a4 : ApRoom lv2 sA [117, 118] := ⟨fun _ => by rw [get_t lv_has2, lv_f2]; simp⟩
  have a5 : OpIs lv3 (apD lv2 sA [117, 118]) (apE lv2 sA [117, 118]) (apE lv2 sA [117, 118]) := ⟨rfl, rfl⟩
  have h3 := lv_has3
  have f3 := get_t lv_has3
  rw [lv_f3] at f3
  have hs : ({ data := #[97] } : ByteArray) = sA := rfl
  have g1 : (d0 10).room = 10 ∧ (d0 10).used = 0 ∧ (d0 10).down = false ∧ (d0 10).trip = -1 ∧ (d0 10).fail = -1 ∧ (d0 10).n = 0 := ⟨rfl, rfl, rfl, rfl, rfl, rfl⟩
  have g2 : ∀ x, (d0 10).has x = false := fun _ => rfl
  generalize apE (d0 10) sA [120, 121, 122] = e1 at *
  generalize apE lv2 sA [117, 118] = e3 at *
  generalize lv3 = z3 at *
  generalize lv2 = z2 at *
  generalize lv1 = z1 at *
  generalize d0 10 = z0 at *
  simp [hs, a1, a2, a3, a4, a5, h3, f3, g1, g2]
  refine ⟨fun k hk j hj => ?_, fun k hk j hj => ?_⟩
  all_goals
    obtain rfl : j = 0 := by omega
    rcases (by omega : k = 0 ∨ k = 1 ∨ k = 2) with rfl | rfl | rfl <;> first | (exact rfl) | omega
end Go.Proofs.YtfiohpojlgkmkaaDoor.O

namespace Go.Proofs.YtfiohpojlgkmkaaDoor.O
open Go.Ax Go.Maps
set_option maxRecDepth 1000000
structure Wr where
  name : ByteArray
  b : List Int
  sync : Bool
instance : Inhabited Wr := ⟨⟨ByteArray.empty, [], false⟩⟩
def encW (w : Wr) : List AV := [.y (.string w.name), encBs true w.b, .y (.bool w.sync)]
def encWs (b : Bool) (l : List Wr) : AV := .ys b 3 l.length (cellsOf' encW l)
noncomputable def lvC : Ctr Tryd.prog := ⟨5, [], [], boR true, lv_c⟩
def str (l : List Int) : ByteArray := strN l.length (cellsOf' encB l)
structure KS where
  d : Dsk
  ns : List ByteArray
  bs : List ByteArray
  ys : List Int
def rowS (l : List ByteArray) : Blk := .row 9 1 l.length none (cellsOf' encS l)
def rowI (l : List Int) : Blk := .row 3 1 l.length none (cellsOf' encI l)
def kM (d : Dsk) (K : KS) : List Blk := dkM d ++ [rowS K.ns, rowS K.bs, rowI K.ys]
def keL (b c : Bool) (l : List Wr) (keep : List Int) (K : KS) (k : Nat) : List (Nat × AV) := [(0, encWs b l), (2, encIs c keep), (8, .ptr 0 0 0 0), (10, .own 2 1 0 K.ns.length), (11, .own 3 1 0 K.bs.length), (12, .own 4 1 0 K.ys.length), (13, .y (.int .i64 k))]
def jK : List Nat := [5, 6, 7, 8, 9, 10, 11, 12, 13, 14, 15, 16, 17, 18, 19, 20]
def jK2 : List Nat := 2 :: 3 :: 4 :: jK
def fi (ns : List ByteArray) (s : ByteArray) (k : Nat) : Nat := k + (ns.drop k).findIdx fun x => x.data.toList == s.data.toList
def fiT (b c : Bool) (l : List Wr) (keep : List Int) (K : KS) (k : Nat) (j : Nat) : List AV := mkT 219 (keL b c l keep K k ++ [(15, .y (.int .i64 j))])
def fiS (b c : Bool) (l : List Wr) (keep : List Int) (d : Dsk) (K : KS) (k : Nat) (j : Nat) : Exit × List AV × List Blk := (.exit 2, mkT 219 (keL b c l keep K k ++ [(15, .y (.int .i64 j))]), kM d K)
def vcFi (b : Bool) (c : Bool) (l : List Wr) (keep : List Int) (d : Dsk) (K : KS) (k : Nat) (s : ByteArray) (j : Nat) : Prop :=
  (decide ((↑j : Int) < (↑(List.length K.ns) : Int)) = true → (true && decide ((↑j : Int) < (↑(List.length K.ns) : Int))) = true ∧ decide ((0 : Nat) + Int.toNat (↑j : Int) < List.length K.ns) = true ∧ (true && decide ((↑k : Int) < (↑(List.length l) : Int))) = true ∧ ((!(List.getD K.ns ((0 : Nat) + Int.toNat (↑j : Int)) (@default ByteArray ByteArray.instInhabited)).data.toList == (List.getD l (Int.toNat (↑k : Int)) (@default Wr instInhabitedWr)).name.data.toList) = true → ∃ (j_1 : Nat), List.length K.ns - j_1 < List.length K.ns - j ∧ (((b = b ∧ List.length l = List.length l ∧ contLe (List.length l) (3 : Nat) (cellsOf' encW l) (cellsOf' encW l)) ∧ (c = c ∧ List.length keep = List.length keep ∧ contLe (List.length keep) (1 : Nat) (cellsOf' encI keep) (cellsOf' encI keep)) ∧ ((0 : Nat) = (0 : Nat) ∧ (0 : Nat) = (0 : Nat)) ∧ ((0 : Nat) = (0 : Nat) ∧ List.length K.ns = List.length K.ns) ∧ ((0 : Nat) = (0 : Nat) ∧ List.length K.bs = List.length K.bs) ∧ ((0 : Nat) = (0 : Nat) ∧ List.length K.ys = List.length K.ys) ∧ (↑k : Int) = (↑k : Int) ∧ IntKind.wrap IntKind.i64 ((↑j : Int) + (1 : Int)) = (↑j_1 : Int) ∧ True) ∧ ((True ∧ d.room = d.room ∧ d.used = d.used ∧ d.down = d.down ∧ d.trip = d.trip ∧ d.fail = d.fail ∧ True) ∧ (d.n = d.n ∧ (∀ (x : ByteArray), d.has x = d.has x) ∧ ∀ (x : ByteArray), d.has x = true → (List.length (d.f x).b = List.length (d.f x).b ∧ contLe (List.length (d.f x).b) (1 : Nat) (cellsOf' encB (d.f x).b) (cellsOf' encB (d.f x).b)) ∧ (d.f x).syn = (d.f x).syn ∧ True) ∧ (List.length K.ns = List.length K.ns ∧ contLe (List.length K.ns) (1 : Nat) (cellsOf' encS K.ns) (cellsOf' encS K.ns)) ∧ (List.length K.bs = List.length K.bs ∧ contLe (List.length K.bs) (1 : Nat) (cellsOf' encS K.bs) (cellsOf' encS K.bs)) ∧ (List.length K.ys = List.length K.ys ∧ contLe (List.length K.ys) (1 : Nat) (cellsOf' encI K.ys) (cellsOf' encI K.ys)) ∧ True) ∧ true = true) ∧ true = true ∧ fi K.ns s j_1 = fi K.ns s j) ∧ ((!(List.getD K.ns ((0 : Nat) + Int.toNat (↑j : Int)) (@default ByteArray ByteArray.instInhabited)).data.toList == (List.getD l (Int.toNat (↑k : Int)) (@default Wr instInhabitedWr)).name.data.toList) = false → ((b = b ∧ List.length l = List.length l ∧ contLe (List.length l) (3 : Nat) (cellsOf' encW l) (cellsOf' encW l)) ∧ (c = c ∧ List.length keep = List.length keep ∧ contLe (List.length keep) (1 : Nat) (cellsOf' encI keep) (cellsOf' encI keep)) ∧ ((0 : Nat) = (0 : Nat) ∧ (0 : Nat) = (0 : Nat)) ∧ ((0 : Nat) = (0 : Nat) ∧ List.length K.ns = List.length K.ns) ∧ ((0 : Nat) = (0 : Nat) ∧ List.length K.bs = List.length K.bs) ∧ ((0 : Nat) = (0 : Nat) ∧ List.length K.ys = List.length K.ys) ∧ (↑k : Int) = (↑k : Int) ∧ (↑j : Int) = (↑(fi K.ns s j) : Int) ∧ True) ∧ ((True ∧ d.room = d.room ∧ d.used = d.used ∧ d.down = d.down ∧ d.trip = d.trip ∧ d.fail = d.fail ∧ True) ∧ (d.n = d.n ∧ (∀ (x : ByteArray), d.has x = d.has x) ∧ ∀ (x : ByteArray), d.has x = true → (List.length (d.f x).b = List.length (d.f x).b ∧ contLe (List.length (d.f x).b) (1 : Nat) (cellsOf' encB (d.f x).b) (cellsOf' encB (d.f x).b)) ∧ (d.f x).syn = (d.f x).syn ∧ True) ∧ (List.length K.ns = List.length K.ns ∧ contLe (List.length K.ns) (1 : Nat) (cellsOf' encS K.ns) (cellsOf' encS K.ns)) ∧ (List.length K.bs = List.length K.bs ∧ contLe (List.length K.bs) (1 : Nat) (cellsOf' encS K.bs) (cellsOf' encS K.bs)) ∧ (List.length K.ys = List.length K.ys ∧ contLe (List.length K.ys) (1 : Nat) (cellsOf' encI K.ys) (cellsOf' encI K.ys)) ∧ True) ∧ true = true)) ∧ (decide ((↑j : Int) < (↑(List.length K.ns) : Int)) = false → ((b = b ∧ List.length l = List.length l ∧ contLe (List.length l) (3 : Nat) (cellsOf' encW l) (cellsOf' encW l)) ∧ (c = c ∧ List.length keep = List.length keep ∧ contLe (List.length keep) (1 : Nat) (cellsOf' encI keep) (cellsOf' encI keep)) ∧ ((0 : Nat) = (0 : Nat) ∧ (0 : Nat) = (0 : Nat)) ∧ ((0 : Nat) = (0 : Nat) ∧ List.length K.ns = List.length K.ns) ∧ ((0 : Nat) = (0 : Nat) ∧ List.length K.bs = List.length K.bs) ∧ ((0 : Nat) = (0 : Nat) ∧ List.length K.ys = List.length K.ys) ∧ (↑k : Int) = (↑k : Int) ∧ (↑j : Int) = (↑(fi K.ns s j) : Int) ∧ True) ∧ ((True ∧ d.room = d.room ∧ d.used = d.used ∧ d.down = d.down ∧ d.trip = d.trip ∧ d.fail = d.fail ∧ True) ∧ (d.n = d.n ∧ (∀ (x : ByteArray), d.has x = d.has x) ∧ ∀ (x : ByteArray), d.has x = true → (List.length (d.f x).b = List.length (d.f x).b ∧ contLe (List.length (d.f x).b) (1 : Nat) (cellsOf' encB (d.f x).b) (cellsOf' encB (d.f x).b)) ∧ (d.f x).syn = (d.f x).syn ∧ True) ∧ (List.length K.ns = List.length K.ns ∧ contLe (List.length K.ns) (1 : Nat) (cellsOf' encS K.ns) (cellsOf' encS K.ns)) ∧ (List.length K.bs = List.length K.bs ∧ contLe (List.length K.bs) (1 : Nat) (cellsOf' encS K.bs) (cellsOf' encS K.bs)) ∧ (List.length K.ys = List.length K.ys ∧ contLe (List.length K.ys) (1 : Nat) (cellsOf' encI K.ys) (cellsOf' encI K.ys)) ∧ True) ∧ true = true)
theorem vcFi_eq (b : Bool) (c : Bool) (l : List Wr) (keep : List Int) (d : Dsk) (K : KS) (k : Nat) (s : ByteArray) (j : Nat) : (loopVC Tryd.prog (hT _) 3 15 (fun j => K.ns.length - j) (fiT b c l keep K k) (fun _ => kM d K) jK (fun j => .ret (fi K.ns s j)) (fiS b c l keep d K k) j) = vcFi b c l keep d K k s j := by kernel_rfl
def keT (b c : Bool) (l : List Wr) (keep : List Int) (K : Nat → KS) (k : Nat) : List AV := mkT 219 (keL b c l keep (K k) k)
def keS (c : Bool) (keep : List Int) (K : KS) (_ : Unit) : Exit × List AV × List Blk := (.exit 0, mkT 219 [(2, encIs c keep), (8, .ptr 0 0 0 0), (10, .own 2 1 0 K.ns.length), (11, .own 3 1 0 K.bs.length), (12, .own 4 1 0 K.ys.length)], kM K.d K)
def KS.more (K : KS) (s : ByteArray) : KS := ⟨K.d, K.ns ++ [s], K.bs ++ [ByteArray.empty], K.ys ++ [0]⟩
def kq (K : KS) (s : ByteArray) (q : Nat) : KS := if q = K.ns.length then K.more s else K
def kb2 (K : KS) (w : Wr) (q : Nat) : List ByteArray := (kq K w.name q).bs.set q ((kq K w.name q).bs.getD q default ++ str w.b)
noncomputable def keLH (b c : Bool) (l : List Wr) (keep : List Int) (K : KS) (k : Nat) (y1 y2 : Dsk) (e1 e2 : Int) (q : Nat) (w : Wr) : HintsT Tryd.prog := { withW (hh _ (lp1 3 15 (jobOf (fiT b c l keep K k) (fun _ => kM y1 K) jK (fun _ => .ret q) (fiS b c l keep y1 K k) 0) noLp) (cs1 3 12 11 (apV true K.d y1 w.name w.b e1) (cs1 3 22 12 (syV y1 y2 w.name e2) noCs)) noOp) noSh (ws1 3 18 7 2 (K.more w.name).ns.length (cellsOf' encS (K.more w.name).ns) (ws1 3 19 2 3 (K.more w.name).bs.length (cellsOf' encS (K.more w.name).bs) (ws1 3 20 2 4 (K.more w.name).ys.length (cellsOf' encI (K.more w.name).ys) (ws1 3 21 14 3 (kb2 K w q).length (cellsOf' encS (kb2 K w q)) noWs)))) with sub := fun _ => true }
def vcKeL_q1 (c : Bool) (keep : List Int) : Prop := (c = c ∧ List.length keep = List.length keep ∧ contLe (List.length keep) (1 : Nat) (cellsOf' encI keep) (cellsOf' encI keep))
def vcKeL_q2 (b : Bool) (l : List Wr) : Prop := (b = b ∧ List.length l = List.length l ∧ contLe (List.length l) (3 : Nat) (cellsOf' encW l) (cellsOf' encW l))
def vcKeL_q3 (y1 : Dsk) : Prop := (y1.n = y1.n ∧ (∀ (x : ByteArray), y1.has x = y1.has x) ∧ ∀ (x : ByteArray), y1.has x = true → (List.length (y1.f x).b = List.length (y1.f x).b ∧ contLe (List.length (y1.f x).b) (1 : Nat) (cellsOf' encB (y1.f x).b) (cellsOf' encB (y1.f x).b)) ∧ (y1.f x).syn = (y1.f x).syn ∧ True)
def vcKeL (b : Bool) (c : Bool) (l : List Wr) (keep : List Int) (K : Nat → KS) (y1 : Dsk) (y2 : Dsk) (e1 : Int) (e2 : Int) (q : Nat) (n : Nat) (k : Nat) : Prop :=
  (decide ((↑k : Int) < (↑(List.length l) : Int)) = true → (true && decide ((↑k : Int) < (↑(List.length l) : Int))) = true ∧ (true && decide ((↑k : Int) < (↑(List.length l) : Int))) = true ∧ (((0 : Nat) = (0 : Nat) ∧ (0 : Nat) = (0 : Nat)) ∧ (List.getD l (Int.toNat (↑k : Int)) (@default Wr instInhabitedWr)).name = (List.getD l k (@default Wr instInhabitedWr)).name ∧ (true = true ∧ List.length (List.getD l (Int.toNat (↑k : Int)) (@default Wr instInhabitedWr)).b = List.length (List.getD l k (@default Wr instInhabitedWr)).b ∧ contLe (List.length (List.getD l (Int.toNat (↑k : Int)) (@default Wr instInhabitedWr)).b) (1 : Nat) (cellsOf' encB (List.getD l (Int.toNat (↑k : Int)) (@default Wr instInhabitedWr)).b) (cellsOf' encB (List.getD l k (@default Wr instInhabitedWr)).b)) ∧ True) ∧ ((True ∧ (K k).d.room = (K k).d.room ∧ (K k).d.used = (K k).d.used ∧ (K k).d.down = (K k).d.down ∧ (K k).d.trip = (K k).d.trip ∧ (K k).d.fail = (K k).d.fail ∧ True) ∧ ((K k).d.n = (K k).d.n ∧ (∀ (x : ByteArray), (K k).d.has x = (K k).d.has x) ∧ ∀ (x : ByteArray), (K k).d.has x = true → (List.length ((K k).d.f x).b = List.length ((K k).d.f x).b ∧ contLe (List.length ((K k).d.f x).b) (1 : Nat) (cellsOf' encB ((K k).d.f x).b) (cellsOf' encB ((K k).d.f x).b)) ∧ ((K k).d.f x).syn = ((K k).d.f x).syn ∧ True) ∧ True) ∧ ApRoom (K k).d (List.getD l k (@default Wr instInhabitedWr)).name (List.getD l k (@default Wr instInhabitedWr)).b ∧ OpIs y1 (apD (K k).d (List.getD l k (@default Wr instInhabitedWr)).name (List.getD l k (@default Wr instInhabitedWr)).b) e1 (apE (K k).d (List.getD l k (@default Wr instInhabitedWr)).name (List.getD l k (@default Wr instInhabitedWr)).b) ∧ ((e1 != (0 : Int)) = true → ∃ (j : Nat), List.length l - j < List.length l - k ∧ (((vcKeL_q2 b l) ∧ (vcKeL_q1 c keep) ∧ ((0 : Nat) = (0 : Nat) ∧ (0 : Nat) = (0 : Nat)) ∧ ((0 : Nat) = (0 : Nat) ∧ List.length (K k).ns = List.length (K j).ns) ∧ ((0 : Nat) = (0 : Nat) ∧ List.length (K k).bs = List.length (K j).bs) ∧ ((0 : Nat) = (0 : Nat) ∧ List.length (K k).ys = List.length (K j).ys) ∧ IntKind.wrap IntKind.i64 ((↑k : Int) + (1 : Int)) = (↑j : Int) ∧ True) ∧ ((True ∧ y1.room = (K j).d.room ∧ y1.used = (K j).d.used ∧ y1.down = (K j).d.down ∧ y1.trip = (K j).d.trip ∧ y1.fail = (K j).d.fail ∧ True) ∧ (y1.n = (K j).d.n ∧ (∀ (x : ByteArray), y1.has x = (K j).d.has x) ∧ ∀ (x : ByteArray), y1.has x = true → (List.length (y1.f x).b = List.length ((K j).d.f x).b ∧ contLe (List.length (y1.f x).b) (1 : Nat) (cellsOf' encB (y1.f x).b) (cellsOf' encB ((K j).d.f x).b)) ∧ (y1.f x).syn = ((K j).d.f x).syn ∧ True) ∧ (List.length (K k).ns = List.length (K j).ns ∧ contLe (List.length (K k).ns) (1 : Nat) (cellsOf' encS (K k).ns) (cellsOf' encS (K j).ns)) ∧ (List.length (K k).bs = List.length (K j).bs ∧ contLe (List.length (K k).bs) (1 : Nat) (cellsOf' encS (K k).bs) (cellsOf' encS (K j).bs)) ∧ (List.length (K k).ys = List.length (K j).ys ∧ contLe (List.length (K k).ys) (1 : Nat) (cellsOf' encI (K k).ys) (cellsOf' encI (K j).ys)) ∧ True) ∧ true = true) ∧ true = true ∧ () = ()) ∧ ((e1 != (0 : Int)) = false → (((vcKeL_q2 b l) ∧ (vcKeL_q1 c keep) ∧ ((0 : Nat) = (0 : Nat) ∧ (0 : Nat) = (0 : Nat)) ∧ ((0 : Nat) = (0 : Nat) ∧ List.length (K k).ns = List.length (K k).ns) ∧ ((0 : Nat) = (0 : Nat) ∧ List.length (K k).bs = List.length (K k).bs) ∧ ((0 : Nat) = (0 : Nat) ∧ List.length (K k).ys = List.length (K k).ys) ∧ (↑k : Int) = (↑k : Int) ∧ (0 : Int) = (0 : Int) ∧ True) ∧ ((True ∧ y1.room = y1.room ∧ y1.used = y1.used ∧ y1.down = y1.down ∧ y1.trip = y1.trip ∧ y1.fail = y1.fail ∧ True) ∧ (vcKeL_q3 y1) ∧ (List.length (K k).ns = List.length (K k).ns ∧ contLe (List.length (K k).ns) (1 : Nat) (cellsOf' encS (K k).ns) (cellsOf' encS (K k).ns)) ∧ (List.length (K k).bs = List.length (K k).bs ∧ contLe (List.length (K k).bs) (1 : Nat) (cellsOf' encS (K k).bs) (cellsOf' encS (K k).bs)) ∧ (List.length (K k).ys = List.length (K k).ys ∧ contLe (List.length (K k).ys) (1 : Nat) (cellsOf' encI (K k).ys) (cellsOf' encI (K k).ys)) ∧ True) ∧ true = true) ∧ LoopOk Tryd.prog (3 : Nat) (15 : Nat) (loopAt Tryd.prog (3 : Nat) (15 : Nat)) { t := fiT b c l keep (K k) k (0 : Nat), m := kM y1 (K k), mv := [] : St } (T.map (lout jK (fiS b c l keep y1 (K k) k)) ((fun (x : Nat) => T.ret q) (0 : Nat))) ∧ (((↑q : Int) == (↑(List.length (K k).ns) : Int)) = true → (true && decide ((↑k : Int) < (↑(List.length l) : Int))) = true ∧ (decide (List.length (K k).ns = List.length (K k).ns) && decide (List.length (K k).ns + (1 : Nat) ≤ (9223372036854775807 : Nat)) && decide ((List.length (K k).ns + (1 : Nat)) * (16 : Nat) ≤ (140737488355328 : Nat))) = true ∧ List.length (K k).ns + (1 : Nat) = List.length ((K k).ns ++ [(List.getD l k (@default Wr instInhabitedWr)).name]) ∧ contLe (List.length (K k).ns + (1 : Nat)) (1 : Nat) (appRow (List.length (K k).ns) (cellsOf' encS (K k).ns) fun (k_1 j : Nat) => Ax.get [AV.y (Value.string (List.getD l (Int.toNat (↑k : Int)) (@default Wr instInhabitedWr)).name)] (k_1 * (1 : Nat) + j)) (cellsOf' encS ((K k).ns ++ [(List.getD l k (@default Wr instInhabitedWr)).name])) ∧ (decide (List.length (K k).bs = List.length (K k).bs) && decide (List.length (K k).bs + (1 : Nat) ≤ (9223372036854775807 : Nat)) && decide ((List.length (K k).bs + (1 : Nat)) * (16 : Nat) ≤ (140737488355328 : Nat))) = true ∧ List.length (K k).bs + (1 : Nat) = List.length ((K k).bs ++ [ByteArray.empty]) ∧ contLe (List.length (K k).bs + (1 : Nat)) (1 : Nat) (appRow (List.length (K k).bs) (cellsOf' encS (K k).bs) fun (k j : Nat) => Ax.get [AV.s (Value.string { data := #[] : ByteArray })] (k * (1 : Nat) + j)) (cellsOf' encS ((K k).bs ++ [ByteArray.empty])) ∧ (decide (List.length (K k).ys = List.length (K k).ys) && decide (List.length (K k).ys + (1 : Nat) ≤ (9223372036854775807 : Nat)) && decide ((List.length (K k).ys + (1 : Nat)) * (8 : Nat) ≤ (140737488355328 : Nat))) = true ∧ List.length (K k).ys + (1 : Nat) = List.length ((K k).ys ++ [(0 : Int)]) ∧ contLe (List.length (K k).ys + (1 : Nat)) (1 : Nat) (appRow (List.length (K k).ys) (cellsOf' encI (K k).ys) fun (k j : Nat) => Ax.get [AV.s (Value.int IntKind.i64 (0 : Int))] (k * (1 : Nat) + j)) (cellsOf' encI ((K k).ys ++ [(0 : Int)])) ∧ (true && decide ((↑q : Int) < (↑(List.length (K k).bs + (1 : Nat)) : Int))) = true ∧ decide ((0 : Nat) + Int.toNat (↑q : Int) < List.length ((K k).bs ++ [ByteArray.empty])) = true ∧ (true && decide ((↑k : Int) < (↑(List.length l) : Int))) = true ∧ (∀ (k_1 : Nat), k_1 < List.length (List.getD l (Int.toNat (↑k : Int)) (@default Wr instInhabitedWr)).b → true = true) ∧ decide (ByteArray.size (List.getD ((K k).bs ++ [ByteArray.empty]) ((0 : Nat) + Int.toNat (↑q : Int)) (@default ByteArray ByteArray.instInhabited)) + ByteArray.size (strN (List.length (List.getD l (Int.toNat (↑k : Int)) (@default Wr instInhabitedWr)).b) (cellsOf' encB (List.getD l (Int.toNat (↑k : Int)) (@default Wr instInhabitedWr)).b)) ≤ (9223372036854775807 : Nat)) = true ∧ (true && decide ((↑q : Int) < (↑(List.length (K k).bs + (1 : Nat)) : Int))) = true ∧ decide ((0 : Nat) + Int.toNat (↑q : Int) < List.length ((K k).bs ++ [ByteArray.empty])) = true ∧ List.length ((K k).bs ++ [ByteArray.empty]) = List.length (kb2 (K k) (List.getD l k (@default Wr instInhabitedWr)) q) ∧ contLe (List.length ((K k).bs ++ [ByteArray.empty])) (1 : Nat) (wrRow (cellsOf' encS ((K k).bs ++ [ByteArray.empty])) ((0 : Nat) + Int.toNat (↑q : Int)) (0 : Nat) [AV.y (Value.string (List.getD ((K k).bs ++ [ByteArray.empty]) ((0 : Nat) + Int.toNat (↑q : Int)) (@default ByteArray ByteArray.instInhabited) ++ strN (List.length (List.getD l (Int.toNat (↑k : Int)) (@default Wr instInhabitedWr)).b) (cellsOf' encB (List.getD l (Int.toNat (↑k : Int)) (@default Wr instInhabitedWr)).b)))]) (cellsOf' encS (kb2 (K k) (List.getD l k (@default Wr instInhabitedWr)) q)) ∧ (true && decide ((↑k : Int) < (↑(List.length l) : Int))) = true ∧ ((List.getD l (Int.toNat (↑k : Int)) (@default Wr instInhabitedWr)).sync = true → (true && decide ((↑k : Int) < (↑(List.length l) : Int))) = true ∧ (((0 : Nat) = (0 : Nat) ∧ (0 : Nat) = (0 : Nat)) ∧ (List.getD l (Int.toNat (↑k : Int)) (@default Wr instInhabitedWr)).name = (List.getD l k (@default Wr instInhabitedWr)).name ∧ True) ∧ ((True ∧ y1.room = y1.room ∧ y1.used = y1.used ∧ y1.down = y1.down ∧ y1.trip = y1.trip ∧ y1.fail = y1.fail ∧ True) ∧ (vcKeL_q3 y1) ∧ True) ∧ OpIs y2 (syD y1 (List.getD l k (@default Wr instInhabitedWr)).name) e2 (syE y1 (List.getD l k (@default Wr instInhabitedWr)).name) ∧ ((e2 == (0 : Int)) = true → (true && decide ((↑q : Int) < (↑(List.length (K k).bs + (1 : Nat)) : Int))) = true ∧ decide ((0 : Nat) + Int.toNat (↑q : Int) < List.length (kb2 (K k) (List.getD l k (@default Wr instInhabitedWr)) q)) = true ∧ (true && decide ((↑q : Int) < (↑(List.length (K k).ys + (1 : Nat)) : Int))) = true ∧ decide ((0 : Nat) + Int.toNat (↑q : Int) < List.length ((K k).ys ++ [(0 : Int)])) = true ∧ ∃ (j : Nat), List.length l - j < List.length l - k ∧ (((vcKeL_q2 b l) ∧ (vcKeL_q1 c keep) ∧ ((0 : Nat) = (0 : Nat) ∧ (0 : Nat) = (0 : Nat)) ∧ ((0 : Nat) = (0 : Nat) ∧ List.length (K k).ns + (1 : Nat) = List.length (K j).ns) ∧ ((0 : Nat) = (0 : Nat) ∧ List.length (K k).bs + (1 : Nat) = List.length (K j).bs) ∧ ((0 : Nat) = (0 : Nat) ∧ List.length (K k).ys + (1 : Nat) = List.length (K j).ys) ∧ IntKind.wrap IntKind.i64 ((↑k : Int) + (1 : Int)) = (↑j : Int) ∧ True) ∧ ((True ∧ y2.room = (K j).d.room ∧ y2.used = (K j).d.used ∧ y2.down = (K j).d.down ∧ y2.trip = (K j).d.trip ∧ y2.fail = (K j).d.fail ∧ True) ∧ (y2.n = (K j).d.n ∧ (∀ (x : ByteArray), y2.has x = (K j).d.has x) ∧ ∀ (x : ByteArray), y2.has x = true → (List.length (y2.f x).b = List.length ((K j).d.f x).b ∧ contLe (List.length (y2.f x).b) (1 : Nat) (cellsOf' encB (y2.f x).b) (cellsOf' encB ((K j).d.f x).b)) ∧ (y2.f x).syn = ((K j).d.f x).syn ∧ True) ∧ (List.length ((K k).ns ++ [(List.getD l k (@default Wr instInhabitedWr)).name]) = List.length (K j).ns ∧ contLe (List.length ((K k).ns ++ [(List.getD l k (@default Wr instInhabitedWr)).name])) (1 : Nat) (cellsOf' encS ((K k).ns ++ [(List.getD l k (@default Wr instInhabitedWr)).name])) (cellsOf' encS (K j).ns)) ∧ (List.length (kb2 (K k) (List.getD l k (@default Wr instInhabitedWr)) q) = List.length (K j).bs ∧ contLe (List.length (kb2 (K k) (List.getD l k (@default Wr instInhabitedWr)) q)) (1 : Nat) (cellsOf' encS (kb2 (K k) (List.getD l k (@default Wr instInhabitedWr)) q)) (cellsOf' encS (K j).bs)) ∧ (List.length ((K k).ys ++ [(0 : Int)]) = List.length (K j).ys ∧ contLe (List.length ((K k).ys ++ [(0 : Int)])) (1 : Nat) (wrRow (cellsOf' encI ((K k).ys ++ [(0 : Int)])) ((0 : Nat) + Int.toNat (↑q : Int)) (0 : Nat) [AV.y (Value.int IntKind.i64 (↑(ByteArray.size (List.getD (kb2 (K k) (List.getD l k (@default Wr instInhabitedWr)) q) ((0 : Nat) + Int.toNat (↑q : Int)) (@default ByteArray ByteArray.instInhabited))) : Int))]) (cellsOf' encI (K j).ys)) ∧ True) ∧ true = true) ∧ true = true ∧ () = ()) ∧ ((e2 == (0 : Int)) = false → ∃ (j : Nat), List.length l - j < List.length l - k ∧ (((vcKeL_q2 b l) ∧ (vcKeL_q1 c keep) ∧ ((0 : Nat) = (0 : Nat) ∧ (0 : Nat) = (0 : Nat)) ∧ ((0 : Nat) = (0 : Nat) ∧ List.length (K k).ns + (1 : Nat) = List.length (K j).ns) ∧ ((0 : Nat) = (0 : Nat) ∧ List.length (K k).bs + (1 : Nat) = List.length (K j).bs) ∧ ((0 : Nat) = (0 : Nat) ∧ List.length (K k).ys + (1 : Nat) = List.length (K j).ys) ∧ IntKind.wrap IntKind.i64 ((↑k : Int) + (1 : Int)) = (↑j : Int) ∧ True) ∧ ((True ∧ y2.room = (K j).d.room ∧ y2.used = (K j).d.used ∧ y2.down = (K j).d.down ∧ y2.trip = (K j).d.trip ∧ y2.fail = (K j).d.fail ∧ True) ∧ (y2.n = (K j).d.n ∧ (∀ (x : ByteArray), y2.has x = (K j).d.has x) ∧ ∀ (x : ByteArray), y2.has x = true → (List.length (y2.f x).b = List.length ((K j).d.f x).b ∧ contLe (List.length (y2.f x).b) (1 : Nat) (cellsOf' encB (y2.f x).b) (cellsOf' encB ((K j).d.f x).b)) ∧ (y2.f x).syn = ((K j).d.f x).syn ∧ True) ∧ (List.length ((K k).ns ++ [(List.getD l k (@default Wr instInhabitedWr)).name]) = List.length (K j).ns ∧ contLe (List.length ((K k).ns ++ [(List.getD l k (@default Wr instInhabitedWr)).name])) (1 : Nat) (cellsOf' encS ((K k).ns ++ [(List.getD l k (@default Wr instInhabitedWr)).name])) (cellsOf' encS (K j).ns)) ∧ (List.length (kb2 (K k) (List.getD l k (@default Wr instInhabitedWr)) q) = List.length (K j).bs ∧ contLe (List.length (kb2 (K k) (List.getD l k (@default Wr instInhabitedWr)) q)) (1 : Nat) (cellsOf' encS (kb2 (K k) (List.getD l k (@default Wr instInhabitedWr)) q)) (cellsOf' encS (K j).bs)) ∧ (List.length ((K k).ys ++ [(0 : Int)]) = List.length (K j).ys ∧ contLe (List.length ((K k).ys ++ [(0 : Int)])) (1 : Nat) (cellsOf' encI ((K k).ys ++ [(0 : Int)])) (cellsOf' encI (K j).ys)) ∧ True) ∧ true = true) ∧ true = true ∧ () = ())) ∧ ((List.getD l (Int.toNat (↑k : Int)) (@default Wr instInhabitedWr)).sync = false → ∃ (j : Nat), List.length l - j < List.length l - k ∧ (((vcKeL_q2 b l) ∧ (vcKeL_q1 c keep) ∧ ((0 : Nat) = (0 : Nat) ∧ (0 : Nat) = (0 : Nat)) ∧ ((0 : Nat) = (0 : Nat) ∧ List.length (K k).ns + (1 : Nat) = List.length (K j).ns) ∧ ((0 : Nat) = (0 : Nat) ∧ List.length (K k).bs + (1 : Nat) = List.length (K j).bs) ∧ ((0 : Nat) = (0 : Nat) ∧ List.length (K k).ys + (1 : Nat) = List.length (K j).ys) ∧ IntKind.wrap IntKind.i64 ((↑k : Int) + (1 : Int)) = (↑j : Int) ∧ True) ∧ ((True ∧ y1.room = (K j).d.room ∧ y1.used = (K j).d.used ∧ y1.down = (K j).d.down ∧ y1.trip = (K j).d.trip ∧ y1.fail = (K j).d.fail ∧ True) ∧ (y1.n = (K j).d.n ∧ (∀ (x : ByteArray), y1.has x = (K j).d.has x) ∧ ∀ (x : ByteArray), y1.has x = true → (List.length (y1.f x).b = List.length ((K j).d.f x).b ∧ contLe (List.length (y1.f x).b) (1 : Nat) (cellsOf' encB (y1.f x).b) (cellsOf' encB ((K j).d.f x).b)) ∧ (y1.f x).syn = ((K j).d.f x).syn ∧ True) ∧ (List.length ((K k).ns ++ [(List.getD l k (@default Wr instInhabitedWr)).name]) = List.length (K j).ns ∧ contLe (List.length ((K k).ns ++ [(List.getD l k (@default Wr instInhabitedWr)).name])) (1 : Nat) (cellsOf' encS ((K k).ns ++ [(List.getD l k (@default Wr instInhabitedWr)).name])) (cellsOf' encS (K j).ns)) ∧ (List.length (kb2 (K k) (List.getD l k (@default Wr instInhabitedWr)) q) = List.length (K j).bs ∧ contLe (List.length (kb2 (K k) (List.getD l k (@default Wr instInhabitedWr)) q)) (1 : Nat) (cellsOf' encS (kb2 (K k) (List.getD l k (@default Wr instInhabitedWr)) q)) (cellsOf' encS (K j).bs)) ∧ (List.length ((K k).ys ++ [(0 : Int)]) = List.length (K j).ys ∧ contLe (List.length ((K k).ys ++ [(0 : Int)])) (1 : Nat) (cellsOf' encI ((K k).ys ++ [(0 : Int)])) (cellsOf' encI (K j).ys)) ∧ True) ∧ true = true) ∧ true = true ∧ () = ())) ∧ (((↑q : Int) == (↑(List.length (K k).ns) : Int)) = false → (true && decide ((↑q : Int) < (↑(List.length (K k).bs) : Int))) = true ∧ decide ((0 : Nat) + Int.toNat (↑q : Int) < List.length (K k).bs) = true ∧ (true && decide ((↑k : Int) < (↑(List.length l) : Int))) = true ∧ (∀ (k_1 : Nat), k_1 < List.length (List.getD l (Int.toNat (↑k : Int)) (@default Wr instInhabitedWr)).b → true = true) ∧ decide (ByteArray.size (List.getD (K k).bs ((0 : Nat) + Int.toNat (↑q : Int)) (@default ByteArray ByteArray.instInhabited)) + ByteArray.size (strN (List.length (List.getD l (Int.toNat (↑k : Int)) (@default Wr instInhabitedWr)).b) (cellsOf' encB (List.getD l (Int.toNat (↑k : Int)) (@default Wr instInhabitedWr)).b)) ≤ (9223372036854775807 : Nat)) = true ∧ (true && decide ((↑q : Int) < (↑(List.length (K k).bs) : Int))) = true ∧ decide ((0 : Nat) + Int.toNat (↑q : Int) < List.length (K k).bs) = true ∧ List.length (K k).bs = List.length (kb2 (K k) (List.getD l k (@default Wr instInhabitedWr)) q) ∧ contLe (List.length (K k).bs) (1 : Nat) (wrRow (cellsOf' encS (K k).bs) ((0 : Nat) + Int.toNat (↑q : Int)) (0 : Nat) [AV.y (Value.string (List.getD (K k).bs ((0 : Nat) + Int.toNat (↑q : Int)) (@default ByteArray ByteArray.instInhabited) ++ strN (List.length (List.getD l (Int.toNat (↑k : Int)) (@default Wr instInhabitedWr)).b) (cellsOf' encB (List.getD l (Int.toNat (↑k : Int)) (@default Wr instInhabitedWr)).b)))]) (cellsOf' encS (kb2 (K k) (List.getD l k (@default Wr instInhabitedWr)) q)) ∧ (true && decide ((↑k : Int) < (↑(List.length l) : Int))) = true ∧ ((List.getD l (Int.toNat (↑k : Int)) (@default Wr instInhabitedWr)).sync = true → (true && decide ((↑k : Int) < (↑(List.length l) : Int))) = true ∧ (((0 : Nat) = (0 : Nat) ∧ (0 : Nat) = (0 : Nat)) ∧ (List.getD l (Int.toNat (↑k : Int)) (@default Wr instInhabitedWr)).name = (List.getD l k (@default Wr instInhabitedWr)).name ∧ True) ∧ ((True ∧ y1.room = y1.room ∧ y1.used = y1.used ∧ y1.down = y1.down ∧ y1.trip = y1.trip ∧ y1.fail = y1.fail ∧ True) ∧ (vcKeL_q3 y1) ∧ True) ∧ OpIs y2 (syD y1 (List.getD l k (@default Wr instInhabitedWr)).name) e2 (syE y1 (List.getD l k (@default Wr instInhabitedWr)).name) ∧ ((e2 == (0 : Int)) = true → (true && decide ((↑q : Int) < (↑(List.length (K k).bs) : Int))) = true ∧ decide ((0 : Nat) + Int.toNat (↑q : Int) < List.length (kb2 (K k) (List.getD l k (@default Wr instInhabitedWr)) q)) = true ∧ (true && decide ((↑q : Int) < (↑(List.length (K k).ys) : Int))) = true ∧ decide ((0 : Nat) + Int.toNat (↑q : Int) < List.length (K k).ys) = true ∧ ∃ (j : Nat), List.length l - j < List.length l - k ∧ (((vcKeL_q2 b l) ∧ (vcKeL_q1 c keep) ∧ ((0 : Nat) = (0 : Nat) ∧ (0 : Nat) = (0 : Nat)) ∧ ((0 : Nat) = (0 : Nat) ∧ List.length (K k).ns = List.length (K j).ns) ∧ ((0 : Nat) = (0 : Nat) ∧ List.length (K k).bs = List.length (K j).bs) ∧ ((0 : Nat) = (0 : Nat) ∧ List.length (K k).ys = List.length (K j).ys) ∧ IntKind.wrap IntKind.i64 ((↑k : Int) + (1 : Int)) = (↑j : Int) ∧ True) ∧ ((True ∧ y2.room = (K j).d.room ∧ y2.used = (K j).d.used ∧ y2.down = (K j).d.down ∧ y2.trip = (K j).d.trip ∧ y2.fail = (K j).d.fail ∧ True) ∧ (y2.n = (K j).d.n ∧ (∀ (x : ByteArray), y2.has x = (K j).d.has x) ∧ ∀ (x : ByteArray), y2.has x = true → (List.length (y2.f x).b = List.length ((K j).d.f x).b ∧ contLe (List.length (y2.f x).b) (1 : Nat) (cellsOf' encB (y2.f x).b) (cellsOf' encB ((K j).d.f x).b)) ∧ (y2.f x).syn = ((K j).d.f x).syn ∧ True) ∧ (List.length (K k).ns = List.length (K j).ns ∧ contLe (List.length (K k).ns) (1 : Nat) (cellsOf' encS (K k).ns) (cellsOf' encS (K j).ns)) ∧ (List.length (kb2 (K k) (List.getD l k (@default Wr instInhabitedWr)) q) = List.length (K j).bs ∧ contLe (List.length (kb2 (K k) (List.getD l k (@default Wr instInhabitedWr)) q)) (1 : Nat) (cellsOf' encS (kb2 (K k) (List.getD l k (@default Wr instInhabitedWr)) q)) (cellsOf' encS (K j).bs)) ∧ (List.length (K k).ys = List.length (K j).ys ∧ contLe (List.length (K k).ys) (1 : Nat) (wrRow (cellsOf' encI (K k).ys) ((0 : Nat) + Int.toNat (↑q : Int)) (0 : Nat) [AV.y (Value.int IntKind.i64 (↑(ByteArray.size (List.getD (kb2 (K k) (List.getD l k (@default Wr instInhabitedWr)) q) ((0 : Nat) + Int.toNat (↑q : Int)) (@default ByteArray ByteArray.instInhabited))) : Int))]) (cellsOf' encI (K j).ys)) ∧ True) ∧ true = true) ∧ true = true ∧ () = ()) ∧ ((e2 == (0 : Int)) = false → ∃ (j : Nat), List.length l - j < List.length l - k ∧ (((vcKeL_q2 b l) ∧ (vcKeL_q1 c keep) ∧ ((0 : Nat) = (0 : Nat) ∧ (0 : Nat) = (0 : Nat)) ∧ ((0 : Nat) = (0 : Nat) ∧ List.length (K k).ns = List.length (K j).ns) ∧ ((0 : Nat) = (0 : Nat) ∧ List.length (K k).bs = List.length (K j).bs) ∧ ((0 : Nat) = (0 : Nat) ∧ List.length (K k).ys = List.length (K j).ys) ∧ IntKind.wrap IntKind.i64 ((↑k : Int) + (1 : Int)) = (↑j : Int) ∧ True) ∧ ((True ∧ y2.room = (K j).d.room ∧ y2.used = (K j).d.used ∧ y2.down = (K j).d.down ∧ y2.trip = (K j).d.trip ∧ y2.fail = (K j).d.fail ∧ True) ∧ (y2.n = (K j).d.n ∧ (∀ (x : ByteArray), y2.has x = (K j).d.has x) ∧ ∀ (x : ByteArray), y2.has x = true → (List.length (y2.f x).b = List.length ((K j).d.f x).b ∧ contLe (List.length (y2.f x).b) (1 : Nat) (cellsOf' encB (y2.f x).b) (cellsOf' encB ((K j).d.f x).b)) ∧ (y2.f x).syn = ((K j).d.f x).syn ∧ True) ∧ (List.length (K k).ns = List.length (K j).ns ∧ contLe (List.length (K k).ns) (1 : Nat) (cellsOf' encS (K k).ns) (cellsOf' encS (K j).ns)) ∧ (List.length (kb2 (K k) (List.getD l k (@default Wr instInhabitedWr)) q) = List.length (K j).bs ∧ contLe (List.length (kb2 (K k) (List.getD l k (@default Wr instInhabitedWr)) q)) (1 : Nat) (cellsOf' encS (kb2 (K k) (List.getD l k (@default Wr instInhabitedWr)) q)) (cellsOf' encS (K j).bs)) ∧ (List.length (K k).ys = List.length (K j).ys ∧ contLe (List.length (K k).ys) (1 : Nat) (cellsOf' encI (K k).ys) (cellsOf' encI (K j).ys)) ∧ True) ∧ true = true) ∧ true = true ∧ () = ())) ∧ ((List.getD l (Int.toNat (↑k : Int)) (@default Wr instInhabitedWr)).sync = false → ∃ (j : Nat), List.length l - j < List.length l - k ∧ (((vcKeL_q2 b l) ∧ (vcKeL_q1 c keep) ∧ ((0 : Nat) = (0 : Nat) ∧ (0 : Nat) = (0 : Nat)) ∧ ((0 : Nat) = (0 : Nat) ∧ List.length (K k).ns = List.length (K j).ns) ∧ ((0 : Nat) = (0 : Nat) ∧ List.length (K k).bs = List.length (K j).bs) ∧ ((0 : Nat) = (0 : Nat) ∧ List.length (K k).ys = List.length (K j).ys) ∧ IntKind.wrap IntKind.i64 ((↑k : Int) + (1 : Int)) = (↑j : Int) ∧ True) ∧ ((True ∧ y1.room = (K j).d.room ∧ y1.used = (K j).d.used ∧ y1.down = (K j).d.down ∧ y1.trip = (K j).d.trip ∧ y1.fail = (K j).d.fail ∧ True) ∧ (y1.n = (K j).d.n ∧ (∀ (x : ByteArray), y1.has x = (K j).d.has x) ∧ ∀ (x : ByteArray), y1.has x = true → (List.length (y1.f x).b = List.length ((K j).d.f x).b ∧ contLe (List.length (y1.f x).b) (1 : Nat) (cellsOf' encB (y1.f x).b) (cellsOf' encB ((K j).d.f x).b)) ∧ (y1.f x).syn = ((K j).d.f x).syn ∧ True) ∧ (List.length (K k).ns = List.length (K j).ns ∧ contLe (List.length (K k).ns) (1 : Nat) (cellsOf' encS (K k).ns) (cellsOf' encS (K j).ns)) ∧ (List.length (kb2 (K k) (List.getD l k (@default Wr instInhabitedWr)) q) = List.length (K j).bs ∧ contLe (List.length (kb2 (K k) (List.getD l k (@default Wr instInhabitedWr)) q)) (1 : Nat) (cellsOf' encS (kb2 (K k) (List.getD l k (@default Wr instInhabitedWr)) q)) (cellsOf' encS (K j).bs)) ∧ (List.length (K k).ys = List.length (K j).ys ∧ contLe (List.length (K k).ys) (1 : Nat) (cellsOf' encI (K k).ys) (cellsOf' encI (K j).ys)) ∧ True) ∧ true = true) ∧ true = true ∧ () = ())))) ∧ (decide ((↑k : Int) < (↑(List.length l) : Int)) = false → ((vcKeL_q1 c keep) ∧ ((0 : Nat) = (0 : Nat) ∧ (0 : Nat) = (0 : Nat)) ∧ ((0 : Nat) = (0 : Nat) ∧ List.length (K k).ns = List.length (K n).ns) ∧ ((0 : Nat) = (0 : Nat) ∧ List.length (K k).bs = List.length (K n).bs) ∧ ((0 : Nat) = (0 : Nat) ∧ List.length (K k).ys = List.length (K n).ys) ∧ True) ∧ ((True ∧ (K k).d.room = (K n).d.room ∧ (K k).d.used = (K n).d.used ∧ (K k).d.down = (K n).d.down ∧ (K k).d.trip = (K n).d.trip ∧ (K k).d.fail = (K n).d.fail ∧ True) ∧ ((K k).d.n = (K n).d.n ∧ (∀ (x : ByteArray), (K k).d.has x = (K n).d.has x) ∧ ∀ (x : ByteArray), (K k).d.has x = true → (List.length ((K k).d.f x).b = List.length ((K n).d.f x).b ∧ contLe (List.length ((K k).d.f x).b) (1 : Nat) (cellsOf' encB ((K k).d.f x).b) (cellsOf' encB ((K n).d.f x).b)) ∧ ((K k).d.f x).syn = ((K n).d.f x).syn ∧ True) ∧ (List.length (K k).ns = List.length (K n).ns ∧ contLe (List.length (K k).ns) (1 : Nat) (cellsOf' encS (K k).ns) (cellsOf' encS (K n).ns)) ∧ (List.length (K k).bs = List.length (K n).bs ∧ contLe (List.length (K k).bs) (1 : Nat) (cellsOf' encS (K k).bs) (cellsOf' encS (K n).bs)) ∧ (List.length (K k).ys = List.length (K n).ys ∧ contLe (List.length (K k).ys) (1 : Nat) (cellsOf' encI (K k).ys) (cellsOf' encI (K n).ys)) ∧ True) ∧ true = true)
theorem vcKeL_eq (b : Bool) (c : Bool) (l : List Wr) (keep : List Int) (K : Nat → KS) (y1 : Dsk) (y2 : Dsk) (e1 : Int) (e2 : Int) (q : Nat) (n : Nat) (k : Nat) : (loopVC Tryd.prog (keLH b c l keep (K k) k y1 y2 e1 e2 q (l.getD k default)) 3 10 (fun k => l.length - k) (keT b c l keep K) (fun k => kM (K k).d (K k)) jK2 (fun _ => .ret ()) (keS c keep (K n)) k) = vcKeL b c l keep K y1 y2 e1 e2 q n k := by kernel_rfl
def chT (K : KS) (k : Nat) : List AV := mkT 219 [(8, .ptr 0 0 0 0), (10, .own 2 1 0 K.ns.length), (11, .own 3 1 0 K.bs.length), (12, .own 4 1 0 K.ys.length), (16, .y (.int .i64 k))]
def chS (d : Dsk) (K : KS) (_ : Unit) : Exit × List AV × List Blk := (.exit 4, mkT 219 [(8, .ptr 0 0 0 0), (10, .own 2 1 0 K.ns.length)], kM d K)
noncomputable def chH (d : Dsk) (s : ByteArray) (n : Int) : HintsT Tryd.prog := { hh _ noLp (cs1 3 28 5 (szC d s) (cs1 3 29 11 (rdC d s 0 n) noCs)) noOp with sub := fun _ => true }
def vcCh_q1 (d : Dsk) : Prop := (d.n = d.n ∧ (∀ (x : ByteArray), d.has x = d.has x) ∧ ∀ (x : ByteArray), d.has x = true → (List.length (d.f x).b = List.length (d.f x).b ∧ contLe (List.length (d.f x).b) (1 : Nat) (cellsOf' encB (d.f x).b) (cellsOf' encB (d.f x).b)) ∧ (d.f x).syn = (d.f x).syn ∧ True)
def vcCh_q2 (d : Dsk) (K : KS) : Prop := ((True ∧ d.room = d.room ∧ d.used = d.used ∧ d.down = d.down ∧ d.trip = d.trip ∧ d.fail = d.fail ∧ True) ∧ (vcCh_q1 d) ∧ (List.length K.ns = List.length K.ns ∧ contLe (List.length K.ns) (1 : Nat) (cellsOf' encS K.ns) (cellsOf' encS K.ns)) ∧ (List.length K.bs = List.length K.bs ∧ contLe (List.length K.bs) (1 : Nat) (cellsOf' encS K.bs) (cellsOf' encS K.bs)) ∧ (List.length K.ys = List.length K.ys ∧ contLe (List.length K.ys) (1 : Nat) (cellsOf' encI K.ys) (cellsOf' encI K.ys)) ∧ True)
def vcCh (d : Dsk) (K : KS) (k : Nat) : Prop :=
  (decide ((↑k : Int) < (↑(List.length K.ns) : Int)) = true → (true && decide ((↑k : Int) < (↑(List.length K.ns) : Int))) = true ∧ decide ((0 : Nat) + Int.toNat (↑k : Int) < List.length K.ns) = true ∧ (((0 : Nat) = (0 : Nat) ∧ (0 : Nat) = (0 : Nat)) ∧ List.getD K.ns ((0 : Nat) + Int.toNat (↑k : Int)) (@default ByteArray ByteArray.instInhabited) = List.getD K.ns k (@default ByteArray ByteArray.instInhabited) ∧ True) ∧ ((True ∧ d.room = d.room ∧ d.used = d.used ∧ d.down = d.down ∧ d.trip = d.trip ∧ d.fail = d.fail ∧ True) ∧ (vcCh_q1 d) ∧ True) ∧ (true && decide ((↑k : Int) < (↑(List.length K.ns) : Int))) = true ∧ decide ((0 : Nat) + Int.toNat (↑k : Int) < List.length K.ns) = true ∧ (true && decide ((↑k : Int) < (↑(List.length K.bs) : Int))) = true ∧ decide ((0 : Nat) + Int.toNat (↑k : Int) < List.length K.bs) = true ∧ (((0 : Nat) = (0 : Nat) ∧ (0 : Nat) = (0 : Nat)) ∧ List.getD K.ns ((0 : Nat) + Int.toNat (↑k : Int)) (@default ByteArray ByteArray.instInhabited) = List.getD K.ns k (@default ByteArray ByteArray.instInhabited) ∧ (0 : Int) = (0 : Int) ∧ IntKind.wrap IntKind.i64 ((↑(ByteArray.size (List.getD K.bs ((0 : Nat) + Int.toNat (↑k : Int)) (@default ByteArray ByteArray.instInhabited))) : Int) + (1 : Int)) = (↑(ByteArray.size (List.getD K.bs k (@default ByteArray ByteArray.instInhabited))) : Int) + (1 : Int) ∧ True) ∧ ((True ∧ d.room = d.room ∧ d.used = d.used ∧ d.down = d.down ∧ d.trip = d.trip ∧ d.fail = d.fail ∧ True) ∧ (vcCh_q1 d) ∧ True) ∧ List.length (Dsk.get d (List.getD K.ns k (@default ByteArray ByteArray.instInhabited))).b ≤ (140737488355328 : Nat) ∧ (↑(ByteArray.size (List.getD K.bs k (@default ByteArray ByteArray.instInhabited))) : Int) + (1 : Int) ≤ (9223372036854775807 : Int) ∧ ((!d.has (List.getD K.ns k (@default ByteArray ByteArray.instInhabited))) = true → False) ∧ ((!d.has (List.getD K.ns k (@default ByteArray ByteArray.instInhabited))) = false → ((rdE d (List.getD K.ns k (@default ByteArray ByteArray.instInhabited)) (0 : Int) ((↑(ByteArray.size (List.getD K.bs k (@default ByteArray ByteArray.instInhabited))) : Int) + (1 : Int)) != (0 : Int)) = true → False) ∧ ((rdE d (List.getD K.ns k (@default ByteArray ByteArray.instInhabited)) (0 : Int) ((↑(ByteArray.size (List.getD K.bs k (@default ByteArray ByteArray.instInhabited))) : Int) + (1 : Int)) != (0 : Int)) = false → (((↑(List.length (Dsk.get d (List.getD K.ns k (@default ByteArray ByteArray.instInhabited))).b) : Int) != (Dsk.get d (List.getD K.ns k (@default ByteArray ByteArray.instInhabited))).syn) = true → False) ∧ (((↑(List.length (Dsk.get d (List.getD K.ns k (@default ByteArray ByteArray.instInhabited))).b) : Int) != (Dsk.get d (List.getD K.ns k (@default ByteArray ByteArray.instInhabited))).syn) = false → (true && decide ((↑k : Int) < (↑(List.length K.ys) : Int))) = true ∧ decide ((0 : Nat) + Int.toNat (↑k : Int) < List.length K.ys) = true ∧ (decide ((↑(List.length (Dsk.get d (List.getD K.ns k (@default ByteArray ByteArray.instInhabited))).b) : Int) < List.getD K.ys ((0 : Nat) + Int.toNat (↑k : Int)) (0 : Int)) = true → False) ∧ (decide ((↑(List.length (Dsk.get d (List.getD K.ns k (@default ByteArray ByteArray.instInhabited))).b) : Int) < List.getD K.ys ((0 : Nat) + Int.toNat (↑k : Int)) (0 : Int)) = false → (true && decide ((↑k : Int) < (↑(List.length K.bs) : Int))) = true ∧ decide ((0 : Nat) + Int.toNat (↑k : Int) < List.length K.bs) = true ∧ (decide ((↑(ByteArray.size (List.getD K.bs ((0 : Nat) + Int.toNat (↑k : Int)) (@default ByteArray ByteArray.instInhabited))) : Int) < (↑(List.length (Dsk.get d (List.getD K.ns k (@default ByteArray ByteArray.instInhabited))).b) : Int)) = true → False) ∧ (decide ((↑(ByteArray.size (List.getD K.bs ((0 : Nat) + Int.toNat (↑k : Int)) (@default ByteArray ByteArray.instInhabited))) : Int) < (↑(List.length (Dsk.get d (List.getD K.ns k (@default ByteArray ByteArray.instInhabited))).b) : Int)) = false → (((↑(List.length (rdL d (List.getD K.ns k (@default ByteArray ByteArray.instInhabited)) (0 : Int) ((↑(ByteArray.size (List.getD K.bs k (@default ByteArray ByteArray.instInhabited))) : Int) + (1 : Int)))) : Int) != (↑(List.length (Dsk.get d (List.getD K.ns k (@default ByteArray ByteArray.instInhabited))).b) : Int)) = true → False) ∧ (((↑(List.length (rdL d (List.getD K.ns k (@default ByteArray ByteArray.instInhabited)) (0 : Int) ((↑(ByteArray.size (List.getD K.bs k (@default ByteArray ByteArray.instInhabited))) : Int) + (1 : Int)))) : Int) != (↑(List.length (Dsk.get d (List.getD K.ns k (@default ByteArray ByteArray.instInhabited))).b) : Int)) = false → (∀ (k_1 : Nat), k_1 < List.length (rdL d (List.getD K.ns k (@default ByteArray ByteArray.instInhabited)) (0 : Int) ((↑(ByteArray.size (List.getD K.bs k (@default ByteArray ByteArray.instInhabited))) : Int) + (1 : Int))) → true = true) ∧ (true && decide ((↑k : Int) < (↑(List.length K.bs) : Int))) = true ∧ decide ((0 : Nat) + Int.toNat (↑k : Int) < List.length K.bs) = true ∧ (true && decide ((↑(List.length (Dsk.get d (List.getD K.ns k (@default ByteArray ByteArray.instInhabited))).b) : Int) ≤ (↑(ByteArray.size (List.getD K.bs ((0 : Nat) + Int.toNat (↑k : Int)) (@default ByteArray ByteArray.instInhabited))) : Int))) = true ∧ ((!List.map (fun (a : AV) => match match a with | AV.s (Value.int IntKind.u8 n) => some n | AV.y (Value.int IntKind.u8 n) => some n | x => none with | some n => UInt8.ofNat (Int.toNat n) | none => (0 : UInt8)) (List.map (fun (k_1 : Nat) => AV.y (Value.int IntKind.u8 (List.getD (rdL d (List.getD K.ns k (@default ByteArray ByteArray.instInhabited)) (0 : Int) ((↑(ByteArray.size (List.getD K.bs k (@default ByteArray ByteArray.instInhabited))) : Int) + (1 : Int))) k_1 (0 : Int)))) (List.range (List.length (rdL d (List.getD K.ns k (@default ByteArray ByteArray.instInhabited)) (0 : Int) ((↑(ByteArray.size (List.getD K.bs k (@default ByteArray ByteArray.instInhabited))) : Int) + (1 : Int)))))) == (Array.extract #[] (0 : Nat) (0 : Nat) ++ Array.extract (List.getD K.bs ((0 : Nat) + Int.toNat (↑k : Int)) (@default ByteArray ByteArray.instInhabited)).data (0 : Nat) ((0 : Nat) + (Int.toNat (↑(List.length (Dsk.get d (List.getD K.ns k (@default ByteArray ByteArray.instInhabited))).b) : Int) - (0 : Nat))) ++ Array.extract #[] ((0 : Nat) + min (Int.toNat (↑(List.length (Dsk.get d (List.getD K.ns k (@default ByteArray ByteArray.instInhabited))).b) : Int) - (0 : Nat)) (Array.size (List.getD K.bs ((0 : Nat) + Int.toNat (↑k : Int)) (@default ByteArray ByteArray.instInhabited)).data - (0 : Nat))) (0 : Nat)).toList) = true → False) ∧ ((!List.map (fun (a : AV) => match match a with | AV.s (Value.int IntKind.u8 n) => some n | AV.y (Value.int IntKind.u8 n) => some n | x => none with | some n => UInt8.ofNat (Int.toNat n) | none => (0 : UInt8)) (List.map (fun (k_1 : Nat) => AV.y (Value.int IntKind.u8 (List.getD (rdL d (List.getD K.ns k (@default ByteArray ByteArray.instInhabited)) (0 : Int) ((↑(ByteArray.size (List.getD K.bs k (@default ByteArray ByteArray.instInhabited))) : Int) + (1 : Int))) k_1 (0 : Int)))) (List.range (List.length (rdL d (List.getD K.ns k (@default ByteArray ByteArray.instInhabited)) (0 : Int) ((↑(ByteArray.size (List.getD K.bs k (@default ByteArray ByteArray.instInhabited))) : Int) + (1 : Int)))))) == (Array.extract #[] (0 : Nat) (0 : Nat) ++ Array.extract (List.getD K.bs ((0 : Nat) + Int.toNat (↑k : Int)) (@default ByteArray ByteArray.instInhabited)).data (0 : Nat) ((0 : Nat) + (Int.toNat (↑(List.length (Dsk.get d (List.getD K.ns k (@default ByteArray ByteArray.instInhabited))).b) : Int) - (0 : Nat))) ++ Array.extract #[] ((0 : Nat) + min (Int.toNat (↑(List.length (Dsk.get d (List.getD K.ns k (@default ByteArray ByteArray.instInhabited))).b) : Int) - (0 : Nat)) (Array.size (List.getD K.bs ((0 : Nat) + Int.toNat (↑k : Int)) (@default ByteArray ByteArray.instInhabited)).data - (0 : Nat))) (0 : Nat)).toList) = false → ∃ (j : Nat), List.length K.ns - j < List.length K.ns - k ∧ ((((0 : Nat) = (0 : Nat) ∧ (0 : Nat) = (0 : Nat)) ∧ ((0 : Nat) = (0 : Nat) ∧ List.length K.ns = List.length K.ns) ∧ ((0 : Nat) = (0 : Nat) ∧ List.length K.bs = List.length K.bs) ∧ ((0 : Nat) = (0 : Nat) ∧ List.length K.ys = List.length K.ys) ∧ IntKind.wrap IntKind.i64 ((↑k : Int) + (1 : Int)) = (↑j : Int) ∧ True) ∧ (vcCh_q2 d K) ∧ true = true) ∧ true = true ∧ () = ())))))))) ∧ (decide ((↑k : Int) < (↑(List.length K.ns) : Int)) = false → (((0 : Nat) = (0 : Nat) ∧ (0 : Nat) = (0 : Nat)) ∧ ((0 : Nat) = (0 : Nat) ∧ List.length K.ns = List.length K.ns) ∧ True) ∧ (vcCh_q2 d K) ∧ true = true)
theorem vcCh_eq (d : Dsk) (K : KS) (k : Nat) : (loopVC Tryd.prog (chH d (K.ns.getD k default) ((K.bs.getD k default).size + 1)) 3 26 (fun k => K.ns.length - k) (chT K) (fun _ => kM d K) jK (fun _ => .ret ()) (chS d K) k) = vcCh d K k := by kernel_rfl
noncomputable def lawH (b c : Bool) (l : List Wr) (trip : Int) (keep : List Int) (ks : List ByteArray) (K : Nat → KS) (d : Dsk) : HintsT Tryd.prog := { hh _ (lp1 3 10 (jobOf (keT b c l keep K) (fun k => kM (K k).d (K k)) jK2 (fun _ => .ret ()) (keS c keep (K l.length)) 0) (lp1 3 26 (jobOf (chT (K l.length)) (fun _ => kM d (K l.length)) jK (fun _ => .ret ()) (chS d (K l.length)) 0) noLp)) (cs1 3 1 0 lvC (cs1 3 2 0 (nwC 65536) (cs1 3 5 2 (tpC (d0 65536) trip) (cs1 3 24 2 (crC c (K l.length).d ks keep) (cs1 3 32 1 (liC d ks) (cs1 3 32 8 (dnC d) noCs)))))) (op1 3 6 0 (.row 9 1) (op1 3 7 0 (.row 9 1) (op1 3 8 0 (.row 3 1) noOp))) with sub := fun _ => true }
def vcLaw_q1 (d : Dsk) : Prop := ((True ∧ d.room = d.room ∧ d.used = d.used ∧ d.down = d.down ∧ d.trip = d.trip ∧ d.fail = d.fail ∧ True) ∧ (d.n = d.n ∧ (∀ (x : ByteArray), d.has x = d.has x) ∧ ∀ (x : ByteArray), d.has x = true → (List.length (d.f x).b = List.length (d.f x).b ∧ contLe (List.length (d.f x).b) (1 : Nat) (cellsOf' encB (d.f x).b) (cellsOf' encB (d.f x).b)) ∧ (d.f x).syn = (d.f x).syn ∧ True) ∧ True)
def vcLaw (b : Bool) (c : Bool) (l : List Wr) (trip : Int) (keep : List Int) (ks : List ByteArray) (K : Nat → KS) (d : Dsk) : Prop :=
  True ∧ True ∧ ((65536 : Int) = (65536 : Int) ∧ True) ∧ True ∧ (false = true → (false = true → false = true ∧ True) ∧ (false = false → false = true ∧ True)) ∧ (false = false → (false = true → false = true ∧ True) ∧ (false = false → (((0 : Nat) = (0 : Nat) ∧ (0 : Nat) = (0 : Nat)) ∧ trip = trip ∧ True) ∧ ((True ∧ (65536 : Int) = (65536 : Int) ∧ (0 : Int) = (0 : Int) ∧ false = false ∧ (-1 : Int) = (-1 : Int) ∧ (-1 : Int) = (-1 : Int) ∧ True) ∧ ((0 : Nat) = (0 : Nat) ∧ (∀ (x : ByteArray), false = false) ∧ ∀ (x : ByteArray), false = true → ((0 : Nat) = (0 : Nat) ∧ contLe (0 : Nat) (1 : Nat) (cellsOf' encB []) (cellsOf' encB [])) ∧ (0 : Int) = (0 : Int) ∧ True) ∧ True) ∧ (((b = b ∧ List.length l = List.length l ∧ contLe (List.length l) (3 : Nat) (cellsOf' encW l) (cellsOf' encW l)) ∧ (c = c ∧ List.length keep = List.length keep ∧ contLe (List.length keep) (1 : Nat) (cellsOf' encI keep) (cellsOf' encI keep)) ∧ ((0 : Nat) = (0 : Nat) ∧ (0 : Nat) = (0 : Nat)) ∧ ((0 : Nat) = (0 : Nat) ∧ (0 : Nat) = List.length (K (0 : Nat)).ns) ∧ ((0 : Nat) = (0 : Nat) ∧ (0 : Nat) = List.length (K (0 : Nat)).bs) ∧ ((0 : Nat) = (0 : Nat) ∧ (0 : Nat) = List.length (K (0 : Nat)).ys) ∧ (0 : Int) = (0 : Int) ∧ True) ∧ ((True ∧ (65536 : Int) = (K (0 : Nat)).d.room ∧ (0 : Int) = (K (0 : Nat)).d.used ∧ false = (K (0 : Nat)).d.down ∧ mx trip = (K (0 : Nat)).d.trip ∧ (-1 : Int) = (K (0 : Nat)).d.fail ∧ True) ∧ ((0 : Nat) = (K (0 : Nat)).d.n ∧ (∀ (x : ByteArray), false = (K (0 : Nat)).d.has x) ∧ ∀ (x : ByteArray), false = true → ((0 : Nat) = List.length ((K (0 : Nat)).d.f x).b ∧ contLe (0 : Nat) (1 : Nat) (cellsOf' encB []) (cellsOf' encB ((K (0 : Nat)).d.f x).b)) ∧ (0 : Int) = ((K (0 : Nat)).d.f x).syn ∧ True) ∧ ((0 : Nat) = List.length (K (0 : Nat)).ns ∧ contLe (0 : Nat) (1 : Nat) (fun (x x_1 : Nat) => AV.junk) (cellsOf' encS (K (0 : Nat)).ns)) ∧ ((0 : Nat) = List.length (K (0 : Nat)).bs ∧ contLe (0 : Nat) (1 : Nat) (fun (x x_1 : Nat) => AV.junk) (cellsOf' encS (K (0 : Nat)).bs)) ∧ ((0 : Nat) = List.length (K (0 : Nat)).ys ∧ contLe (0 : Nat) (1 : Nat) (fun (x x_1 : Nat) => AV.junk) (cellsOf' encI (K (0 : Nat)).ys)) ∧ True) ∧ true = true) ∧ LoopOk Tryd.prog (3 : Nat) (10 : Nat) (loopAt Tryd.prog (3 : Nat) (10 : Nat)) { t := keT b c l keep K (0 : Nat), m := kM (K (0 : Nat)).d (K (0 : Nat)), mv := [] : St } (T.map (lout jK2 (keS c keep (K (List.length l)))) ((fun (x : Nat) => T.ret ()) (0 : Nat))) ∧ (((0 : Nat) = (0 : Nat) ∧ (0 : Nat) = (0 : Nat)) ∧ (c = c ∧ List.length keep = List.length keep ∧ contLe (List.length keep) (1 : Nat) (cellsOf' encI keep) (cellsOf' encI keep)) ∧ True) ∧ ((True ∧ (K (List.length l)).d.room = (K (List.length l)).d.room ∧ (K (List.length l)).d.used = (K (List.length l)).d.used ∧ (K (List.length l)).d.down = (K (List.length l)).d.down ∧ (K (List.length l)).d.trip = (K (List.length l)).d.trip ∧ (K (List.length l)).d.fail = (K (List.length l)).d.fail ∧ True) ∧ ((K (List.length l)).d.n = (K (List.length l)).d.n ∧ (∀ (x : ByteArray), (K (List.length l)).d.has x = (K (List.length l)).d.has x) ∧ ∀ (x : ByteArray), (K (List.length l)).d.has x = true → (List.length ((K (List.length l)).d.f x).b = List.length ((K (List.length l)).d.f x).b ∧ contLe (List.length ((K (List.length l)).d.f x).b) (1 : Nat) (cellsOf' encB ((K (List.length l)).d.f x).b) (cellsOf' encB ((K (List.length l)).d.f x).b)) ∧ ((K (List.length l)).d.f x).syn = ((K (List.length l)).d.f x).syn ∧ True) ∧ True) ∧ (∀ (s : ByteArray), (K (List.length l)).d.has s = true → FOk ((K (List.length l)).d.f s)) ∧ SrtOk ks (K (List.length l)).d.has (K (List.length l)).d.n ∧ ((((0 : Nat) = (0 : Nat) ∧ (0 : Nat) = (0 : Nat)) ∧ ((0 : Nat) = (0 : Nat) ∧ List.length (K (List.length l)).ns = List.length (K (List.length l)).ns) ∧ ((0 : Nat) = (0 : Nat) ∧ List.length (K (List.length l)).bs = List.length (K (List.length l)).bs) ∧ ((0 : Nat) = (0 : Nat) ∧ List.length (K (List.length l)).ys = List.length (K (List.length l)).ys) ∧ (0 : Int) = (0 : Int) ∧ True) ∧ ((True ∧ (crS (K (List.length l)).d ks keep (List.length ks)).room = d.room ∧ (crS (K (List.length l)).d ks keep (List.length ks)).used = d.used ∧ false = d.down ∧ (-1 : Int) = d.trip ∧ (-1 : Int) = d.fail ∧ True) ∧ ((crS (K (List.length l)).d ks keep (List.length ks)).n = d.n ∧ (∀ (x : ByteArray), (crS (K (List.length l)).d ks keep (List.length ks)).has x = d.has x) ∧ ∀ (x : ByteArray), (crS (K (List.length l)).d ks keep (List.length ks)).has x = true → (List.length ((crS (K (List.length l)).d ks keep (List.length ks)).f x).b = List.length (d.f x).b ∧ contLe (List.length ((crS (K (List.length l)).d ks keep (List.length ks)).f x).b) (1 : Nat) (cellsOf' encB ((crS (K (List.length l)).d ks keep (List.length ks)).f x).b) (cellsOf' encB (d.f x).b)) ∧ ((crS (K (List.length l)).d ks keep (List.length ks)).f x).syn = (d.f x).syn ∧ True) ∧ (List.length (K (List.length l)).ns = List.length (K (List.length l)).ns ∧ contLe (List.length (K (List.length l)).ns) (1 : Nat) (cellsOf' encS (K (List.length l)).ns) (cellsOf' encS (K (List.length l)).ns)) ∧ (List.length (K (List.length l)).bs = List.length (K (List.length l)).bs ∧ contLe (List.length (K (List.length l)).bs) (1 : Nat) (cellsOf' encS (K (List.length l)).bs) (cellsOf' encS (K (List.length l)).bs)) ∧ (List.length (K (List.length l)).ys = List.length (K (List.length l)).ys ∧ contLe (List.length (K (List.length l)).ys) (1 : Nat) (cellsOf' encI (K (List.length l)).ys) (cellsOf' encI (K (List.length l)).ys)) ∧ True) ∧ true = true) ∧ LoopOk Tryd.prog (3 : Nat) (26 : Nat) (loopAt Tryd.prog (3 : Nat) (26 : Nat)) { t := chT (K (List.length l)) (0 : Nat), m := kM d (K (List.length l)), mv := [] : St } (T.map (lout jK (chS d (K (List.length l)))) ((fun (x : Nat) => T.ret ()) (0 : Nat))) ∧ (((0 : Nat) = (0 : Nat) ∧ (0 : Nat) = (0 : Nat)) ∧ True) ∧ (vcLaw_q1 d) ∧ SrtOk ks d.has d.n ∧ (((↑(List.length ks) : Int) == (↑(List.length (K (List.length l)).ns) : Int)) = true → (((0 : Nat) = (0 : Nat) ∧ (0 : Nat) = (0 : Nat)) ∧ True) ∧ (vcLaw_q1 d) ∧ (!d.down) = true ∧ True) ∧ (((↑(List.length ks) : Int) == (↑(List.length (K (List.length l)).ns) : Int)) = false → false = true ∧ True)))
theorem vcLaw_eq (b : Bool) (c : Bool) (l : List Wr) (trip : Int) (keep : List Int) (ks : List ByteArray) (K : Nat → KS) (d : Dsk) : (ctrVC Tryd.prog (lawH b c l trip keep ks K d) 3 [encWs b l, .y (.int .i64 trip), encIs c keep] [] (boR true)) = vcLaw b c l trip keep ks K d := by kernel_rfl
end Go.Proofs.YtfiohpojlgkmkaaDoor.O
