/- PROVED: whatever writes come, whatever write trips the disk, whatever a crash keeps: each file reads as a start of what was written to it, and all that was synced is there. The model keeps the disk as a map from names to files; an invariant ties it to the lists of the law; the crash is one step per name in order. -/
import Derived.Test.YtfiohpojlgkmkaaDoorRows
import Derived.Test.YtfiohpojlgkmkaaDoorTie
import Derived.Test.YtfiohpojlgkmkaaDoorCards
import Derived.OpenShut
import Derived.Lay
import Derived.Handed
import Derived.SevenTiedAt
import Derived.LaidHandle
import Derived.Test.YtfiohpojlgkmkaaDoorE12
import Derived.Test.YtfiohpojlgkmkaaDoorW2
set_option linter.unusedVariables false
set_option linter.unusedSimpArgs false
set_option linter.unusedSectionVars false
namespace Go.Proofs.YtfiohpojlgkmkaaDoor.O
open Go.Ax Go.Maps
set_option maxRecDepth 1000000
def u8 (x : Int) : UInt8 := UInt8.ofNat x.toNat
theorem str_data (l : List Int) : (str l).data.toList = l.map u8 := by
  unfold str strN strL bytesN
  apply List.ext_getElem?
  intro k
  simp only [List.toList_toArray, List.getElem?_map, List.map_map]
  by_cases h : k < l.length
  · rw [List.getElem?_range h]
    simp [h, cellsOf', encB, u8]
    rfl
  · rw [List.getElem?_eq_none (by simpa using h), List.getElem?_eq_none (by simpa using h)]
    rfl
theorem ba_ext {a b : ByteArray} (h : a.data.toList = b.data.toList) : a = b := ba_eq.1 (by rw [h]; simp)
theorem str_app (a b : List Int) : str (a ++ b) = str a ++ str b := by
  apply ba_ext
  rw [str_data, ByteArray.data_append]
  simp [str_data]
theorem str_nil : str [] = ByteArray.empty := by apply ba_ext; rw [str_data]; rfl
theorem str_size (l : List Int) : (str l).size = l.length := by
  have := congrArg List.length (str_data l)
  simpa using this
theorem fi_lt {ns : List ByteArray} {s : ByteArray} {j : Nat} (h : j < ns.length) (he : (ns.getD j default).data.toList = s.data.toList) : fi ns s j = j := by
  unfold fi
  rw [List.drop_eq_getElem_cons h, List.findIdx_cons]
  have : (ns.getD j default) = ns[j] := by simp [h]
  rw [this] at he
  simp [he]
theorem fi_ne {ns : List ByteArray} {s : ByteArray} {j : Nat} (h : j < ns.length) (he : ¬(ns.getD j default).data.toList = s.data.toList) : fi ns s j = fi ns s (j + 1) := by
  unfold fi
  rw [List.drop_eq_getElem_cons h, List.findIdx_cons]
  have e : (ns.getD j default) = ns[j] := by simp [h]
  rw [e] at he
  have : (ns[j].data.toList == s.data.toList) = false := by simpa using he
  simp only [this, cond_false]
  omega
theorem fi_end {ns : List ByteArray} {s : ByteArray} {j : Nat} (h : ns.length ≤ j) : fi ns s j = j := by
  unfold fi
  rw [List.drop_eq_nil_of_le h]
  rfl
theorem fi_spec (ns : List ByteArray) (s : ByteArray) : (fi ns s 0 < ns.length ∧ ns.getD (fi ns s 0) default = s) ∨ (fi ns s 0 = ns.length ∧ s ∉ ns) := by
  unfold fi
  rw [List.drop_zero, Nat.zero_add]
  rcases Nat.lt_or_ge (ns.findIdx fun x => x.data.toList == s.data.toList) ns.length with h | h
  · refine .inl ⟨h, ?_⟩
    have := List.findIdx_getElem (w := h)
    have e : (ns.getD (ns.findIdx fun x => x.data.toList == s.data.toList) default) = ns[ns.findIdx fun x => x.data.toList == s.data.toList] := by rw [List.getD_eq_getElem?_getD, List.getElem?_eq_getElem h]; rfl
    rw [e]
    exact ba_ext (by simpa using this)
  · refine .inr ⟨Nat.le_antisymm List.findIdx_le_length h, fun hm => ?_⟩
    have := List.findIdx_lt_length_of_exists (xs := ns) (p := fun x => x.data.toList == s.data.toList) ⟨s, hm, by simp⟩
    omega
def keStep (K : KS) (w : Wr) : KS :=
  let y1 := apD K.d w.name w.b
  if apE K.d w.name w.b ≠ 0 then ⟨y1, K.ns, K.bs, K.ys⟩
  else
    let q := fi K.ns w.name 0
    let K' := kq K w.name q
    let bs := kb2 K w q
    if w.sync then
      (if syE y1 w.name = 0 then ⟨syD y1 w.name, K'.ns, bs, K'.ys.set q (bs.getD q default).size⟩ else ⟨syD y1 w.name, K'.ns, bs, K'.ys⟩)
    else ⟨y1, K'.ns, bs, K'.ys⟩
structure KInv (K : KS) : Prop where
  d : DInv K.d
  nb : K.bs.length = K.ns.length
  ny : K.ys.length = K.ns.length
  nd : K.ns.Nodup
  mem : ∀ x, K.d.has x = true ↔ x ∈ K.ns
  b : ∀ j, j < K.ns.length → K.bs.getD j default = str (K.d.f (K.ns.getD j default)).b
  y : ∀ j, j < K.ns.length → K.ys.getD j 0 = (K.d.f (K.ns.getD j default)).syn
structure SameF (d y : Dsk) : Prop where
  has : y.has = d.has
  f : y.f = d.f
theorem op_same {d d1 y : Dsk} {e : Int} (h1 : SameF d d1) (h0 : opE d e d1 ≠ 0) : SameF d (opD d e d1 y) := by
  unfold opE at h0
  unfold opD
  split
  · exact ⟨rfl, rfl⟩
  · rename_i hd
    rw [if_neg hd] at h0
    split
    · exact h1
    · rename_i he
      rw [if_neg he] at h0
      split
      · exact ⟨h1.has, h1.f⟩
      · rename_i ht
        rw [if_neg ht] at h0
        exact absurd rfl h0
theorem op_done {d d1 y : Dsk} {e : Int} (h0 : opE d e d1 = 0) : e = 0 ∧ opD d e d1 y = y := by
  unfold opE at h0
  unfold opD
  split
  · rename_i hd; rw [if_pos hd] at h0; cases h0
  · rename_i hd
    rw [if_neg hd] at h0
    split
    · rename_i he; rw [if_pos he] at h0; exact absurd h0 he
    · rename_i he
      rw [if_neg he] at h0
      split
      · rename_i ht; rw [if_pos ht] at h0; cases h0
      · exact ⟨by omega, rfl⟩
theorem apQ_same (d : Dsk) (s : ByteArray) : SameF d (apQ d s) := by unfold apQ; split <;> exact ⟨rfl, rfl⟩
theorem ap_fail {d : Dsk} {s : ByteArray} {l : List Int} (h : apE d s l ≠ 0) : SameF d (apD d s l) := op_same (apQ_same d s) h
theorem ap_done {d : Dsk} {s : ByteArray} {l : List Int} (h : apE d s l = 0) : apP d s l = 0 ∧ apD d s l = apY d s l := op_done h
theorem KInv.of_same {K : KS} {y : Dsk} (h : KInv K) (hs : SameF K.d y) (hy : DInv y) : KInv ⟨y, K.ns, K.bs, K.ys⟩ :=
  ⟨hy, h.nb, h.ny, h.nd, fun x => by show y.has x = true ↔ _; rw [hs.has]; exact h.mem x, fun j hj => by show _ = str (y.f _).b; rw [hs.f]; exact h.b j hj, fun j hj => by show _ = (y.f _).syn; rw [hs.f]; exact h.y j hj⟩
theorem getD_set {α : Type} (l : List α) (q j : Nat) (v d : α) (hq : q < l.length) : (l.set q v).getD j d = if j = q then v else l.getD j d := by
  rw [List.getD_eq_getElem?_getD, List.getElem?_set, List.getD_eq_getElem?_getD]
  by_cases h : q = j
  · subst h; simp [hq]
  · simp [h, Ne.symm h]
theorem getD_snoc {α : Type} (l : List α) (x d : α) (j : Nat) (hj : j < l.length + 1) : (l ++ [x]).getD j d = if j = l.length then x else l.getD j d := by
  rw [List.getD_eq_getElem?_getD, List.getD_eq_getElem?_getD]
  by_cases h : j = l.length
  · subst h; simp
  · rw [if_neg h, List.getElem?_append_left (by omega)]
theorem kq_at {K : KS} (h : KInv K) (s : ByteArray) : let q := fi K.ns s 0; let K' := kq K s q
    q < K'.ns.length ∧ K'.ns.getD q default = s ∧ K'.ns.Nodup ∧ K'.bs.length = K'.ns.length ∧ K'.ys.length = K'.ns.length ∧ (∀ x, x ∈ K'.ns ↔ x = s ∨ x ∈ K.ns) ∧
    (K'.bs.getD q default = str (K.d.get s).b ∧ K'.ys.getD q 0 = (K.d.get s).syn) ∧ ∀ j, j < K'.ns.length → j ≠ q → j < K.ns.length ∧ K'.ns.getD j default = K.ns.getD j default ∧ K'.bs.getD j default = K.bs.getD j default ∧ K'.ys.getD j 0 = K.ys.getD j 0 := by
  intro q K'
  rcases fi_spec K.ns s with ⟨h1, h2⟩ | ⟨h1, h2⟩
  · have e : K' = K := if_neg (by show ¬fi K.ns s 0 = K.ns.length; omega)
    have hs : K.d.has s = true := (h.mem s).2 (by rw [← h2, List.getD_eq_getElem?_getD, List.getElem?_eq_getElem h1]; exact List.getElem_mem _)
    rw [e]
    refine ⟨h1, h2, h.nd, h.nb, h.ny, fun x => ⟨.inr, ?_⟩, ⟨?_, ?_⟩, fun j hj hq => ⟨hj, rfl, rfl, rfl⟩⟩
    · rintro (rfl | hx)
      · exact (h.mem _).1 hs
      · exact hx
    · rw [get_t hs]; have := h.b q h1; rw [h2] at this; exact this
    · rw [get_t hs]; have := h.y q h1; rw [h2] at this; exact this
  · have e : K' = K.more s := if_pos h1
    have hs : K.d.has s = false := by
      cases hh : K.d.has s with
      | false => rfl
      | true => exact absurd ((h.mem s).1 hh) h2
    have hq : q = K.ns.length := h1
    rw [e, get_f hs, hq]
    have l1 : (K.more s).ns.length = K.ns.length + 1 := by simp [KS.more]
    have hb := h.nb
    have hy := h.ny
    refine ⟨by omega, ?_, ?_, ?_, ?_, fun x => ?_, ⟨?_, ?_⟩, fun j hj hne => ?_⟩
    · exact (getD_snoc _ _ _ _ (by omega)).trans (if_pos rfl)
    · show (K.ns ++ [s]).Nodup
      rw [List.nodup_append]
      refine ⟨h.nd, by simp, fun a ha b hb => ?_⟩
      simp at hb
      subst hb
      rintro rfl
      exact h2 ha
    · rw [l1]; simp [KS.more, hb]
    · rw [l1]; simp [KS.more, hy]
    · simp [KS.more]; exact Or.comm
    · rw [← hb]
      exact ((getD_snoc _ _ _ _ (by omega)).trans (if_pos rfl)).trans str_nil.symm
    · rw [← hy]
      exact (getD_snoc _ _ _ _ (by omega)).trans (if_pos rfl)
    · rw [l1] at hj
      have hj' : j < K.ns.length := by omega
      refine ⟨hj', (getD_snoc _ _ _ _ (by omega)).trans (if_neg (by omega)), (getD_snoc _ _ _ _ (by omega)).trans (if_neg (by omega)), (getD_snoc _ _ _ _ (by omega)).trans (if_neg (by omega))⟩
theorem ne_of_idx {L : List ByteArray} (h : L.Nodup) {j q : Nat} (hj : j < L.length) (hq : q < L.length) (hne : j ≠ q) : L.getD j default ≠ L.getD q default := fun e => hne (by
  rw [List.getD_eq_getElem?_getD, List.getD_eq_getElem?_getD, List.getElem?_eq_getElem hj, List.getElem?_eq_getElem hq] at e
  exact (List.getElem_inj h).1 e)
theorem keStep_inv {K : KS} {w : Wr} (h : KInv K) : KInv (keStep K w) := by
  unfold keStep
  by_cases h0 : apE K.d w.name w.b = 0
  case neg =>
    simp only [if_pos h0]
    exact h.of_same (ap_fail h0) (ap_inv h.d)
  simp only [h0, ne_eq, not_true_eq_false, if_false]
  obtain ⟨hp, hy1⟩ := ap_done h0
  have hd1 := ap_inv (s := w.name) (l := w.b) h.d
  obtain ⟨q1, q2, q3, q4, q5, q6, ⟨q7, q8⟩, q9⟩ := kq_at h w.name
  rw [hy1] at hd1 ⊢
  have fy : (apY K.d w.name w.b).f w.name = ⟨(K.d.get w.name).b ++ w.b, (K.d.get w.name).syn⟩ := by simp [apY, Dsk.put]
  have fo : ∀ x, x ≠ w.name → (apY K.d w.name w.b).f x = K.d.f x := fun x hx => by simp [apY, Dsk.put, Dsk.tick, Dsk.fld, hx]
  have hh : ∀ x, (apY K.d w.name w.b).has x = true ↔ x ∈ (kq K w.name (fi K.ns w.name 0)).ns := fun x => by
    rw [q6]
    show updBs K.d.has w.name x = true ↔ _
    unfold updBs
    rw [Bool.or_eq_true, decide_eq_true_eq, h.mem x]
    exact or_congr ⟨Eq.symm, Eq.symm⟩ Iff.rfl
  have hyn : (apY K.d w.name w.b).has w.name = true := by simp [apY, Dsk.put, updBs]
  generalize hyy : apY K.d w.name w.b = y at *
  generalize hK : kq K w.name (fi K.ns w.name 0) = K' at *
  generalize hqq : fi K.ns w.name 0 = q at *
  have hb : ∀ j, j < K'.ns.length → (kb2 K w q).getD j default = str (y.f (K'.ns.getD j default)).b := fun j hj => by
    unfold kb2
    rw [hK, getD_set _ _ _ _ _ (by omega)]
    by_cases e : j = q
    · subst e
      rw [if_pos rfl, q2, fy, q7, str_app]
    · rw [if_neg e]
      obtain ⟨r1, r2, r3, _⟩ := q9 j hj e
      have hne := ne_of_idx q3 hj q1 e
      rw [q2] at hne
      rw [r3, fo _ hne, r2]
      exact h.b j r1
  have hy : ∀ j, j < K'.ns.length → K'.ys.getD j 0 = (y.f (K'.ns.getD j default)).syn := fun j hj => by
    by_cases e : j = q
    · subst e
      rw [q2, fy, q8]
    · obtain ⟨r1, r2, _, r4⟩ := q9 j hj e
      have hne := ne_of_idx q3 hj q1 e
      rw [q2] at hne
      rw [r4, fo _ hne, r2]
      exact h.y j r1
  have hbl : (kb2 K w q).length = K'.ns.length := by unfold kb2; rw [hK, List.length_set, q4]
  have base : KInv ⟨y, K'.ns, kb2 K w q, K'.ys⟩ := ⟨hd1, hbl, q5, q3, hh, hb, hy⟩
  split
  · split
    · rename_i hs0
      obtain ⟨_, e⟩ := op_done (y := syY y w.name) hs0
      have e : syD y w.name = syY y w.name := e
      have hd2 := sy_inv (s := w.name) hd1
      rw [e] at hd2 ⊢
      have sy1 : (syY y w.name).f w.name = ⟨(y.f w.name).b, (y.f w.name).b.length⟩ := by simp [syY, Dsk.put]
      have sy2 : ∀ x, x ≠ w.name → (syY y w.name).f x = y.f x := fun x hx => by simp [syY, Dsk.put, Dsk.tick, hx]
      have sb : ∀ x, ((syY y w.name).f x).b = (y.f x).b := fun x => by
        by_cases e : x = w.name
        · subst e; rw [sy1]
        · rw [sy2 x e]
      refine ⟨hd2, hbl, by show (K'.ys.set q _).length = _; rw [List.length_set, q5], q3, fun x => ?_, fun j hj => ?_, fun j hj => ?_⟩
      · show updBs y.has w.name x = true ↔ _
        rw [updBs_same hyn]; exact hh x
      · show _ = str ((syY y w.name).f _).b
        rw [sb]; exact hb j hj
      · show (K'.ys.set q _).getD j 0 = ((syY y w.name).f _).syn
        rw [getD_set _ _ _ _ _ (by omega)]
        by_cases e : j = q
        · subst e
          rw [if_pos rfl, hb j hj, q2, str_size, sy1]
        · rw [if_neg e]
          have hne := ne_of_idx q3 hj q1 e
          rw [q2] at hne
          rw [sy2 _ hne]
          exact hy j hj
    · rename_i hs0
      exact base.of_same (op_same ⟨rfl, rfl⟩ hs0) (sy_inv hd1)
  · exact base
end Go.Proofs.YtfiohpojlgkmkaaDoor.O

namespace Go.Proofs.YtfiohpojlgkmkaaDoor.O
open Go.Ax Go.Maps
set_option maxRecDepth 1000000
theorem strN_eq (l : List Int) : strN l.length (cellsOf' encB l) = str l := rfl
theorem fi_loop (b c : Bool) (l : List Wr) (keep : List Int) (d : Dsk) (K : KS) (k : Nat) (hk : k < l.length) (hn : K.ns.length ≤ 9223372036854775806) (j : Nat) : LoopOk Tryd.prog 3 15 (loopAt Tryd.prog 3 15) ⟨fiT b c l keep K k j, kM d K, []⟩ ((T.ret (fi K.ns (l.getD k default).name j)).map (lout jK (fiS b c l keep d K k))) := by
  refine loop_vc Tryd.mixed (fun _ => rfl) (fun j => (vcFi_eq b c l keep d K k (l.getD k default).name j).mpr ?_) j
  unfold vcFi
  simp only [Int.toNat_natCast, Nat.zero_add]
  refine ⟨fun hj => ?_, fun hj => ?_⟩
  · have hj : j < K.ns.length := by simpa using hj
    refine ⟨by simpa using hj, by simpa using hj, by simpa using hk, fun he => ?_, fun he => ?_⟩
    · have he' : ¬(K.ns.getD j default).data.toList = (l.getD k default).name.data.toList := by simpa using he
      refine Exists.intro (j + 1) ?_
      rw [fi_ne hj he']
      simp
      exact ⟨by omega, wrap_i64 (by omega) (by omega)⟩
    · have he' : (K.ns.getD j default).data.toList = (l.getD k default).name.data.toList := by simpa using he
      rw [fi_lt hj he']
      simp
  · have hj : K.ns.length ≤ j := by simpa using hj
    rw [fi_end hj]
    simp
theorem KInv.len {K : KS} (h : KInv K) : K.ns.length ≤ 64 := by
  obtain ⟨L, hL⟩ := h.d.cov
  have hp : K.ns.Perm L := (List.perm_ext_iff_of_nodup h.nd hL.nd).2 fun x => by rw [← h.mem x, hL.mem x]
  rw [hp.length_eq, hL.len]
  exact h.d.n
theorem KInv.bsize {K : KS} (h : KInv K) {j : Nat} (hj : j < K.ns.length) : (K.bs.getD j default).size ≤ 16777216 := by
  rw [h.b j hj, str_size]
  have hs : K.d.has (K.ns.getD j default) = true := (h.mem _).2 (by rw [List.getD_eq_getElem?_getD, List.getElem?_eq_getElem hj]; exact List.getElem_mem _)
  obtain ⟨L, hL⟩ := h.d.cov
  have h1 := hL.le hs
  have h2 := h.d.us
  have h3 := h.d.r1
  omega
def kes (trip : Int) (l : List Wr) (k : Nat) : KS := (l.take k).foldl keStep ⟨{ d0 65536 with trip := mx trip }, [], [], []⟩
theorem kes_succ {trip : Int} {l : List Wr} {k : Nat} (h : k < l.length) : kes trip l (k + 1) = keStep (kes trip l k) (l.getD k default) := by
  unfold kes
  rw [List.take_add_one, List.getElem?_eq_getElem h, Option.toList_some, List.foldl_append, List.getD_eq_getElem?_getD, List.getElem?_eq_getElem h]
  rfl
theorem kes_inv {trip : Int} (ht : trip ≤ 9223372036854775807) (l : List Wr) : ∀ k, k ≤ l.length → KInv (kes trip l k)
  | 0, _ => by
    have h0 := dinv0 (room := 65536) (by omega) (by omega)
    exact ⟨⟨h0.cov.imp fun _ h => ⟨h.nd, h.mem, h.len, h.sum⟩, h0.r0, h0.r1, h0.us, h0.n, h0.nm, h0.syn, h0.fl, mx_rng ht⟩, rfl, rfl, List.nodup_nil, fun x => by simp [kes, d0], fun j hj => by simp [kes] at hj, fun j hj => by simp [kes] at hj⟩
  | k + 1, hk => by
    rw [kes_succ (by omega)]
    exact keStep_inv (kes_inv ht l k (by omega))
theorem snocS_le {l : List ByteArray} {x : ByteArray} {n : Nat} (hn : n = l.length) : contLe (n + 1) 1 (appRow n (cellsOf' encS l) fun k j => Ax.get [AV.y (Value.string x)] (k * 1 + j)) (cellsOf' encS (l ++ [x])) := by
  refine app_le (contLe_refl _ _ _) hn fun j hj => ?_
  obtain rfl : j = 0 := by omega
  exact le0_refl _
theorem snocE_le {l : List ByteArray} {n : Nat} (hn : n = l.length) : contLe (n + 1) 1 (appRow n (cellsOf' encS l) fun k j => Ax.get [AV.s (Value.string { data := #[] })] (k * 1 + j)) (cellsOf' encS (l ++ [ByteArray.empty])) := by
  refine app_le (contLe_refl _ _ _) hn fun j hj => ?_
  obtain rfl : j = 0 := by omega
  exact (rfl : ({ data := #[] } : ByteArray) = ByteArray.empty)
theorem snocI_le {l : List Int} {n : Nat} (hn : n = l.length) : contLe (n + 1) 1 (appRow n (cellsOf' encI l) fun k j => Ax.get [AV.s (Value.int IntKind.i64 0)] (k * 1 + j)) (cellsOf' encI (l ++ [0])) := by
  refine app_le (contLe_refl _ _ _) hn fun j hj => ?_
  obtain rfl : j = 0 := by omega
  simp [encI]
theorem setS_le {l : List ByteArray} {q : Nat} {v : ByteArray} (hq : q < l.length) : contLe l.length 1 (wrRow (cellsOf' encS l) q 0 [AV.y (Value.string v)]) (cellsOf' encS (l.set q v)) :=
  wr_le rfl hq rfl fun j hj => by
    obtain rfl : j = 0 := by omega
    exact le0_refl _
theorem setI_le {l : List Int} {q : Nat} {v : Int} (hq : q < l.length) : contLe l.length 1 (wrRow (cellsOf' encI l) q 0 [AV.y (Value.int IntKind.i64 v)]) (cellsOf' encI (l.set q v)) :=
  wr_le rfl hq rfl fun j hj => by
    obtain rfl : j = 0 := by omega
    exact le0_refl _
end Go.Proofs.YtfiohpojlgkmkaaDoor.O

namespace Go.Proofs.YtfiohpojlgkmkaaDoor.O
open Go.Ax Go.Maps
set_option maxRecDepth 1000000
def kx (trip : Int) (l : List Wr) (k : Nat) : KS := kes trip l (min k l.length)
structure WrsOk (l : List Wr) : Prop where
  b : ∀ w ∈ l, w.b.length ≤ 140737488355328
  n : l.length ≤ 140737488355328
theorem ke_loop (b c : Bool) (l : List Wr) (trip : Int) (keep : List Int) (ht : trip ≤ 9223372036854775807) (hl : WrsOk l) (k : Nat) : LoopOk Tryd.prog 3 10 (loopAt Tryd.prog 3 10) ⟨keT b c l keep (kx trip l) k, kM (kx trip l k).d (kx trip l k), []⟩ ((T.ret ()).map (lout jK2 (keS c keep (kx trip l l.length)))) := by
  let y1 := fun k => apD (kx trip l k).d (l.getD k default).name (l.getD k default).b
  let q := fun k => fi (kx trip l k).ns (l.getD k default).name 0
  refine loop_vcH Tryd.mixed (fun _ => rfl) (ht := fun k => keLH b c l keep (kx trip l k) k (y1 k) (syD (y1 k) (l.getD k default).name) (apE (kx trip l k).d (l.getD k default).name (l.getD k default).b) (syE (y1 k) (l.getD k default).name) (q k) (l.getD k default)) (μ := fun k => l.length - k) (stT := keT b c l keep (kx trip l)) (stM := fun k => kM (kx trip l k).d (kx trip l k)) (X := jK2) (o := fun _ => .ret ()) (S := keS c keep (kx trip l l.length)) (fun k => (vcKeL_eq b c l keep (kx trip l) (y1 k) (syD (y1 k) (l.getD k default).name) (apE (kx trip l k).d (l.getD k default).name (l.getD k default).b) (syE (y1 k) (l.getD k default).name) (q k) l.length k).mpr ?_) k
  unfold vcKeL vcKeL_q3 vcKeL_q2 vcKeL_q1
  simp only [Int.toNat_natCast, Nat.zero_add, strN_eq]
  refine ⟨fun hk => ?_, fun hk => ?_⟩
  · have hk : k < l.length := by simpa using hk
    have hn := hl.n
    have e1 : kx trip l k = kes trip l k := by unfold kx; rw [Nat.min_eq_left (by omega)]
    have e2 : kx trip l (k + 1) = keStep (kx trip l k) (l.getD k default) := by rw [e1, ← kes_succ hk]; unfold kx; rw [Nat.min_eq_left (by omega)]
    have hi : KInv (kx trip l k) := by rw [e1]; exact kes_inv ht l k (by omega)
    have hlen := hi.len
    have hlp := fi_loop b c l keep (y1 k) (kx trip l k) k hk (by omega) 0
    have hat := kq_at hi (l.getD k default).name
    have hroom : ApRoom (kx trip l k).d (l.getD k default).name (l.getD k default).b := ⟨fun h0 => by have := ap_room hi.d h0; omega⟩
    have ho1 : OpIs (y1 k) (apD (kx trip l k).d (l.getD k default).name (l.getD k default).b) (apE (kx trip l k).d (l.getD k default).name (l.getD k default).b) (apE (kx trip l k).d (l.getD k default).name (l.getD k default).b) := ⟨rfl, rfl⟩
    have ho2 : OpIs (syD (y1 k) (l.getD k default).name) (syD (y1 k) (l.getD k default).name) (syE (y1 k) (l.getD k default).name) (syE (y1 k) (l.getD k default).name) := ⟨rfl, rfl⟩
    have hst : keStep (kx trip l k) (l.getD k default) = (if apE (kx trip l k).d (l.getD k default).name (l.getD k default).b ≠ 0 then ⟨y1 k, (kx trip l k).ns, (kx trip l k).bs, (kx trip l k).ys⟩ else if (l.getD k default).sync then (if syE (y1 k) (l.getD k default).name = 0 then ⟨syD (y1 k) (l.getD k default).name, (kq (kx trip l k) (l.getD k default).name (q k)).ns, kb2 (kx trip l k) (l.getD k default) (q k), (kq (kx trip l k) (l.getD k default).name (q k)).ys.set (q k) ((kb2 (kx trip l k) (l.getD k default) (q k)).getD (q k) default).size⟩ else ⟨syD (y1 k) (l.getD k default).name, (kq (kx trip l k) (l.getD k default).name (q k)).ns, kb2 (kx trip l k) (l.getD k default) (q k), (kq (kx trip l k) (l.getD k default).name (q k)).ys⟩) else ⟨y1 k, (kq (kx trip l k) (l.getD k default).name (q k)).ns, kb2 (kx trip l k) (l.getD k default) (q k), (kq (kx trip l k) (l.getD k default).name (q k)).ys⟩) := rfl
    rw [hst] at e2
    have hbz : ∀ j, j < (kx trip l k).ns.length → ((kx trip l k).bs.getD j default).size ≤ 16777216 := fun j hj => hi.bsize hj
    have hapr : apE (kx trip l k).d (l.getD k default).name (l.getD k default).b = 0 → (l.getD k default).b.length ≤ 16777216 := fun h0 => by have := ap_room hi.d (ap_done h0).1; omega
    have hnb := hi.nb
    have hny := hi.ny
    have hwk : IntKind.i64.wrap ((k : Int) + 1) = ((k + 1 : Nat) : Int) := wrap_i64 (by omega) (by omega)
    obtain ⟨q1, _, _, q4, q5, _⟩ := hat
    generalize hy : y1 k = y at *
    generalize hqq : q k = p at *
    have hqq' : fi (kx trip l k).ns (l.getD k default).name 0 = p := hqq
    rw [hqq'] at q1 q4 q5 hlp
    generalize syD y (l.getD k default).name = z at *
    generalize syE y (l.getD k default).name = f at *
    generalize apE (kx trip l k).d (l.getD k default).name (l.getD k default).b = e at *
    generalize l.getD k default = w at *
    have hkb : kb2 (kx trip l k) w p = (kq (kx trip l k) w.name p).bs.set p ((kq (kx trip l k) w.name p).bs.getD p default ++ str w.b) := rfl
    generalize kx trip l k = K at *
    by_cases h0 : e = 0
    case neg =>
      rw [if_pos h0] at e2
      simp [hk, hroom, ho1, h0]
      refine Exists.intro (k + 1) ?_
      rw [e2]
      simp
      exact ⟨by omega, hwk⟩
    rw [if_neg (by simp [h0])] at e2
    have hwb := hapr h0
    have fin : ∀ X : KS, kx trip l (k + 1) = X → ∃ j, l.length - j < l.length - k ∧ kx trip l j = X ∧ IntKind.i64.wrap ((k : Int) + 1) = (j : Int) := fun X hX => ⟨k + 1, by omega, hX, hwk⟩
    by_cases hp : p = K.ns.length
    · have hkq : kq K w.name p = K.more w.name := if_pos hp
      rw [hkq] at q1 q4 q5 e2 hkb
      subst hp
      have hkl : (kb2 K w K.ns.length).length = K.bs.length + 1 := by rw [hkb]; simp [KS.more]
      have hml : (K.more w.name).ns = K.ns ++ [w.name] ∧ (K.more w.name).bs = K.bs ++ [ByteArray.empty] ∧ (K.more w.name).ys = K.ys ++ [0] := ⟨rfl, rfl, rfl⟩
      rw [hml.1, hml.2.2] at e2
      rw [hml.2.1] at hkb
      have g1 : (K.bs ++ [ByteArray.empty])[K.ns.length]?.getD default = ByteArray.empty := by rw [← hnb]; simp
      have s1 : contLe (K.ns.length + 1) 1 (appRow K.ns.length (cellsOf' encS K.ns) fun k_1 j => Ax.get [AV.y (Value.string w.name)] (k_1 + j)) (cellsOf' encS (K.ns ++ [w.name])) := by simpa using snocS_le (l := K.ns) (x := w.name) rfl
      have s2 : contLe (K.bs.length + 1) 1 (appRow K.bs.length (cellsOf' encS K.bs) fun k j => Ax.get [AV.s (Value.string { data := #[] })] (k + j)) (cellsOf' encS (K.bs ++ [ByteArray.empty])) := by simpa using snocE_le (l := K.bs) rfl
      have s3 : contLe (K.ys.length + 1) 1 (appRow K.ys.length (cellsOf' encI K.ys) fun k j => Ax.get [AV.s (Value.int IntKind.i64 0)] (k + j)) (cellsOf' encI (K.ys ++ [0])) := by simpa using snocI_le (l := K.ys) rfl
      have s4 : contLe (K.bs.length + 1) 1 (wrRow (cellsOf' encS (K.bs ++ [ByteArray.empty])) K.ns.length 0 [AV.y (Value.string (ByteArray.empty ++ str w.b))]) (cellsOf' encS (kb2 K w K.ns.length)) := by
        have := setS_le (l := K.bs ++ [ByteArray.empty]) (q := K.ns.length) (v := (K.bs ++ [ByteArray.empty]).getD K.ns.length default ++ str w.b) (by simp; omega)
        rw [hkb, List.getD_eq_getElem?_getD, g1] at *
        simpa using this
      have hsz := str_size w.b
      have ho1' : OpIs y (apD K.d w.name w.b) 0 0 := by rw [h0] at ho1; exact ho1
      rw [hnb] at s2 s4
      rw [hny] at s3
      rw [show ByteArray.empty ++ str w.b = str w.b by simp] at s4
      simp [hk, hroom, ho1', h0, hlp, s1, s2, s3, g1, s4, hkl, hnb, hny, hsz, ho2]
      repeat' with_reducible apply And.intro
      all_goals first | omega | skip
      · intro hs
        refine ⟨fun hf => ⟨by omega, ?_⟩, fun hf => ?_⟩
        · rw [if_pos hs, if_pos hf] at e2
          refine Exists.intro (k + 1) ?_
          rw [e2]
          have s5 := setI_le (l := K.ys ++ [0]) (q := K.ns.length) (v := ((kb2 K w K.ns.length).getD K.ns.length default).size) (by simp; omega)
          simp [hkl, hnb, hny, hwk] at s5 ⊢
          exact ⟨by omega, s5⟩
        · rw [if_pos hs, if_neg hf] at e2
          refine Exists.intro (k + 1) ?_
          rw [e2]
          simp [hkl, hnb, hny, hwk]
          omega
      · intro hs
        rw [if_neg (by simp [hs])] at e2
        refine Exists.intro (k + 1) ?_
        rw [e2]
        simp [hkl, hnb, hny, hwk]
        omega
    · have hkq : kq K w.name p = K := if_neg hp
      rw [hkq] at q1 q4 q5 e2 hkb
      have hkl : (kb2 K w p).length = K.bs.length := by rw [hkb]; simp
      have s4 : contLe K.bs.length 1 (wrRow (cellsOf' encS K.bs) p 0 [AV.y (Value.string (K.bs.getD p default ++ str w.b))]) (cellsOf' encS (kb2 K w p)) := by
        rw [hkb]
        exact setS_le (by omega)
      have hsz := str_size w.b
      have hbz2 := hbz p q1
      have ho1' : OpIs y (apD K.d w.name w.b) 0 0 := by rw [h0] at ho1; exact ho1
      have hpc : ¬(p : Int) = (K.ns.length : Int) := by omega
      simp [hk, hroom, ho1', h0, hlp, hkl, hnb, hny, hsz, ho2, hp, hpc] at s4 hbz2 ⊢
      refine ⟨q1, by omega, q1, s4, fun hs => ⟨fun hf => ⟨q1, ?_⟩, fun hf => ?_⟩, fun hs => ?_⟩
      · rw [if_pos hs, if_pos hf] at e2
        refine Exists.intro (k + 1) ?_
        rw [e2]
        have s5 := setI_le (l := K.ys) (q := p) (v := ((kb2 K w p).getD p default).size) (by omega)
        simp [hkl, hnb, hny, hwk] at s5 ⊢
        exact ⟨by omega, s5⟩
      · rw [if_pos hs, if_neg hf] at e2
        refine Exists.intro (k + 1) ?_
        rw [e2]
        simp [hkl, hnb, hny, hwk]
        omega
      · rw [if_neg (by simp [hs])] at e2
        refine Exists.intro (k + 1) ?_
        rw [e2]
        simp [hkl, hnb, hny, hwk]
        omega
  · have hk : ¬k < l.length := by simpa using hk
    have e : kx trip l k = kx trip l l.length := by unfold kx; rw [Nat.min_eq_right (by omega), Nat.min_self]
    rw [e]
    simp
end Go.Proofs.YtfiohpojlgkmkaaDoor.O

namespace Go.Proofs.YtfiohpojlgkmkaaDoor.O
open Go.Ax Go.Maps
set_option maxRecDepth 1000000
theorem crS_f {d : Dsk} {ks : List ByteArray} {keep : List Int} (hnd : ks.Nodup) : ∀ i, i ≤ ks.length → ∀ x, (x ∈ ks.take i → ∃ kv, (crS d ks keep i).f x = crF (d.f x) kv) ∧ (x ∉ ks.take i → (crS d ks keep i).f x = d.f x)
  | 0, _, x => ⟨fun h => by simp at h, fun _ => rfl⟩
  | i + 1, hi, x => by
    have hk : i < ks.length := by omega
    obtain ⟨h1, h2⟩ := crS_f (d := d) (keep := keep) hnd i (by omega) x
    have ht : ks.take (i + 1) = ks.take i ++ [ks.getD i default] := by
      rw [List.take_add_one, List.getElem?_eq_getElem hk, List.getD_eq_getElem?_getD, List.getElem?_eq_getElem hk]; rfl
    have hf : (crS d ks keep (i + 1)).f x = if x = ks.getD i default then crF ((crS d ks keep i).f (ks.getD i default)) (kvA keep i) else (crS d ks keep i).f x := rfl
    have hni : ks.getD i default ∉ ks.take i := fun hm => by
      have h3 : (ks.take (i + 1)).Nodup := (List.take_sublist _ _).nodup hnd
      rw [ht, List.nodup_append] at h3
      exact h3.2.2 _ hm _ (by simp) rfl
    rw [hf, ht, List.mem_append, List.mem_singleton]
    by_cases e : x = ks.getD i default
    · subst e
      rw [if_pos rfl]
      refine ⟨fun _ => ⟨kvA keep i, ?_⟩, fun h => absurd (.inr rfl) h⟩
      rw [h2 hni]
    · rw [if_neg e]
      refine ⟨fun h => h1 (h.resolve_right e), fun h => h2 fun hm => h (.inl hm)⟩
theorem crD_f {d : Dsk} {ks : List ByteArray} {keep : List Int} (hs : Srt ks d.has) {x : ByteArray} (hx : d.has x = true) : ∃ kv, (crD d ks keep).f x = crF (d.f x) kv :=
  (crS_f hs.nd ks.length (Nat.le_refl _) x).1 (by rw [List.take_length]; exact (hs.mem x).1 hx)
theorem ch_loop (ks : List ByteArray) (keep : List Int) (K : KS) (h : KInv K) (hs : Srt ks K.d.has) (k : Nat) : LoopOk Tryd.prog 3 26 (loopAt Tryd.prog 3 26) ⟨chT K k, kM (crD K.d ks keep) K, []⟩ ((T.ret ()).map (lout jK (chS (crD K.d ks keep) K))) := by
  refine loop_vcH Tryd.mixed (fun _ => rfl) (ht := fun k => chH (crD K.d ks keep) (K.ns.getD k default) ((K.bs.getD k default).size + 1)) (μ := fun k => K.ns.length - k) (stT := chT K) (stM := fun _ => kM (crD K.d ks keep) K) (X := jK) (o := fun _ => .ret ()) (S := chS (crD K.d ks keep) K) (fun k => (vcCh_eq (crD K.d ks keep) K k).mpr ?_) k
  unfold vcCh vcCh_q2 vcCh_q1
  simp only [Int.toNat_natCast, Nat.zero_add]
  refine ⟨fun hk => ?_, fun hk => by simp⟩
  have hk : k < K.ns.length := by simpa using hk
  have hlen := h.len
  have hnb := h.nb
  have hny := h.ny
  have hb := h.b k hk
  have hy := h.y k hk
  have hx : K.d.has (K.ns.getD k default) = true := (h.mem _).2 (by rw [List.getD_eq_getElem?_getD, List.getElem?_eq_getElem hk]; exact List.getElem_mem _)
  have hfo := h.d.fok _ hx
  obtain ⟨kv, hkv⟩ := crD_f (keep := keep) hs hx
  have hh : (crD K.d ks keep).has (K.ns.getD k default) = true := by
    show (crS K.d ks keep ks.length).has _ = true
    rw [(crS_has K.d ks keep ks.length).1]; exact hx
  have hdn : (crD K.d ks keep).down = false := rfl
  have hbz := h.bsize hk
  generalize hs' : K.ns.getD k default = s at *
  generalize crD K.d ks keep = d at *
  have hg : d.get s = crF (K.d.f s) kv := by rw [get_t hh, hkv]
  have c1 := crN_le hfo kv
  have c2 := crF_len hfo kv
  have c3 : (crF (K.d.f s) kv).syn = (crN (K.d.f s) kv : Int) := rfl
  have c4 : (crF (K.d.f s) kv).b = (K.d.f s).b.take (crN (K.d.f s) kv) := rfl
  have c5 : (K.d.f s).syn ≤ (crN (K.d.f s) kv : Int) := by
    have := hfo.l
    have := hfo.u
    have := mx0_nn kv
    unfold crN
    split <;> omega
  have hm := hfo.m
  generalize K.bs.getD k default = a at *
  have hsz : a.size = (K.d.f s).b.length := by rw [hb, str_size]
  have hw : IntKind.i64.wrap ((a.size : Int) + 1) = (a.size : Int) + 1 := wrap_i64 (by omega) (by omega)
  have hrd : rdE d s 0 ((a.size : Int) + 1) = 0 := by
    unfold rdE
    rw [if_neg (by simp [hdn]), if_pos hh, if_neg (by omega)]
  have hrl : rdL d s 0 ((a.size : Int) + 1) = (crF (K.d.f s) kv).b := by
    unfold rdL
    rw [if_pos hrd, hkv]
    simp only [Int.toNat_zero, List.drop_zero]
    refine List.take_of_length_le ?_
    rw [c2]; omega
  rw [hw, hrd, hrl, hg, c2, c3, hy]
  generalize hcr : crN (K.d.f s) kv = m at *
  have hkk : ((k : Int) < (K.ns.length : Int)) := by omega
  have hkb : ((k : Int) < (K.bs.length : Int)) := by omega
  have hky : ((k : Int) < (K.ys.length : Int)) := by omega
  have hstr : (str (crF (K.d.f s) kv).b).data.toList = (Array.extract #[] 0 0 ++ Array.extract a.data 0 (0 + (m - 0)) ++ Array.extract #[] (0 + min (m - 0) (Array.size a.data - 0)) 0).toList := by
    rw [str_data, c4, hb]
    have e1 : (str (K.d.f s).b).data.toList = (K.d.f s).b.map u8 := str_data _
    simp [e1, List.map_take]
  have n1 : ¬(m : Int) < (K.d.f s).syn := by omega
  have n2 : ¬(a.size : Int) < (m : Int) := by omega
  have n3 : (m : Int) ≤ (a.size : Int) := by omega
  simp [hk, hkb, hky, hh, n1, n2, n3, c2, hdn]
  have hbd : a.data.toList = (K.d.f s).b.map u8 := by rw [hb]; exact str_data _
  refine ⟨by omega, by omega, by omega, by omega, by omega, ?_, fun _ => ?_⟩
  · apply List.ext_getElem?
    intro i
    rw [hbd, c4]
    by_cases hi : i < m
    · have hi2 : i < (K.d.f s).b.length := by omega
      rw [List.getElem?_map, List.getElem?_range hi, List.getElem?_take, if_pos hi, List.getElem?_map, List.getElem?_eq_getElem hi2]
      simp [List.getElem?_take, hi, hi2]
      rfl
    · rw [List.getElem?_eq_none (by simpa using hi), List.getElem?_eq_none (by simp; omega)]
  · exact ⟨k + 1, by omega, wrap_i64 (by omega) (by omega)⟩
theorem keeps_c (b c : Bool) (l : List Wr) (trip : Int) (keep : List Int) (ht : trip ≤ 9223372036854775807) (hl : WrsOk l) : (boR true).Sat (ACall' Tryd.prog 3 [encWs b l, .y (.int .i64 trip), encIs c keep] []) := by
  have hi : KInv (kx trip l l.length) := by unfold kx; exact kes_inv ht l _ (by omega)
  obtain ⟨ks, hks⟩ := hi.d.srt
  have hlp := ke_loop b c l trip keep ht hl 0
  have hch := ch_loop ks keep (kx trip l l.length) hi hks.srt 0
  have hfo : ∀ s, (kx trip l l.length).d.has s = true → FOk ((kx trip l l.length).d.f s) := hi.d.fok
  have hcr := crS_has (kx trip l l.length).d ks keep ks.length
  have hks2 : SrtOk ks (crD (kx trip l l.length).d ks keep).has (crD (kx trip l l.length).d ks keep).n := by
    show SrtOk ks (crS _ ks keep ks.length).has (crS _ ks keep ks.length).n
    rw [hcr.1, hcr.2]; exact hks
  have hln : ks.length = (kx trip l l.length).ns.length := by
    have hp : ks.Perm (kx trip l l.length).ns := (List.perm_ext_iff_of_nodup hks.srt.nd hi.nd).2 fun x => by rw [← hks.srt.mem x, hi.mem x]
    exact hp.length_eq
  refine ctr_vc (ht := lawH b c l trip keep ks (kx trip l) (crD (kx trip l l.length).d ks keep)) Tryd.mixed rfl ?_
  rw [vcLaw_eq b c l trip keep ks (kx trip l) (crD (kx trip l l.length).d ks keep)]
  unfold vcLaw vcLaw_q1
  have k0 : kx trip l 0 = ⟨{ d0 65536 with trip := mx trip }, [], [], []⟩ := by unfold kx kes; simp
  have hd0 : (d0 65536).room = 65536 ∧ (d0 65536).used = 0 ∧ (d0 65536).down = false ∧ (d0 65536).trip = -1 ∧ (d0 65536).fail = -1 ∧ (d0 65536).n = 0 := ⟨rfl, rfl, rfl, rfl, rfl, rfl⟩
  have hdh : ∀ x, (d0 65536).has x = false := fun _ => rfl
  rw [k0] at hlp
  have hx : crD (kx trip l l.length).d ks keep = { crS (kx trip l l.length).d ks keep ks.length with down := false, trip := -1, fail := -1 } := rfl
  generalize hKK : kx trip l l.length = KK at *
  generalize hdd : crD KK.d ks keep = dd at *
  rw [k0]
  simp [hd0, hdh, hlp, hch, hks, hks2, hln, hx]
  rw [hx, hln] at hch
  rw [hx, hln] at hks2
  exact ⟨hlp, hfo, by simpa using hch, hks2⟩
end Go.Proofs.YtfiohpojlgkmkaaDoor.O

namespace Go.Proofs.YtfiohpojlgkmkaaDoor.O
open Go.Ax Go.Shelf Go.RowKit Go.ChangeShapes Go.WideShapes Go.ChangeAt
set_option maxRecDepth 1000000
def toI {K : Type} : DataW K → Int
  | .lit (.int _ a) => a
  | _ => 0
def toS {K : Type} : DataW K → ByteArray
  | .lit (.string l) => ⟨l.toArray⟩
  | _ => ByteArray.empty
theorem encI_ok {K : Type} {k : IntKind} {d : DataW K} (h : (Sh.int k).wf d) : (Sh.int k).enc d = [.y (.int k (toI d))] := by
  obtain ⟨k', n, rfl, _⟩ := h
  rfl
theorem encS_ok {K : Type} {d : DataW K} (h : Sh.str.wf d) : Sh.str.enc d = [.y (.string (toS d))] := by
  obtain ⟨l, rfl, _⟩ := h
  rfl
theorem enc_st {K : Type} (fs : List Sh) (ds : List (DataW K)) : (Sh.st fs).enc (.agg ds) = Sh.encL fs ds := by simp only [Sh.enc]
theorem enc_cons {K : Type} (s : Sh) (r : List Sh) (d : DataW K) (ds : List (DataW K)) : Sh.encL (s :: r) (d :: ds) = s.enc d ++ Sh.encL r ds := by simp only [Sh.encL]
theorem enc_nil {K : Type} (l : List (DataW K)) : Sh.encL [] l = [] := by simp only [Sh.encL]
def toB {K : Type} : DataW K → Bool
  | .lit (.bool b) => b
  | _ => false
theorem encO_ok {K : Type} {d : DataW K} (h : Sh.bool.wf d) : Sh.bool.enc d = [.y (.bool (toB d))] := by
  obtain ⟨l, rfl⟩ := h
  rfl
theorem Tryd.own : ownKnob Tryd.prog.godebug = Option.none := by kernel_rfl
theorem Tryd.laidOut : laidOutB Tryd.prog = true := by kernel_rfl
theorem Tryd.mapsRowed : mapsRowed Tryd.prog = true := by kernel_rfl
theorem Tryd.slicesOk : slicesOk Tryd.prog = true := by kernel_rfl
theorem underBool : Tryd.prog.underlying 4 = some .bool := by kernel_rfl
theorem relB {K : Type} {d : DataW K} (hd : (Sh.sl (.int .u8)).wf d) {H : HH} {E : Env} {v : Value} (h : Rel (slAV (.int .u8) d) H E v) : Rel (encBs true (listOf toI d)) H E v := conv_sl (encA := encB) (fun x hx => encI_ok hx) hd h
theorem relIs {K : Type} {d : DataW K} (hd : (Sh.sl (.int .i64)).wf d) {H : HH} {E : Env} {v : Value} (h : Rel (slAV (.int .i64) d) H E v) : Rel (encIs true (listOf toI d)) H E v := conv_sl (encA := encI) (fun x hx => encI_ok hx) hd h
def structTypes (P : Program) (t : TypeId) : Option (List TypeId) := match P.underlying t with | some (.struct fs) => some (fs.toList.map (·.type)) | _ => Option.none
theorem structTypes_ok {P : Program} {t : TypeId} {l : List TypeId} (h : structTypes P t = some l) : ∃ fs, P.underlying t = some (.struct fs) ∧ fs.toList.map (·.type) = l := by
  unfold structTypes at h
  split at h
  · rename_i fs hu
    exact ⟨fs, hu, Option.some.inj h⟩
  · cases h
theorem weights_elem {K : Type} {P : Program} {e : TypeId} : ∀ {xs : List (DataW K)}, (DataW.weightsAll P e xs).all (· ≤ reachBytes) = true → ∀ x ∈ xs, (x.weights P e).all (· ≤ reachBytes) = true
  | [], _, _, h => by cases h
  | y :: r, h, x, hx => by
    rw [DataW.weightsAll, List.all_append, Bool.and_eq_true] at h
    rcases List.mem_cons.1 hx with rfl | hx
    · exact h.1
    · exact weights_elem h.2 x hx
theorem weights_elems {K : Type} {P : Program} {t u : TypeId} {xs r : List (DataW K)} (hu : P.underlying t = some (.slice u)) (h : ((DataW.slice xs r).weights P t).all (· ≤ reachBytes) = true) : ∀ x ∈ xs, (x.weights P u).all (· ≤ reachBytes) = true := by
  rw [DataW.weights, hu] at h
  simp only [List.all_cons, List.all_append, Bool.and_eq_true] at h
  exact weights_elem h.2.1
theorem undIs : Tryd.prog.underlying 23 = some (.slice 3) := by kernel_rfl
theorem undBs : Tryd.prog.underlying 32 = some (.slice 5) := by kernel_rfl
theorem bytesB : Tryd.prog.bytesOf 5 = 1 := by kernel_rfl
theorem bs_sized {K : Type} {d : DataW K} (hw : (d.weights Tryd.prog 32).all (· ≤ reachBytes) = true) : (listOf toI d).length ≤ 140737488351232 := by
  have := weights_slice toI undBs hw
  rwa [bytesB, Nat.mul_one] at this
theorem int_le {K : Type} {d : DataW K} (h : (Sh.int .i64).wf d) : toI d ≤ 9223372036854775807 := by
  obtain ⟨k, n, rfl, w⟩ := h
  have := bounds_i64 w
  show n ≤ _
  omega
def shWr : Sh := .st [.str, .sl (.int .u8), .bool]
def toWr {K : Type} : DataW K → Wr
  | .agg [a, b, c] => ⟨toS a, listOf toI b, toB c⟩
  | _ => default
theorem wr_enc {K : Type} {d : DataW K} (hd : shWr.wf d) : ∃ a b c, d = .agg [a, b, c] ∧ (Sh.sl (.int .u8)).wf b ∧ shWr.enc d = [.y (.string (toS a)), slAV (.int .u8) b, .y (.bool (toB c))] := by
  obtain ⟨ds, rfl, d1, r1, rfl, w1, d2, r2, rfl, w2, d3, r3, rfl, w3, rfl⟩ := hd
  refine ⟨d1, d2, d3, rfl, w2, ?_⟩
  simp only [shWr, enc_st, enc_cons, enc_nil, encS_ok w1, slAV_eq, encO_ok w3]
  rfl
theorem wr_conv {K : Type} {d : DataW K} (hd : shWr.wf d) (j : Nat) (hj : j < 3) (H : HH) (E : Env) (v : Value) (h : Rel (Ax.get (shWr.enc d) j) H E v) : Rel (Ax.get (encW (toWr d)) j) H E v := by
  obtain ⟨a, b, c, rfl, wb, he⟩ := wr_enc hd
  rw [he] at h
  match j, hj with
  | 0, _ => exact h
  | 1, _ => exact relB wb h
  | 2, _ => exact h
theorem relWrs {K : Type} {d : DataW K} (hd : (Sh.sl shWr).wf d) {H : HH} {E : Env} {v : Value} (h : Rel (slAV shWr d) H E v) : Rel (encWs true (listOf toWr d)) H E v :=
  conv_slR (encA := encW) (fun x hx j hj H E v => wr_conv hx j hj H E v) hd h
theorem undWrs : Tryd.prog.underlying 22 = some (.slice 34) := by kernel_rfl
theorem bytesWr : Tryd.prog.bytesOf 34 = 48 := by kernel_rfl
theorem undWr : ∃ fs, Tryd.prog.underlying 34 = some (.struct fs) ∧ fs.toList.map (·.type) = [9, 32, 4] := structTypes_ok (by kernel_rfl)
theorem wr_sized {K : Type} {d : DataW K} (hd : shWr.wf d) (hw : (d.weights Tryd.prog 34).all (· ≤ reachBytes) = true) : (toWr d).b.length ≤ 140737488355328 := by
  obtain ⟨a, b, c, rfl, wb, _⟩ := wr_enc hd
  obtain ⟨fs, hf, ht⟩ := undWr
  have h := weights_struct hf hw
  rw [ht] at h
  obtain ⟨_, h⟩ := weights_cons h
  obtain ⟨h2, _⟩ := weights_cons h
  have k2 := bs_sized h2
  show (listOf toI b).length ≤ _
  omega
theorem wrs_ok {K : Type} {d : DataW K} (hd : (Sh.sl shWr).wf d) (hw : (d.weights Tryd.prog 22).all (· ≤ reachBytes) = true) : WrsOk (listOf toWr d) := by
  have hl := weights_slice toWr undWrs hw
  rw [bytesWr] at hl
  refine ⟨?_, by omega⟩
  rcases hd with rfl | ⟨xs, r, rfl, hx⟩
  · intro y hy; cases hy
  · intro y hy
    obtain ⟨x, hx', rfl⟩ := List.mem_map.1 hy
    exact wr_sized (hx x hx') (weights_elems undWrs hw x hx')
theorem hd_var : Tryd.prog.globalNamed "errors.errorType" = some 0 := by kernel_rfl
theorem hd_row : (Tryd.prog.cutTypes.find? (·.1 == "internal/reflectlite.rtype")).map (·.2) = some 103 := by kernel_rfl
theorem hd_one : ((List.range Tryd.prog.types.size).filter fun t => Tryd.prog.rowNamed t [101, 114, 114, 111, 114]) = [51] := by kernel_rfl
theorem gl_of {laid : List (String × DataW Unit)} {W : World} (hf : (laid.filter fun x => x.2.handleName?.isSome) = [("errors.errorType", Rows.laid_errors_errorType)]) (h : laidMetH Tryd.prog laid W) : GlOk W := by
  unfold laidMetH at h
  rw [hf] at h
  obtain ⟨name, u, ty, e1, e2, e3, e4, e5⟩ := h.2 _ (List.mem_singleton.2 rfl)
  have en : name = [101, 114, 114, 111, 114] := (Option.some.inj e1).symm
  subst en
  obtain rfl := Option.some.inj (hd_row.symm.trans e2)
  have hm : ty ∈ (List.range Tryd.prog.types.size).filter fun t => Tryd.prog.rowNamed t [101, 114, 114, 111, 114] := List.mem_filter.2 ⟨List.mem_range.2 e3, e4⟩
  rw [hd_one] at hm
  obtain rfl := List.mem_singleton.1 hm
  have hc := World.var?_cell hd_var e5 0
  intro p hp
  obtain rfl := List.mem_singleton.1 hp
  exact ⟨by kernel_rfl, hc⟩
noncomputable def hdWorld (os : Os) : World :=
  { World.holding Tryd.prog os ⟨#[], #[], []⟩ with heap := (World.holding Tryd.prog os ⟨#[], #[], []⟩).heap.modify 0 fun
      | .cells _ t frozen => .cells #[.iface 103 (.agg #[typeHandle Tryd.prog 51])] t frozen
      | o => o }
theorem laidMet_lay {P : Program} {w0 : World} {laid : List (String × DataW Unit)} (args : Array Value) (hf : w0.layFits P laid [] = true) (hi : w0.layIfaces P laid (w0.layVars P laid) = true) :
    laidMet P laid ((w0.layVars P laid).forCall (fun _ _ => 0) ⟨#[], args, []⟩).memory := by
  have e1 : (laid.filter fun x => (laid.map (·.1)).contains x.1) = laid := List.filter_eq_self.2 fun x hx => List.contains_iff_mem.2 (List.mem_map.2 ⟨x, hx, rfl⟩)
  have e2 : (laid.filter fun x => !(laid.map (·.1)).contains x.1) = [] := List.filter_eq_nil_iff.2 fun x hx => by rw [List.contains_iff_mem.2 (List.mem_map.2 ⟨x, hx, rfl⟩)]; simp
  have h : laidMet P laid (w0.layVars P laid) := laidMet_layVars (w0 := w0) (laid.map (·.1)) [] (by rw [e1]) (by rw [e1]; exact hf) (by rw [e1]; exact hi) (by rw [e2]; exact LaidIn.none)
  exact h.of_heap (by simp [World.memory, World.forCall, Input.heap])
end Go.Proofs.YtfiohpojlgkmkaaDoor.O

namespace Go.Proofs.YtfiohpojlgkmkaaDoor.O
open Go.Ax Go.Shelf Go.RowKit Go.ChangeShapes Go.WideShapes Go.ChangeAt
set_option maxRecDepth 1000000
def simdiskKeeps_laidL : List (String × DataW Unit) := Rows.simdiskKeepsRow.laid
noncomputable def simdiskKeeps_layW (os : Os) : World := World.layVars Tryd.prog (hdWorld os) (simdiskKeeps_laidL.filter fun x => x.2.handleName?.isNone)
theorem simdiskKeeps_lay_met (os : Os) (args : Array Value) : laidMetH Tryd.prog simdiskKeeps_laidL ((simdiskKeeps_layW os).forCall (fun _ _ => 0) ⟨#[], args, []⟩).memory :=
  laidMetH_of_parts (laidMet_lay args (by kernel_rfl) (by kernel_rfl)) (by kernel_rfl)
theorem simdiskKeeps_lifted (os : Os) (started : os.Started) (K : Type) (enc : TypeId × Value → K) :
    ReturnsInHanded {} Tryd.checked os 3 .any (fun w args => (Rows.simdiskKeepsSpec.pre enc Tryd.prog Tryd.f3 [] false w args ∧ laidMetH Tryd.prog simdiskKeeps_laidL w) ∧ sizedMet enc Tryd.prog Tryd.f3 (OpenSpec.ofChange Rows.simdiskKeepsSpec) false w args)
      (Rows.simdiskKeepsSpec.post enc Tryd.prog Tryd.f3 false true false false) := by
  refine returnsInHanded_of_change_and (C := Tryd.checked) (X := fun w _ => laidMetH Tryd.prog simdiskKeeps_laidL w) (fun _ _ _ hh h => h.of_heap hh) Tryd.own started (by kernel_rfl) Tryd.func3
    (ChangeSpec.witness_at (enc := enc) (C := Tryd.checked) (os := os) (X := fun w _ => laidMetH Tryd.prog simdiskKeeps_laidL w) false (simdiskKeeps_layW os) #[.slice Option.none 0 0, .int .i64 0, .slice Option.none 0 0] 8 rfl (by kernel_rfl) (by kernel_rfl) (by kernel_rfl) (by kernel_rfl) (by kernel_rfl) (simdiskKeeps_lay_met os _)) ?_
  intro W base args ds gs before hval0 hW hcnd hsz hL _
  have hps : Tryd.f3.params.toList = [22, 3, 23] := by kernel_rfl
  obtain ⟨p, q, hA, hV, hbef, hfz, hnd⟩ := id hW
  rw [hps] at hA hsz
  have ⟨hr, hwf⟩ := lift_all [.sl shWr, .int .i64, .sl (.int .i64)] (by kernel_rfl) hA
  obtain ⟨v1, v2, v3, d1, d2, d3, _, _, _, e1, rfl, _, _, _, _⟩ := trodAll_three hA
  obtain ⟨_, _, g1, w1, _, _, g2, w2, _, _, g3, w3, _⟩ := hwf
  obtain ⟨rfl, q1⟩ := List.cons.inj g1
  subst q1
  obtain ⟨rfl, q2⟩ := List.cons.inj g2
  subst q2
  obtain ⟨rfl, _⟩ := List.cons.inj g3
  subst e1
  obtain ⟨h1, hs1⟩ := weights_cons (P := Tryd.prog) (t := 22) (d := d1) hsz
  obtain ⟨h2, hs2⟩ := weights_cons (P := Tryd.prog) (t := 3) (d := d2) hs1
  obtain ⟨h3, hs3⟩ := weights_cons (P := Tryd.prog) (t := 23) (d := d3) hs2
  have r1 := hr.1
  rw [slAV_eq] at r1
  obtain ⟨s1, n1, c1, rfl⟩ := okWide_slice undWrs (hval0 0 _ _ (by kernel_rfl) rfl)
  obtain ⟨_, _, er, r1, _⟩ := r1
  cases er
  have r1 := relWrs w1 r1
  have r2 := hr.2.1
  rw [encI_ok w2] at r2
  obtain ⟨n2, rfl⟩ := okWide_int (show Tryd.prog.underlying 3 = some (.int .i64) by kernel_rfl) (hval0 1 _ _ (by kernel_rfl) rfl)
  obtain ⟨_, _, er, r2, _⟩ := r2
  cases er
  have r3 := hr.2.2.1
  rw [slAV_eq] at r3
  obtain ⟨s3, n3, c3, rfl⟩ := okWide_slice undIs (hval0 2 _ _ (by kernel_rfl) rfl)
  obtain ⟨_, _, er, r3, _⟩ := r3
  cases er
  have r3 := relIs w3 r3
  refine open_calls (call_of (keeps_c _ _ _ _ _ (int_le w2) (wrs_ok w1 h1))) (t := 4) (ds := [d1, d2, d3]) ⟨_, _, rfl, r1, _, _, rfl, r2, _, _, rfl, r3, rfl⟩ (by kernel_rfl) underBool rfl rfl Tryd.laidOut Tryd.mapsRowed Tryd.slicesOk (by rw [hps]; intro t ht; simp only [List.mem_cons, List.not_mem_nil, or_false] at ht; rcases ht with rfl | rfl | rfl <;> exact of_decide_eq_true (by kernel_rfl)) hW (gl_of (by kernel_rfl) hL)
theorem simdiskKeeps_holds : Rows.SimdiskKeepsSaid :=
  OpenClaim.holds_of_wide 3 Tryd.f3 rfl rfl rfl rfl rfl rfl rfl ⟨rfl, rfl, rfl, rfl, rfl⟩ rfl rfl rfl rfl rfl (by kernel_rfl) Tryd.func3 (by kernel_rfl)
    (of_decide_eq_true (by kernel_rfl)) (by unfold Func.isWrapper; first | (rw [if_pos (by decide +kernel)]; kernel_rfl) | (rw [if_neg (by decide +kernel)]; exact ⟨rfl, rfl⟩))
    (fun os started H enc _ => simdiskKeeps_lifted os started H enc)
theorem simdiskKeeps_said : Rows.SimdiskKeepsCardSaid :=
  Claim7.holds_tied_plain_at .later [] [.data, .handle, .pinned] true (true, "111258a9fa04bd350fa696b8a73a956b79ddd4e70140eac7e0ee6e1fd8316515") true
    simdiskKeeps_holds (fun _ h => by cases h) (by kernel_rfl) (fun _ h => by cases h) simdiskKeeps_row_tie rfl ⟨rfl, rfl⟩ (by kernel_rfl) rfl
    (fun f fn hf hfn => by
      obtain rfl : f = 3 := Option.some.inj ((show Tryd.prog.funcNamed "gazette/gazettelaw02.SimdiskKeeps" = some 3 by kernel_rfl).symm.trans hf) |>.symm
      obtain rfl : fn = Tryd.f3 := (Option.some.inj (Tryd.func3.symm.trans hfn)).symm
      exact ⟨by kernel_rfl, fun j t ht => by
        rw [show Tryd.f3.params = #[22, 3, 23] by kernel_rfl] at ht
        have h3 : t = 22 ∨ t = 3 ∨ t = 23 := by
          rcases j with _ | _ | _ | j
          · exact Or.inl (by simpa using ht.symm)
          · exact Or.inr (Or.inl (by simpa using ht.symm))
          · exact Or.inr (Or.inr ((by simpa using ht.symm)))
          · simp at ht
        rcases h3 with rfl | rfl | rfl
        · exact (show Tryd.prog.wantsStandIn 22 = false by kernel_rfl)
        · exact (show Tryd.prog.wantsStandIn 3 = false by kernel_rfl)
        · exact (show Tryd.prog.wantsStandIn 23 = false by kernel_rfl)⟩)
    (by kernel_rfl)
end Go.Proofs.YtfiohpojlgkmkaaDoor.O
namespace Go.Proofs.YtfiohpojlgkmkaaDoor
theorem keeps_said : Rows.SimdiskKeepsCardSaid := O.simdiskKeeps_said
end Go.Proofs.YtfiohpojlgkmkaaDoor
