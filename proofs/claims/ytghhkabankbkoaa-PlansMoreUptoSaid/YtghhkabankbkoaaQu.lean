import Derived.Test.YtghhkabankbkoaaQs
set_option linter.unusedVariables false
set_option linter.unusedSimpArgs false
/-! Plans: the law PlansMore. -/
namespace Go.Proofs.Ytghhkabankbkoaa
open Go.Ax
set_option maxRecDepth 1000000
structure Mo (a b : List Act) : Prop where
  ne : 1 ≤ b.length
  le : b.length ≤ a.length + 1
  st : 1 ≤ a.length → (a[0]?.getD default).kind = 4 → b[0]?.getD default = a[0]?.getD default
theorem mo_done {p : Plan} {x x' : Bool} {y y' : Act} (h : x = true → x' = true) (hy : ¬ y.kind = 4) : Mo (doneL p x y) (doneL p x' y') := by
  refine ⟨by unfold doneL; split <;> simp, by unfold doneL; split <;> split <;> simp, fun _ hk => ?_⟩
  cases x
  · exact absurd hk hy
  · rw [h rfl]; rfl
theorem inI_app (a b : List Int) (x : Int) (h : inI b x = true) : inI (a ++ b) x = true := by
  unfold inI at *
  rw [List.any_append, h, Bool.or_true]
theorem inS_app (a b : List Site) (x : Site) (h : inS b x = true) : inS (a ++ b) x = true := by
  unfold inS at *
  rw [List.any_append, h, Bool.or_true]
theorem miss_eq (l : List Site) (kind : Int) (nodes : List Int) (g : Int) : (missA l kind nodes g).length + cntB l g nodes = nodes.length := by
  unfold missA cntB
  rw [List.length_map]
  induction nodes with
  | nil => rfl
  | cons n t ih =>
    simp only [List.filter_cons, List.countP_cons, List.length_cons]
    cases inS l ⟨g, n⟩
    · simp; omega
    · simp; omega
theorem cnt_mono {l l' : List Site} (h : ∀ x, inS l x = true → inS l' x = true) (g : Int) (nodes : List Int) : cntB l g nodes ≤ cntB l' g nodes := by
  unfold cntB
  exact List.countP_mono_left fun n _ hn => h _ hn
theorem rest_kind {l : List Site} {kind : Int} {nodes gs : List Int} : ∀ x ∈ restA l kind nodes gs, x.kind = kind := by
  intro x hx
  unfold restA missA at hx
  simp at hx
  obtain ⟨_, _, _, _, rfl⟩ := hx
  rfl
theorem rest_mono {l l' : List Site} (h : ∀ x, inS l x = true → inS l' x = true) (kind : Int) (nodes gs : List Int) : (restA l' kind nodes gs).length ≤ (restA l kind nodes gs).length := by
  induction gs with
  | nil => exact Nat.le_refl _
  | cons g t ih =>
    have h1 := miss_eq l kind nodes g
    have h2 := miss_eq l' kind nodes g
    have h3 := cnt_mono h g nodes
    simp only [restA, List.flatMap_cons, List.length_append] at ih ⊢
    omega
theorem rest_pos {l : List Site} {kind : Int} {nodes gs : List Int} (hn : 0 < nodes.length) (h : gs.all (mostB l nodes) = false) : 1 ≤ (restA l kind nodes gs).length := by
  induction gs with
  | nil => cases h
  | cons g t ih =>
    simp only [restA, List.flatMap_cons, List.length_append] at ih ⊢
    have h1 := miss_eq l kind nodes g
    cases hm : mostB l nodes g
    · simp [mostB] at hm
      omega
    · rw [List.all_cons, hm, Bool.true_and] at h
      have := ih h
      omega
theorem mo_sites {l l' : List Site} (h : ∀ x, inS l x = true → inS l' x = true) {kind : Int} (hk : ¬ kind = 4) {p : Plan} (hn : 0 < p.nodes.length) (gs : List Int) : Mo (sitesL l kind p gs) (sitesL l' kind p gs) := by
  have hr := rest_mono h kind p.nodes gs
  have ha : gs.all (mostB l p.nodes) = true → gs.all (mostB l' p.nodes) = true := by
    intro h1
    rw [List.all_eq_true] at h1 ⊢
    intro g hg
    have h2 := h1 g hg
    have h3 := cnt_mono h g p.nodes
    simp [mostB] at h2 ⊢
    omega
  unfold sitesL
  refine ⟨?_, ?_, fun h1 h2 => ?_⟩
  · cases hx : gs.all (mostB l' p.nodes)
    · have := rest_pos (kind := kind) hn hx
      simp; omega
    · simp
  · simp only [List.length_append]
    split <;> split <;> simp <;> omega
  · cases hx : gs.all (mostB l p.nodes)
    · exfalso
      rw [hx] at h1 h2
      simp at h1 h2
      have hm : (restA l kind p.nodes gs)[0]?.getD default ∈ restA l kind p.nodes gs := by
        rw [List.getElem?_eq_getElem (by omega)]
        simp
      rw [rest_kind _ hm] at h2
      exact hk h2
    · rw [ha hx]; rfl
theorem ask_more (p : Plan) (s m : Seen) (hi : isPlan p = true) : Mo (askL p s) (askL p (s.more m)) := by
  have h := isP hi
  have hn : 0 < p.nodes.length := by simp [isPlan] at hi; omega
  have f : ∀ x, inI s.frozen x = true → inI (s.more m).frozen x = true := fun x => inI_app _ _ x
  have d : ∀ x, inS s.made x = true → inS (s.more m).made x = true := fun x => inS_app _ _ x
  have g : ∀ x, inS s.gone x = true → inS (s.more m).gone x = true := fun x => inS_app _ _ x
  have once : Mo [stepA p] [stepA p] := ⟨Nat.le_refl _, by simp, fun _ _ => rfl⟩
  unfold askL
  repeat' split
  · exact mo_done (fun h => h) (by unfold learnA; split <;> simp)
  · exact mo_done (fun h => h) (by unfold promA; split <;> simp)
  · exact mo_done (fun h => h) (by unfold remA; split <;> simp)
  · exact once
  · exact mo_done (g _) (by simp)
  · exact mo_done (f _) (by simp)
  · exact mo_done (f _) (by simp)
  · exact mo_sites d (by decide) hn _
  · exact once
  · exact mo_sites g (by decide) hn _
theorem app2_le {α : Type} [Inhabited α] {enc : α → List AV} {sz : Nat} (a b : List α) : contLe (a.length + b.length) sz (appRow a.length (cellsOf' enc a) (cellsOf' enc b)) (cellsOf' enc (a ++ b)) := by
  intro k hk j hj
  unfold appRow cellsOf'
  split
  · rename_i h
    simp [List.getElem?_append, h]
  · rename_i h
    simp [List.getElem?_append, h]
theorem more_c (p : Plan) (s m : Seen) (hp : p.Ok) (hs : s.Ok) (h1 : (m.frozen.length + s.frozen.length) * 8 ≤ 140737488351232) (h2 : (m.made.length + s.made.length) * 16 ≤ 140737488351232) (h3 : (m.gone.length + s.gone.length) * 16 ≤ 140737488351232) : (boolR true).Sat (ACall' Try.prog 6 [.agg (encPl true p), .agg (encSe true true s), .agg (encSe true true m)] []) := by
  have hs2 : (s.more m).Ok := ⟨by simp [Seen.more]; omega, by simp [Seen.more]; omega, by simp [Seen.more]; omega, hs.voters, hs.learners⟩
  cases hi : isPlan p
  · refine ctr_vc (ht := moreH false p s m) Try.mixed rfl ?_
    rw [vcMore2_eq p s m]
    unfold vcMore2
    simp [hp, hs, hi]
  · have hm := ask_more p s m hi
    have hl1 := askL_len (s := s) hi
    have hl2 := askL_len (s := s.more m) hi
    refine ctr_vc (ht := moreH true p s m) Try.mixed rfl ?_
    rw [vcMore_eq p s m]
    unfold vcMore
    have f1 : m.frozen.length ≤ m.frozen.length + s.frozen.length := Nat.le_add_right _ _
    simp [hp, hs, hi, hs2]
    intro hne
    have hpos : 0 < (askL p s).length := by cases h : askL p s with | nil => exact absurd h hne | cons _ _ => simp
    have hb := hm.ne
    refine ⟨⟨by omega, by omega⟩, ⟨by omega, by omega⟩, ⟨by omega, by omega⟩, ⟨by omega, by omega⟩, ⟨by omega, by omega⟩, ⟨by omega, by omega⟩, ⟨app2_le _ _, app2_le _ _, app2_le _ _⟩, tagAs _, ?_, fun _ => ⟨?_, fun _ => ⟨hpos, fun hk => ?_⟩⟩⟩
    · intro h; rw [h] at hb; simp at hb
    · rw [wrap_i64 (by omega) (by omega)]; have := hm.le; omega
    · rw [hm.st hpos hk]; exact ⟨by omega, hpos, rfl, rfl, rfl, rfl, rfl, rfl⟩
end Go.Proofs.Ytghhkabankbkoaa
